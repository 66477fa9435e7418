/- The law of runs that are all alike; no condition but that the arguments are of their kinds. -/
import Derived.Test.YtmedlplgeeeodaaTwLaw2
import Derived.Test.YtmedlplgeeeodaaTwSmall
namespace Go.Proofs.Ytmedlplgeeeodaa.Tw
open Go.RowKit Go.Proofs.Ytmedlplgeeeodaa.Plain Go.Proofs.Ytmedlplgeeeodaa.Heap Go.Proofs.Ytmedlplgeeeodaa.Open Go.Proofs.Ytmedlplgeeeodaa.Rows Go.Proofs.Ytmedlplgeeeodaa.Bits Go.Proofs.Ytmedlplgeeeodaa.Tail
def recs (h : Tw) (a b : Value) : Array Value := #[.int .u32 h.sn, .int .u32 h.md, .int .i64 h.fi, .int .i64 h.ba, .int .i64 h.ct, a, b]
theorem meas1 (k i : Nat) (hik : i < k) : (k - (intOf (.int .i64 ((i + 1 : Nat) : Int))).toNat) < k - (intOf (.int .i64 (i : Int))).toNat := by simp [intOf]; omega
theorem k_of (n : Int) : ∃ K : Nat, 1 ≤ (K : Int) ∧ (K : Int) ≤ 4096 ∧ wrap64 (1 + wrap64 ((IntKind.u64.wrap n).tmod 4096)) = (K : Int) := by
  have h := wrap_u64_nonneg n
  have h1 : (IntKind.u64.wrap n).tmod 4096 = (IntKind.u64.wrap n) % 4096 := Int.tmod_eq_emod_of_nonneg h
  rw [h1, IntWalk.wrap64_in ((IntKind.u64.wrap n) % 4096) (by omega), IntWalk.wrap64_in _ (by omega)]
  exact ⟨(1 + (IntKind.u64.wrap n) % 4096).toNat, by omega, by omega, by omega⟩
theorem s_of (n : Int) : ∃ s : Int, 0 ≤ s ∧ s ≤ 2 ∧ wrap64 ((IntKind.u64.wrap n).tmod 3) = s := by
  have h := wrap_u64_nonneg n
  have h1 : (IntKind.u64.wrap n).tmod 3 = (IntKind.u64.wrap n) % 3 := Int.tmod_eq_emod_of_nonneg h
  rw [h1, IntWalk.wrap64_in ((IntKind.u64.wrap n) % 3) (by omega)]
  exact ⟨_, by omega, by omega, rfl⟩
/-- The box and its two rows. -/
structure SM (w0 w : World) (b : Nat) (h : Tw) (v : Value) (n : Nat) (xs : List Int) (u : Value) (m : Nat) (ys : List Int) : Prop where
  bx : w.heap[b]? = some (.cells (recs h v u) 25 (0, 0))
  r1 : RW w 1 v n (nums .i64 xs)
  r2 : RW w 1 u m (nums .i64 ys)
  a1 : ∀ g, isAt v g → b < g ∧ ¬ isAt u g
  a2 : ∀ g, isAt u g → b < g
  hb : w0.heap.size ≤ b
  bw : Below w0.heap.size w0 w
section
variable {w0 w X w' : World} {b : Nat} {h : Tw} {v : Value} {n : Nat} {xs : List Int} {u : Value} {m : Nat} {ys : List Int}
theorem SM.lt (k : SM w0 w b h v n xs u m ys) : b < w.heap.size := (Array.getElem?_eq_some_iff.1 k.bx).1
theorem SM.len (k : SM w0 w b h v n xs u m ys) : m = ys.length := by
  have h1 := k.r2.1
  simp only [nums, List.length_map, Nat.mul_one] at h1
  exact h1.symm
theorem SM.one {v' : Value} {s : Int} (k : SM w0 w b h v n xs u m ys) (hX : Kept (fun _ => False) w X) (hk : Kept (isAt v) X w') (hr : RW w' 1 v' (n + 1) (nums .i64 xs ++ [.int .i64 s])) (hn : ∀ g, isAt v' g → isAt v g ∨ g = X.heap.size) :
    SM w0 (w'.setCell ⟨b, 5, none⟩ v') b h v' (n + 1) (xs ++ [s]) u m ys := by
  have hlt := k.lt
  have hXs := hX.size
  have hks := hk.size
  have hb0 := k.hb
  have e1 : Kept (isAt v) w w' := Kept.trans (S := isAt v) (hX.mono (fun _ _ e => e.elim)) hk (fun _ _ h => h)
  have h1 := (e1.block b hlt (fun e => by have := (k.a1 b e).1; omega)).trans k.bx
  have e2 : Kept (fun g => g = b) w' (w'.setCell ⟨b, 5, none⟩ v') := (Kept.refl (fun g => g = b) w').setCell (p := ⟨b, 5, none⟩) (.inl rfl) _
  have ha : ∀ g, isAt v' g → b < g ∧ ¬ isAt u g := fun g hg => by
    rcases hn g hg with h2 | h2
    · exact k.a1 g h2
    · exact ⟨by omega, fun h3 => by have := k.r2.lt h3; omega⟩
  refine ⟨by simp [World.setCell, Array.getElem?_modify, h1, recs], ?_, ?_, ha, k.a2, hb0, ?_⟩
  · rw [nums_append]
    exact hr.kept e2 (fun g hg e => by have := (ha g hg).1; omega)
  · exact (k.r2.kept e1 (fun g hg e => (k.a1 g e).2 hg)).kept e2 (fun g hg e => by have := k.a2 g hg; omega)
  · exact (Kept.trans (S := fun g => w0.heap.size ≤ g) (Kept.trans (S := fun g => w0.heap.size ≤ g) (Kept.of_below k.bw) e1 (fun g _ e => by have := (k.a1 g e).1; omega)) e2 (fun g _ e => by omega)).below (Nat.le_refl _) (fun _ h => h)
theorem SM.two {u' : Value} {s : Int} (k : SM w0 w b h v n xs u m ys) (hX : Kept (fun _ => False) w X) (hk : Kept (isAt u) X w') (hr : RW w' 1 u' (m + 1) (nums .i64 ys ++ [.int .i64 s])) (hn : ∀ g, isAt u' g → isAt u g ∨ g = X.heap.size) :
    SM w0 (w'.setCell ⟨b, 6, none⟩ u') b h v n xs u' (m + 1) (ys ++ [s]) := by
  have hlt := k.lt
  have hXs := hX.size
  have hks := hk.size
  have hb0 := k.hb
  have e1 : Kept (isAt u) w w' := Kept.trans (S := isAt u) (hX.mono (fun _ _ e => e.elim)) hk (fun _ _ h => h)
  have h1 := (e1.block b hlt (fun e => by have := k.a2 b e; omega)).trans k.bx
  have e2 : Kept (fun g => g = b) w' (w'.setCell ⟨b, 6, none⟩ u') := (Kept.refl (fun g => g = b) w').setCell (p := ⟨b, 6, none⟩) (.inl rfl) _
  have ha : ∀ g, isAt u' g → b < g := fun g hg => by
    rcases hn g hg with h2 | h2
    · exact k.a2 g h2
    · omega
  refine ⟨by simp [World.setCell, Array.getElem?_modify, h1, recs], ?_, ?_, fun g hg => ⟨(k.a1 g hg).1, fun h3 => ?_⟩, ha, hb0, ?_⟩
  · exact (k.r1.kept e1 (fun g hg e => (k.a1 g hg).2 e)).kept e2 (fun g hg e => by have := (k.a1 g hg).1; omega)
  · rw [nums_append]
    exact hr.kept e2 (fun g hg e => by have := ha g hg; omega)
  · rcases hn g h3 with h2 | h2
    · exact (k.a1 g hg).2 h2
    · have := k.r1.lt hg
      omega
  · exact (Kept.trans (S := fun g => w0.heap.size ≤ g) (Kept.trans (S := fun g => w0.heap.size ≤ g) (Kept.of_below k.bw) e1 (fun g _ e => by have := k.a2 g e; omega)) e2 (fun g _ e => by omega)).below (Nat.le_refl _) (fun _ h => h)
theorem SM.start {a c : Value} (hb : w0.heap.size ≤ b) (hw : Below w0.heap.size w0 w) (h0 : w.heap[b]? = some (.cells (recs h a c) 25 (0, 0))) :
    SM w0 ((w.setCell ⟨b, 5, none⟩ (.slice none 0 0)).setCell ⟨b, 6, none⟩ (.slice none 0 0)) b h (.slice none 0 0) 0 [] (.slice none 0 0) 0 [] := by
  have no : ∀ g, ¬ isAt (.slice none 0 0) g := fun g ⟨_, _, _, e⟩ => by cases e
  refine ⟨by simp [World.setCell, Array.getElem?_modify, h0, recs], RW.nil _ _, RW.nil _ _, fun g hg => (no g hg).elim, fun g hg => (no g hg).elim, hb, ?_⟩
  exact (((Kept.of_below (S := fun g => w0.heap.size ≤ g) hw).setCell (p := ⟨b, 5, none⟩) (.inl hb) _).setCell (p := ⟨b, 6, none⟩) (.inl hb) _).below (Nat.le_refl _) (fun _ h => h)
end
theorem sm_facts {E : ByteArray} {s : Int} {k : Nat} (k1 : 1 ≤ k) (k2 : k ≤ 4096) (s0 : 0 ≤ s) (s2 : s ≤ 2) (l1 : (E.size : Int) = (18 + s * k + 3) / 4 * 4) (l2 : val E 128 16 = s * 8192 + k) :
    ∃ L y16 y17 V M1 M2 M3 M4 Y2 S8 : Int, (E.size : Int) = L ∧ (∀ W, (Instr.index 9 (.string E) (.int .i64 16)).run Try.prog W = .ok (.int .u8 y16) W) ∧ (∀ W, (Instr.index 9 (.string E) (.int .i64 17)).run Try.prog W = .ok (.int .u8 y17) W) ∧
      IntKind.i64.wrap (s * k) = M1 ∧ IntKind.i64.wrap (18 + M1) = M2 ∧ IntKind.i64.wrap (M2 + 3) = M3 ∧ IntKind.i64.wrap (M3.tdiv 4) = M4 ∧ IntKind.i64.wrap (M4 * 4) = L ∧
      IntKind.i64.wrap y16 = y16 ∧ IntKind.i64.wrap y17 = y17 ∧ IntKind.i64.wrap (y16 * 256) = Y2 ∧ IntKind.i64.wrap (Y2 + y17) = V ∧ IntKind.i64.wrap (s * 8192) = S8 ∧ IntKind.i64.wrap (S8 + k) = V := by
  have c1 := val_cat E 128 8 8
  rw [show (128 : Nat) = 8 * 16 from rfl, show 8 * 16 + 8 = 8 * 17 from rfl, val_byte, val_byte] at c1
  have l3 : val E (8 * 16) (8 + 8) = s * 8192 + (k : Int) := l2
  rw [l3] at c1
  obtain ⟨M, hM⟩ : ∃ M, s * (k : Int) = M := ⟨_, rfl⟩
  have hM0 : 0 ≤ M ∧ M ≤ 8192 := by
    rw [← hM]
    rcases (show s = 0 ∨ s = 1 ∨ s = 2 by omega) with rfl | rfl | rfl <;> omega
  rw [hM] at l1 ⊢
  have p16 := by8_lt E 16
  have p17 := by8_lt E 17
  have ht : (M + 21).tdiv 4 = (M + 21) / 4 := Int.tdiv_eq_ediv_of_nonneg (by omega)
  refine ⟨(E.size : Int), ((by8 E 16 : Nat) : Int), ((by8 E 17 : Nat) : Int), s * 8192 + k, M, 18 + M, M + 21, (M + 21) / 4, ((by8 E 16 : Nat) : Int) * 256, s * 8192, rfl, run_byte E 16 (by omega), run_byte E 17 (by omega), IntWalk.i64_in _ (by omega), IntWalk.i64_in _ (by omega), ?_, ?_, ?_, IntWalk.i64_in _ (by omega), IntWalk.i64_in _ (by omega), IntWalk.i64_in _ (by omega), ?_, IntWalk.i64_in _ (by omega), IntWalk.i64_in _ (by omega)⟩
  · rw [show 18 + M + 3 = M + 21 by omega]; exact IntWalk.i64_in _ (by omega)
  · rw [ht]; exact IntWalk.i64_in _ (by omega)
  · rw [show (M + 21) / 4 * 4 = (E.size : Int) by rw [l1]; omega]; exact IntWalk.i64_in _ (by omega)
  · rw [show ((by8 E 16 : Nat) : Int) * 256 + ((by8 E 17 : Nat) : Int) = s * 8192 + k by omega]; exact IntWalk.i64_in _ (by omega)
set_option linter.unusedSimpArgs false in
set_option maxRecDepth 10000 in
set_option maxHeartbeats 8000000 in
theorem TwccSmall_any (v : Value) (h : Tw) (n st : Int) (w : World) (k : TC w v h) (ok : okT h) :
    Calls Try.prog 6 #[.int .i64 n, .int .i64 st, v] w fun e w' => e = .returned (.bool true) ∧ Below w.heap.size w w' := by
  obtain ⟨A, c, B, d, rfl, k1, k2, k3⟩ := k
  obtain ⟨b0, hb0⟩ : ∃ b0, b0 = w.heap.size := ⟨_, rfl⟩
  obtain ⟨W0, hW0⟩ : ∃ W0, W0 = w.alloc (.cells (recs h (.slice A h.st.length c) (.slice B h.ds.length d)) 25) := ⟨_, rfl⟩
  have HB0 := bx (show W0.heap[b0]? = some (.cells (recs h (.slice A h.st.length c) (.slice B h.ds.length d)) 25 (0, 0)) by rw [hW0, hb0]; exact heap_alloc_new w _)
  have HBW := bx (show Below w.heap.size w W0 by rw [hW0]; exact (Below.refl _ w).alloc (Nat.le_refl _) _)
  have HE := bx hb0
  have HW := bx hW0
  have OK := bx ok
  clear k1 k2 k3 hb0 hW0 ok
  obtain ⟨x0, x1, x2, x3, x4, x5, x6⟩ := cells7 HB0.out
  have f5 := frozen_of HB0.out 5
  have f6 := frozen_of HB0.out 6
  go_enter Try.func6, Try.ntmps6
  go_upto_region 1 with fail
  rw [show (#[Value.int .u32 h.sn, .int .u32 h.md, .int .i64 h.fi, .int .i64 h.ba, .int .i64 h.ct, .slice A h.st.length c, .slice B h.ds.length d] : Array Value) = recs h (.slice A h.st.length c) (.slice B h.ds.length d) from rfl, ← HW.out, ← HE.out]
  go_upto_region 3 with fail
  obtain ⟨K, K1, K2, hK⟩ := k_of n
  obtain ⟨s, S0, S2, hS⟩ := s_of st
  rw [hK, hS]
  have HSM := bx (SM.start (show w.heap.size ≤ b0 by rw [HE.out]; exact Nat.le_refl _) HBW.out HB0.out)
  obtain ⟨W1, hW1⟩ : ∃ W1, W1 = (W0.setCell ⟨b0, 5, none⟩ (.slice none 0 0)).setCell ⟨b0, 6, none⟩ (.slice none 0 0) := ⟨_, rfl⟩
  rw [← hW1] at HSM ⊢
  clear hW1 HB0 HBW HW HE hK hS x0 x1 x2 x3 x4 x5 x6 f5 f6
  go_wp2_with fail
  go_loopw [9] (fun i wr => ∃ (k m : Nat) (v u : Value), k ≤ K ∧ i = .int .i64 k ∧ SM w wr b0 h v k (List.replicate k s) u m (dl s k)) (fun i _ => K - (intOf i).toNat)
  case atStart => exact ⟨0, 0, _, _, Nat.zero_le _, rfl, by rw [dl_zero]; exact HSM.out⟩
  case round =>
    obtain ⟨k, m, v, u, hk, rfl, hrel⟩ := hrel
    have HM := bx hrel
    clear hrel HSM
    by_cases hlt : k < K
    · have hlt' : (k : Int) < (K : Int) := by omega
      obtain ⟨x0, x1, x2, x3, x4, x5, x6⟩ := cells7 HM.out.bx
      obtain ⟨A1, c1, rfl⟩ := HM.out.r1.shape
      have y5 := frozen_of HM.out.bx 5
      have hk6 : k ≤ 1000000 := by omega
      obtain ⟨X, hX⟩ : ∃ X, X = wr.alloc (.cells #[.int .i64 s] 3) := ⟨_, rfl⟩
      have HKX := bx (show Kept (fun _ => False) wr X by rw [hX]; exact (Kept.refl _ wr).alloc _)
      have HX := bx hX
      clear hX
      have hne : ¬ isAt (.slice A1 k c1) b0 := fun e => by have := (HM.out.a1 b0 e).1; omega
      have hbl : b0 < X.heap.size := Nat.lt_of_lt_of_le HM.out.lt HKX.out.size
      go_upto_region 7 with (first
        | (at_builtin
           refine wpList_row rfl (.tmp 29) (.tmp 31) 23 rfl 3 (.int .i64 0) 1 8 Try.underlying23 info_int rfl (by omega) (.slice A1 k c1) k (nums .i64 (List.replicate k s)) rfl (HM.out.r1.kept ((Kept.refl (fun _ => False) wr).alloc _) (fun _ _ => id)) _ _ [.int .i64 s] rfl (Rd.one wr _ _) (by simp [Value.oneCell']) hk6 ?_
           intro v3 w3 hr3 hk3 hn3
           obtain ⟨A3, c3, rfl⟩ := hr3.shape
           rw [← HX.out] at hk3 hn3
           have z5 := ck hk3 (ck HKX.out x5 id) hne
           have zf := (hk3.frozen (p := ⟨b0, 5, none⟩) hbl hne).trans ((HKX.out.frozen (p := ⟨b0, 5, none⟩) HM.out.lt id).trans y5)
           have HR3 := bx hr3
           have HK3 := bx hk3
           have HN3 := bx hn3
           clear hr3 hk3 hn3))
      have HM4 := bx (HM.out.one HKX.out HK3.out HR3.out HN3.out)
      obtain ⟨W4, hW4⟩ : ∃ W4, W4 = w3.setCell ⟨b0, 5, none⟩ (.slice A3 (k + 1) c3) := ⟨_, rfl⟩
      rw [← hW4] at HM4 ⊢
      rw [← rep_succ] at HM4
      clear hW4 z5 zf x0 x1 x2 x3 x4 x5 x6 y5 HX HKX HR3 HK3 HN3 HM hne hbl
      by_cases hs0 : 0 < s
      · obtain ⟨x0, x1, x2, x3, x4, x5, x6⟩ := cells7 HM4.out.bx
        have y6 := frozen_of HM4.out.bx 6
        obtain ⟨A2, c2, rfl⟩ := HM4.out.r2.shape
        have hm6 : m ≤ 1000000 := by
          have h1 := HM4.out.r2.1
          rw [show (nums .i64 (dl s k)).length = k by simp [nums, dl_len hs0]] at h1
          omega
        obtain ⟨D, hmod⟩ : ∃ D, Int.tmod (k : Int) 200 = D := ⟨_, rfl⟩
        have HD := bx (show ((k % 200 : Nat) : Int) = D by
          rw [← hmod, Int.tmod_eq_emod_of_nonneg (by omega)]
          omega)
        have hne : ¬ isAt (.slice A2 m c2) b0 := fun e => by have := HM4.out.a2 b0 e; omega
        obtain ⟨X, hX⟩ : ∃ X, X = W4.alloc (.cells #[.int .i64 D] 3) := ⟨_, rfl⟩
        have HKX := bx (show Kept (fun _ => False) W4 X by rw [hX]; exact (Kept.refl _ W4).alloc _)
        have HX := bx hX
        clear hX
        have hbl : b0 < X.heap.size := Nat.lt_of_lt_of_le HM4.out.lt HKX.out.size
        go_upto_region 5 with (first
          | (at_builtin
             refine wpList_row rfl (.tmp 37) (.tmp 40) 23 rfl 3 (.int .i64 0) 1 8 Try.underlying23 info_int rfl (by omega) (.slice A2 m c2) m (nums .i64 (dl s k)) rfl (HM4.out.r2.kept ((Kept.refl (fun _ => False) W4).alloc _) (fun _ _ => id)) _ _ [.int .i64 D] rfl (Rd.one W4 _ _) (by simp [Value.oneCell']) hm6 ?_
             intro v3 w3 hr3 hk3 hn3
             obtain ⟨A5, c5, rfl⟩ := hr3.shape
             rw [← HX.out] at hk3 hn3
             have z6 := ck hk3 (ck HKX.out x6 id) hne
             have zf := (hk3.frozen (p := ⟨b0, 6, none⟩) hbl hne).trans ((HKX.out.frozen (p := ⟨b0, 6, none⟩) HM4.out.lt id).trans y6)
             have HR3 := bx hr3
             have HK3 := bx hk3
             have HN3 := bx hn3
             clear hr3 hk3 hn3))
        have HM5 := bx (HM4.out.two HKX.out HK3.out HR3.out HN3.out)
        obtain ⟨W5, hW5⟩ : ∃ W5, W5 = w3.setCell ⟨b0, 6, none⟩ (.slice A5 (m + 1) c5) := ⟨_, rfl⟩
        rw [← hW5] at HM5 ⊢
        rw [← HD.out, ← dl_succ hs0] at HM5
        clear hW5 z6 zf x0 x1 x2 x3 x4 x5 x6 y6 HX HKX HR3 HK3 HN3 HM4 hne hbl hmod
        go_wp2_with fail
        go_roundw
        case rel => exact ⟨k + 1, m + 1, _, _, by omega, by go_num, HM5.out⟩
        case measure => exact meas1 K k hlt
      · have e1 : dl s (k + 1) = dl s k := by rw [dl_none hs0, dl_none hs0]
        rw [← e1] at HM4
        go_wp2_with fail
        go_roundw
        case rel => exact ⟨k + 1, m, _, _, by omega, by go_num, HM4.out⟩
        case measure => exact meas1 K k hlt
    · obtain rfl : k = K := by omega
      obtain ⟨h2, hh2⟩ : ∃ h2 : Tw, h2 = (h.sn, h.md, h.fi, h.ba, h.ct, List.replicate k s, dl s k) := ⟨_, rfl⟩
      obtain ⟨A1, c1, rfl⟩ := HM.out.r1.shape
      obtain ⟨A2, c2, rfl⟩ := HM.out.r2.shape
      have HNK := bx (show k = h2.st.length by rw [hh2]; exact List.length_replicate.symm)
      have HMM := bx (show m = h2.ds.length by rw [hh2]; exact HM.out.len)
      have OK2 := bx (show okT h2 by
        have o := OK.out
        rw [hh2]
        refine ⟨o.n0, o.n1, o.m0, o.m1, o.f0, o.f1, o.b0, o.b1, o.c0, o.c1, fun x hx => ?_, fun x hx => ?_⟩
        · rw [List.eq_of_mem_replicate (show x ∈ List.replicate k s from hx)]; omega
        · have := dl_rng s k x hx; omega)
      have HSMALL := bx (show small h2 by
        rw [hh2]
        refine ⟨?_, ?_⟩
        · show (List.replicate k s).length ≤ 5000
          rw [List.length_replicate]; omega
        · show (dl s k).length ≤ 5000
          by_cases h0 : 0 < s
          · rw [dl_len h0]; omega
          · rw [dl_none h0]; simp)
      have HL := bx (fun hg : goodT h2 = true => enc_small (s := s) (k := k) hg ⟨S0, S2⟩ (by omega) (by omega) (by rw [hh2]; rfl))
      have HTX := bx (show TX w wr b0 h2 A1 c1 A2 c2 by
        have hx := HM.out
        obtain ⟨x0, x1, x2, x3, x4, x5, x6⟩ := cells7 hx.bx
        refine ⟨?_, ?_, ?_, ?_, ?_, ?_, ?_, ?_, ?_, hx.bw⟩
        · have := hx.r1.rd; rw [← HNK.out, hh2]; exact this
        · have := hx.r2.rd; rw [← HMM.out, hh2]; exact this
        · rw [hh2]; exact x0
        · rw [hh2]; exact x1
        · rw [hh2]; exact x2
        · rw [hh2]; exact x3
        · rw [hh2]; exact x4
        · rw [← HNK.out]; exact x5
        · rw [← HMM.out]; exact x6)
      clear hh2 HM
      obtain ⟨x0, x1, x2, x3, x4, x5, x6⟩ := tx_cells HTX.out HNK.out HMM.out
      go_wp2_with fail
      refine (copy_any _ h2 wr (tr_agg HTX.out.tr HNK.out HMM.out) HSMALL.out).mono ?_
      rintro e W2 ⟨v2, rfl, ⟨A3, c3, B3, d3, rfl, k1, k2, k3⟩, hb⟩
      have H2 := bx (HTX.out.run hb)
      have HTC := bx (show TC W2 (.agg #[.int .u32 h2.sn, .int .u32 h2.md, .int .i64 h2.fi, .int .i64 h2.ba, .int .i64 h2.ct, .slice A3 k c3, .slice B3 m d3]) h2 from ⟨A3, c3, B3, d3, by rw [HNK.out, HMM.out], k1, k2, k3⟩)
      clear hb k1 k2 k3 x0 x1 x2 x3 x4 x5 x6
      rw [← HNK.out, ← HMM.out]
      go_wp2_with fail
      refine (encode_any _ h2 W2 HTC.out OK2.out).mono ?_
      obtain ⟨E1, hE1⟩ : ∃ E1, E1 = (encR h2).1 := ⟨_, rfl⟩
      obtain ⟨E2, hE2⟩ : ∃ E2, E2 = (encR h2).2 := ⟨_, rfl⟩
      rw [← hE1, ← hE2]
      rintro e W3 ⟨rfl, hb⟩
      have H3 := bx (H2.out.run hb)
      obtain ⟨x0, x1, x2, x3, x4, x5, x6⟩ := tx_cells H3.out HNK.out HMM.out
      have HEE1 := bx hE1
      have HEE2 := bx hE2
      clear hb HTC hE1 hE2
      go_wp2_with fail
      refine (rgood_any _ h2 W3 (tr_agg H3.out.tr HNK.out HMM.out)).mono ?_
      rintro e W4 ⟨rfl, hb⟩
      have H4 := bx (H3.out.run hb)
      clear hb x0 x1 x2 x3 x4 x5 x6
      cases hg : goodT h2 with
      | false =>
        have hE1 := HEE1.out
        have hE2 := HEE2.out
        rw [encR_bad hg] at hE1 hE2
        simp only at hE1 hE2
        clear hg HL HEE1 HEE2
        subst hE1 hE2
        go_wp2_with fail
        refine (wakes_any W4).mono ?_
        rintro e W99 ⟨rfl, hb99⟩
        have H99 := bx (H4.out.run hb99)
        clear hb99
        go_wp2_with fail
        go_ret
        exact ⟨rfl, H99.out.bw⟩
      | true =>
        have hE1 := HEE1.out
        have hE2 := HEE2.out
        rw [encR_good hg] at hE1 hE2
        simp only at hE1 hE2
        clear HEE1 HEE2
        obtain ⟨l1, l2⟩ := HL.out hg
        subst hE2
        rw [← hE1] at l1 l2
        clear hE1 hg HL
        obtain ⟨L, y16, y17, V, M1, M2, M3, M4, Y2, S8, hL, i16, i17, e1, e2, e3, e4, e5, e6, e7, e8, e9, e10, e11⟩ := sm_facts (by omega) (by omega) S0 S2 l1 l2
        clear l1 l2
        have H5 := bx (H4.out.run (w' := W4.drew) ((Kept.refl (fun _ => False) W4).drew.below (Nat.le_refl _) (fun _ e => e.elim)))
        have HS : True := trivial
        go_upto_region 12 with fail
        refine Tail.start 32 (fun _ => True) (by kernel_rfl) ?_
        obtain ⟨Y, hY⟩ : ∃ Y, Y = W4.drew := ⟨_, rfl⟩
        rw [← hY] at H5 ⊢
        clear hY
        refine Tail.take 0 rfl (by kernel_rfl) (fun _ _ _ h => h) (by rfl) HS (fun w hSw => by (try dsimp only at hSw); go_simp; (try with_reducible rfl)) ?_
        try simp only [List.getElem_toArray, List.getElem_cons_succ, List.getElem_cons_zero, Act.put, List.setIfInBounds_toArray, List.set_cons_zero, List.set_cons_succ]
        refine Tail.take 1 rfl (by kernel_rfl) (fun _ _ _ h => h) (by rfl) HS (fun w hSw => by (try dsimp only at hSw); go_simp; (try with_reducible rfl)) ?_
        try simp only [List.getElem_toArray, List.getElem_cons_succ, List.getElem_cons_zero, Act.put, List.setIfInBounds_toArray, List.set_cons_zero, List.set_cons_succ]
        refine Tail.take 2 rfl (by kernel_rfl) (fun _ _ _ h => h) (by rfl) HS (fun w hSw => by (try dsimp only at hSw); go_simp; (try with_reducible rfl)) ?_
        try simp only [List.getElem_toArray, List.getElem_cons_succ, List.getElem_cons_zero, Act.put, List.setIfInBounds_toArray, List.set_cons_zero, List.set_cons_succ]
        refine Tail.take 3 rfl (by kernel_rfl) (fun _ _ _ h => h) (by rfl) HS (fun w hSw => by (try dsimp only at hSw); go_simp; (try with_reducible rfl)) ?_
        try simp only [List.getElem_toArray, List.getElem_cons_succ, List.getElem_cons_zero, Act.put, List.setIfInBounds_toArray, List.set_cons_zero, List.set_cons_succ]
        refine Tail.take 4 rfl (by kernel_rfl) (fun _ _ _ h => h) (by rfl) HS (fun w hSw => by (try dsimp only at hSw); go_simp; (try with_reducible rfl)) ?_
        try simp only [List.getElem_toArray, List.getElem_cons_succ, List.getElem_cons_zero, Act.put, List.setIfInBounds_toArray, List.set_cons_zero, List.set_cons_succ]
        refine Tail.take 5 rfl (by kernel_rfl) (fun _ _ _ h => h) (by rfl) HS (fun w hSw => by (try dsimp only at hSw); go_simp; (try with_reducible rfl)) ?_
        try simp only [List.getElem_toArray, List.getElem_cons_succ, List.getElem_cons_zero, Act.put, List.setIfInBounds_toArray, List.set_cons_zero, List.set_cons_succ]
        refine Tail.take 6 rfl (by kernel_rfl) (fun _ _ _ h => h) (by rfl) HS (fun w hSw => by (try dsimp only at hSw); go_simp; (try with_reducible rfl)) ?_
        try simp only [List.getElem_toArray, List.getElem_cons_succ, List.getElem_cons_zero, Act.put, List.setIfInBounds_toArray, List.set_cons_zero, List.set_cons_succ]
        refine Tail.take 7 rfl (by kernel_rfl) (fun _ _ _ h => h) (by rfl) HS (fun w hSw => by (try dsimp only at hSw); go_simp; (try with_reducible rfl)) ?_
        try simp only [List.getElem_toArray, List.getElem_cons_succ, List.getElem_cons_zero, Act.put, List.setIfInBounds_toArray, List.set_cons_zero, List.set_cons_succ]
        refine Tail.take 8 rfl (by kernel_rfl) (fun _ _ _ h => h) (by rfl) HS (fun w hSw => by (try dsimp only at hSw); go_simp; (try with_reducible rfl)) ?_
        try simp only [List.getElem_toArray, List.getElem_cons_succ, List.getElem_cons_zero, Act.put, List.setIfInBounds_toArray, List.set_cons_zero, List.set_cons_succ]
        refine Tail.take 9 rfl (by kernel_rfl) (fun _ _ _ h => h) (by rfl) HS (fun w hSw => by (try dsimp only at hSw); go_simp; (try with_reducible rfl)) ?_
        try simp only [List.getElem_toArray, List.getElem_cons_succ, List.getElem_cons_zero, Act.put, List.setIfInBounds_toArray, List.set_cons_zero, List.set_cons_succ]
        refine Tail.take 10 rfl (by kernel_rfl) (fun _ _ _ h => h) (by rfl) HS (fun w hSw => by (try dsimp only at hSw); go_simp; (try with_reducible rfl)) ?_
        try simp only [List.getElem_toArray, List.getElem_cons_succ, List.getElem_cons_zero, Act.put, List.setIfInBounds_toArray, List.set_cons_zero, List.set_cons_succ]
        refine Tail.take 11 rfl (by kernel_rfl) (fun _ _ _ h => h) (by rfl) HS (fun w hSw => by (try dsimp only at hSw); go_simp; (try with_reducible rfl)) ?_
        try simp only [List.getElem_toArray, List.getElem_cons_succ, List.getElem_cons_zero, Act.put, List.setIfInBounds_toArray, List.set_cons_zero, List.set_cons_succ]
        refine Tail.take 12 rfl (by kernel_rfl) (fun _ _ _ h => h) (by rfl) HS (fun w hSw => by (try dsimp only at hSw); go_simp; (try with_reducible rfl)) ?_
        try simp only [List.getElem_toArray, List.getElem_cons_succ, List.getElem_cons_zero, Act.put, List.setIfInBounds_toArray, List.set_cons_zero, List.set_cons_succ]
        refine Tail.take 13 rfl (by kernel_rfl) (fun _ _ _ h => h) (by rfl) HS (fun w hSw => by (try dsimp only at hSw); go_simp; (try with_reducible rfl)) ?_
        try simp only [List.getElem_toArray, List.getElem_cons_succ, List.getElem_cons_zero, Act.put, List.setIfInBounds_toArray, List.set_cons_zero, List.set_cons_succ]
        refine Tail.take 14 rfl (by kernel_rfl) (fun _ _ _ h => h) (by rfl) HS (fun w hSw => by (try dsimp only at hSw); go_simp; (try with_reducible rfl)) ?_
        try simp only [List.getElem_toArray, List.getElem_cons_succ, List.getElem_cons_zero, Act.put, List.setIfInBounds_toArray, List.set_cons_zero, List.set_cons_succ]
        refine Tail.take 15 rfl (by kernel_rfl) (fun _ _ _ h => h) (by rfl) HS (fun w hSw => by (try dsimp only at hSw); go_simp; (try with_reducible rfl)) ?_
        try simp only [List.getElem_toArray, List.getElem_cons_succ, List.getElem_cons_zero, Act.put, List.setIfInBounds_toArray, List.set_cons_zero, List.set_cons_succ]
        refine Tail.take 16 rfl (by kernel_rfl) (fun _ _ _ h => h) (by rfl) HS (fun w hSw => by (try dsimp only at hSw); go_simp; (try with_reducible rfl)) ?_
        try simp only [List.getElem_toArray, List.getElem_cons_succ, List.getElem_cons_zero, Act.put, List.setIfInBounds_toArray, List.set_cons_zero, List.set_cons_succ]
        refine Tail.take 17 rfl (by kernel_rfl) (fun _ _ _ h => h) (by rfl) HS (fun w hSw => by (try dsimp only at hSw); go_simp; (try with_reducible rfl)) ?_
        try simp only [List.getElem_toArray, List.getElem_cons_succ, List.getElem_cons_zero, Act.put, List.setIfInBounds_toArray, List.set_cons_zero, List.set_cons_succ]
        refine Tail.take 18 rfl (by kernel_rfl) (fun _ _ _ h => h) (by rfl) HS (fun w hSw => by (try dsimp only at hSw); go_simp; (try with_reducible rfl)) ?_
        try simp only [List.getElem_toArray, List.getElem_cons_succ, List.getElem_cons_zero, Act.put, List.setIfInBounds_toArray, List.set_cons_zero, List.set_cons_succ]
        refine Tail.take 19 rfl (by kernel_rfl) (fun _ _ _ h => h) (by rfl) HS (fun w hSw => by (try dsimp only at hSw); go_simp; (try with_reducible rfl)) ?_
        try simp only [List.getElem_toArray, List.getElem_cons_succ, List.getElem_cons_zero, Act.put, List.setIfInBounds_toArray, List.set_cons_zero, List.set_cons_succ]
        refine Tail.take 20 rfl (by kernel_rfl) (fun _ _ _ h => h) (by rfl) HS (fun w hSw => by (try dsimp only at hSw); go_simp; (try with_reducible rfl)) ?_
        try simp only [List.getElem_toArray, List.getElem_cons_succ, List.getElem_cons_zero, Act.put, List.setIfInBounds_toArray, List.set_cons_zero, List.set_cons_succ]
        refine Tail.take 21 rfl (by kernel_rfl) (fun _ _ _ h => h) (by rfl) HS (fun w hSw => by (try dsimp only at hSw); go_simp; (try with_reducible rfl)) ?_
        try simp only [List.getElem_toArray, List.getElem_cons_succ, List.getElem_cons_zero, Act.put, List.setIfInBounds_toArray, List.set_cons_zero, List.set_cons_succ]
        refine Tail.take 22 rfl (by kernel_rfl) (fun _ _ _ h => h) (by rfl) HS (fun w hSw => by (try dsimp only at hSw); go_simp; (try with_reducible rfl)) ?_
        try simp only [List.getElem_toArray, List.getElem_cons_succ, List.getElem_cons_zero, Act.put, List.setIfInBounds_toArray, List.set_cons_zero, List.set_cons_succ]
        refine Tail.take 23 rfl (by kernel_rfl) (fun _ _ _ h => h) (by rfl) HS (fun w hSw => by (try dsimp only at hSw); go_simp; (try with_reducible rfl)) ?_
        try simp only [List.getElem_toArray, List.getElem_cons_succ, List.getElem_cons_zero, Act.put, List.setIfInBounds_toArray, List.set_cons_zero, List.set_cons_succ]
        refine Tail.take 24 rfl (by kernel_rfl) (fun _ _ _ h => h) (by rfl) HS (fun w hSw => by (try dsimp only at hSw); go_simp; (try with_reducible rfl)) ?_
        try simp only [List.getElem_toArray, List.getElem_cons_succ, List.getElem_cons_zero, Act.put, List.setIfInBounds_toArray, List.set_cons_zero, List.set_cons_succ]
        refine Tail.take 25 rfl (by kernel_rfl) (fun _ _ _ h => h) (by rfl) HS (fun w hSw => by (try dsimp only at hSw); go_simp; (try with_reducible rfl)) ?_
        try simp only [List.getElem_toArray, List.getElem_cons_succ, List.getElem_cons_zero, Act.put, List.setIfInBounds_toArray, List.set_cons_zero, List.set_cons_succ]
        refine Tail.take 26 rfl (by kernel_rfl) (fun _ _ _ h => h) (by rfl) HS (fun w hSw => by (try dsimp only at hSw); go_simp; (try with_reducible rfl)) ?_
        try simp only [List.getElem_toArray, List.getElem_cons_succ, List.getElem_cons_zero, Act.put, List.setIfInBounds_toArray, List.set_cons_zero, List.set_cons_succ]
        refine Tail.take 27 rfl (by kernel_rfl) (fun _ _ _ h => h) (by rfl) HS (fun w hSw => by (try dsimp only at hSw); go_simp; (try with_reducible rfl)) ?_
        try simp only [List.getElem_toArray, List.getElem_cons_succ, List.getElem_cons_zero, Act.put, List.setIfInBounds_toArray, List.set_cons_zero, List.set_cons_succ]
        refine Tail.take 28 rfl (by kernel_rfl) (fun _ _ _ h => h) (by rfl) HS (fun w hSw => by (try dsimp only at hSw); go_simp; (try with_reducible rfl)) ?_
        try simp only [List.getElem_toArray, List.getElem_cons_succ, List.getElem_cons_zero, Act.put, List.setIfInBounds_toArray, List.set_cons_zero, List.set_cons_succ]
        refine Tail.take 29 rfl (by kernel_rfl) (fun _ _ _ h => h) (by rfl) HS (fun w hSw => by (try dsimp only at hSw); go_simp; (try with_reducible rfl)) ?_
        try simp only [List.getElem_toArray, List.getElem_cons_succ, List.getElem_cons_zero, Act.put, List.setIfInBounds_toArray, List.set_cons_zero, List.set_cons_succ]
        -- 30: call call { callee := Callee.value (Operand.func 9), args := #[], argTypes := #[] }
        refine Tail.one 30 rfl (by kernel_rfl) (fun K hK => ?_)
        go_simp
        refine (wakes_any Y).mono ?_
        rintro e W99 ⟨rfl, hb99⟩
        have H99 := bx (H5.out.run hb99)
        clear hb99
        refine hK.out _ _ HS ?_
        clear hK K
        try simp only [List.getElem_toArray, List.getElem_cons_succ, List.getElem_cons_zero, Act.put, List.setIfInBounds_toArray, List.set_cons_zero, List.set_cons_succ]
        refine Tail.take 31 rfl (by kernel_rfl) (fun _ _ _ h => h) (by rfl) HS (fun w hSw => by (try dsimp only at hSw); go_simp; (try with_reducible rfl)) ?_
        try simp only [List.getElem_toArray, List.getElem_cons_succ, List.getElem_cons_zero, Act.put, List.setIfInBounds_toArray, List.set_cons_zero, List.set_cons_succ]
        refine Tail.tail 32 rfl (by kernel_rfl) ?_
        simp only [List.drop_succ_cons, List.drop_zero]
        clear HS
        try simp only [List.getElem_toArray, List.getElem_cons_succ, List.getElem_cons_zero, List.setIfInBounds_toArray, List.set_cons_zero, List.set_cons_succ]
        go_wp2_with fail
        go_ret
        exact ⟨rfl, H99.out.bw⟩
theorem TwccSmall_row (n st : Int) (c0 : Array Value) (z0) (w : World) (_ : (Lit.int .i64 n).wf = true) (_ : (Lit.int .i64 st).wf = true) (h : rT w c0.toList z0) :
    Calls Try.prog 6 #[.int .i64 n, .int .i64 st, .agg c0] w fun e w' => e = .returned (.bool true) ∧ Below w.heap.size w w' := by
  obtain ⟨r, hr, ok⟩ : ∃ r, TC w (.agg c0) r ∧ okT r := ⟨_, arg_rep h⟩
  exact TwccSmall_any _ r n st w hr ok
end Go.Proofs.Ytmedlplgeeeodaa.Tw
