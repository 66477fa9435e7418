/- What Large and Copy come to; no condition but the ranges in each. -/
import Derived.Test.YtmedlplgeeeodaaTwRep
import Derived.Test.YtmedlplgeeeodaaBitsY
namespace Go.Proofs.Ytmedlplgeeeodaa.Tw
open Go.RowKit Go.Proofs.Ytmedlplgeeeodaa.Plain Go.Proofs.Ytmedlplgeeeodaa.Heap Go.Proofs.Ytmedlplgeeeodaa.Open Go.Proofs.Ytmedlplgeeeodaa.Rows Go.Proofs.Ytmedlplgeeeodaa.Bits
def zeroT : Tw := (0, 0, 0, 0, 0, [], [])
abbrev zcs : Array Value := #[.int .u32 0, .int .u32 0, .int .i64 0, .int .i64 0, .int .i64 0, .slice none 0 0, .slice none 0 0]
abbrev dcs (a b c d e : Int) (lv xv : Value) : Array Value := #[.int .u32 a, .int .u32 b, .int .i64 c, .int .i64 d, .int .i64 e, lv, xv]
theorem tr_zero (w : World) : TR w (.agg zcs) zeroT := ⟨none, 0, none, 0, rfl, ⟨rfl, fun h => absurd h (Nat.lt_irrefl _)⟩, ⟨rfl, fun h => absurd h (Nat.lt_irrefl _)⟩⟩
theorem twcc_size : (Try.prog.info? 25).map (·.size) = some 7 := by kernel_rfl
theorem info_int : (Try.prog.info? 3).map (fun i => (i.zero, i.size, i.bytes)) = some (some (.int .i64 0), 1, 8) := by kernel_rfl
def small (h : Tw) : Prop := h.st.length ≤ 5000 ∧ h.ds.length ≤ 5000
def largeB (h : Tw) : Bool := decide (5000 < h.st.length) || decide (5000 < h.ds.length)
theorem small_of {h : Tw} (k : largeB h = false) : small h := by
  unfold largeB at k
  rw [Bool.or_eq_false_iff, decide_eq_false_iff_not, decide_eq_false_iff_not] at k
  exact ⟨by omega, by omega⟩
set_option maxRecDepth 10000 in
theorem large_any (v : Value) (h : Tw) (w : World) (k : TR w v h) :
    Calls Try.prog 8 #[v] w fun e w' => e = .returned (.bool (largeB h)) ∧ Below w.heap.size w w' := by
  obtain ⟨A, c, B, d, rfl, k1, k2⟩ := k
  obtain ⟨b0, hb0⟩ : ∃ b0, b0 = w.heap.size := ⟨_, rfl⟩
  obtain ⟨W0, hW0⟩ : ∃ W0, W0 = w.alloc (.cells (tcs h A c B d) 25) := ⟨_, rfl⟩
  have H0 := Lib.hid (show TX w W0 b0 h A c B d by rw [hb0]; exact TX.new (Below.refl _ w) k1 k2 hW0)
  have HE := Lib.hid hb0
  have HW := Lib.hid hW0
  clear k1 k2 hb0 hW0
  have x5 := H0.out.c5
  have x6 := H0.out.c6
  obtain ⟨a, ha⟩ : ∃ a, a = h.st.length := ⟨_, rfl⟩
  obtain ⟨b, hb⟩ : ∃ b, b = h.ds.length := ⟨_, rfl⟩
  rw [← ha] at x5
  rw [← hb] at x6
  have HA := Lib.hid ha
  have HB := Lib.hid hb
  clear ha hb
  go_enter Try.func8, Try.ntmps8
  go_upto_region 1 with fail
  rw [← HW.out, ← HE.out]
  by_cases h1 : 5000 < (a : Int)
  · have HL := Lib.hid (show largeB h = true by unfold largeB; rw [decide_eq_true (p := 5000 < h.st.length) (by have := HA.out; omega)]; rfl)
    have q1 : decide (5000 < (a : Int)) = true := decide_eq_true h1
    clear h1
    go_wp2_with fail
    go_ret
    exact ⟨by rw [HL.out]; rfl, H0.out.bw⟩
  · have q1 : decide (5000 < (a : Int)) = false := decide_eq_false h1
    by_cases h2 : 5000 < (b : Int)
    · have HL := Lib.hid (show largeB h = true by unfold largeB; rw [decide_eq_true (p := 5000 < h.ds.length) (by have := HB.out; omega), Bool.or_true])
      have q2 : decide (5000 < (b : Int)) = true := decide_eq_true h2
      clear h1 h2
      go_wp2_with fail
      go_ret
      exact ⟨by rw [HL.out]; rfl, H0.out.bw⟩
    · have HL := Lib.hid (show largeB h = false by unfold largeB; rw [decide_eq_false (p := 5000 < h.ds.length) (by have := HB.out; omega), decide_eq_false (p := 5000 < h.st.length) (by have := HA.out; omega)]; rfl)
      have q2 : decide (5000 < (b : Int)) = false := decide_eq_false h2
      clear h1 h2
      go_wp2_with fail
      go_ret
      exact ⟨by rw [HL.out]; rfl, H0.out.bw⟩
theorem stored7 {w : World} {b : Nat} {x0 x1 x2 x3 x4 x5 x6 u0 u1 u2 u3 u4 u5 u6 : Value} {t : TypeId} (h : w.heap[b]? = some (.cells #[x0, x1, x2, x3, x4, x5, x6] t (0, 0))) :
    (((((((w.setCell ⟨b, 0, none⟩ u0).setCell ⟨b, 1, none⟩ u1).setCell ⟨b, 2, none⟩ u2).setCell ⟨b, 3, none⟩ u3).setCell ⟨b, 4, none⟩ u4).setCell ⟨b, 5, none⟩ u5).setCell ⟨b, 6, none⟩ u6).heap[b]? = some (.cells #[u0, u1, u2, u3, u4, u5, u6] t (0, 0)) := by
  simp [World.setCell, Array.getElem?_modify, h]
theorem kept_store7 {S : Nat → Prop} {w w' : World} {b : Nat} (hk : Kept S w w') (hb : S b ∨ w.heap.size ≤ b) (u0 u1 u2 u3 u4 u5 u6 : Value) :
    Kept S w (((((((w'.setCell ⟨b, 0, none⟩ u0).setCell ⟨b, 1, none⟩ u1).setCell ⟨b, 2, none⟩ u2).setCell ⟨b, 3, none⟩ u3).setCell ⟨b, 4, none⟩ u4).setCell ⟨b, 5, none⟩ u5).setCell ⟨b, 6, none⟩ u6) :=
  ((((((hk.setCell (p := ⟨b, 0, none⟩) hb _).setCell (p := ⟨b, 1, none⟩) hb _).setCell (p := ⟨b, 2, none⟩) hb _).setCell (p := ⟨b, 3, none⟩) hb _).setCell (p := ⟨b, 4, none⟩) hb _).setCell (p := ⟨b, 5, none⟩) hb _).setCell (p := ⟨b, 6, none⟩) hb _
theorem rd_src {P : Program} {w : World} {sz n c : Nat} {A : Option Addr} {xs : List Value} {tx e' : TypeId} (hk : P.underlying tx = some (.slice e')) (h : Rd w sz A n xs) (h1 : ∀ u ∈ xs, u.oneCell' = true) : Src P sz tx (.slice A n c) n xs w := by
  rcases A with _ | ad
  · have hn : n = 0 := by
      rcases Nat.eq_zero_or_pos n with h0 | h0
      · exact h0
      · obtain ⟨_, _, e, _⟩ := h.2 h0
        cases e
    subst hn
    have hxs : xs = [] := List.eq_nil_of_length_eq_zero (by simpa using h.1)
    subst hxs
    exact Src.ofNil w hk c
  · refine Src.ofSlice w hk ad n c xs h.1 (fun j u hj => ?_) h1
    rcases Nat.eq_zero_or_pos n with h0 | h0
    · subst h0
      have hxs : xs = [] := List.eq_nil_of_length_eq_zero (by simpa using h.1)
      rw [hxs] at hj
      simp at hj
    · obtain ⟨g, off, e, _, hc⟩ := h.2 h0
      injection e with e
      rw [e, addr_lit]
      exact hc j u hj
theorem ret_copy {R : Ending → World → Prop} {a : Act} {w : World} {b : Nat} {cs : Array Value} (h : w.heap[b]? = some (.cells cs 25 (0, 0))) (hs : cs.size = 7) (ha : a.tmps.getD 2 undef = .pointer (some ⟨b, 0, none⟩)) (hd : a.defers = []) (hR : R (.returned (.agg cs)) w) :
    bodyPost Try.prog Try.f10 R .ret a w :=
  bodyPost_ret (results_cell_row (P := Try.prog) rfl a.tmps w b _ _ _ _ ha h Try.underlying25 rfl (by rw [hs]; exact twcc_size)) hd hR
set_option maxRecDepth 10000 in
set_option maxHeartbeats 4000000 in
theorem copy_any (v : Value) (h : Tw) (w : World) (k : TR w v h) (hs : small h) :
    Calls Try.prog 10 #[v] w fun e w' => ∃ v', e = .returned v' ∧ TC w' v' h ∧ Below w.heap.size w w' := by
  obtain ⟨A, c, B, d, rfl, k1, k2⟩ := k
  obtain ⟨b0, hb0⟩ : ∃ b0, b0 = w.heap.size := ⟨_, rfl⟩
  obtain ⟨W0, hW0⟩ : ∃ W0, W0 = w.alloc (.cells (tcs h A c B d) 25) := ⟨_, rfl⟩
  obtain ⟨q, hq⟩ : ∃ q, q = b0 + 1 := ⟨_, rfl⟩
  have hqs : q = W0.heap.size := by rw [hq, hW0, hb0]; simp
  obtain ⟨W, hW⟩ : ∃ W, W = W0.alloc (.cells zcs 25) := ⟨_, rfl⟩
  have hk1 : Kept (fun _ => False) W0 W := by rw [hW]; exact (Kept.refl _ W0).alloc _
  have hk0 : Kept (fun _ => False) w W0 := by rw [hW0]; exact (Kept.refl _ w).alloc _
  have hb00 : W0.heap[b0]? = some (.cells (tcs h A c B d) 25 (0, 0)) := by rw [hW0, hb0]; exact heap_alloc_new w _
  have HB := Lib.hid ((hk1.block b0 (Array.getElem?_eq_some_iff.1 hb00).1 id).trans hb00)
  have HQ := Lib.hid (show W.heap[q]? = some (.cells zcs 25 (0, 0)) by rw [hW, hqs]; exact heap_alloc_new W0 _)
  have HKW := Lib.hid (hk0.trans hk1 (fun _ _ h => h))
  have HR1 := Lib.hid (k1.kept HKW.out (fun _ _ _ => id))
  have HR2 := Lib.hid (k2.kept HKW.out (fun _ _ _ => id))
  have HE := Lib.hid hb0
  have HE0 := Lib.hid hW0
  have HEQ := Lib.hid hq
  have HEW := Lib.hid hW
  have hbq : b0 < q := by omega
  have HBQ := Lib.hid hbq
  have HBW := Lib.hid (show w.heap.size ≤ b0 by rw [hb0]; exact Nat.le_refl _)
  have K2 := Lib.hid k2
  clear k1 k2 hb0 hW0 hq hqs hW hk1 hk0 hb00 hbq
  obtain ⟨n, hn⟩ : ∃ n, n = h.st.length := ⟨_, rfl⟩
  obtain ⟨m, hm⟩ : ∃ m, m = h.ds.length := ⟨_, rfl⟩
  have HN := Lib.hid hn
  have HM := Lib.hid hm
  have HN6 := Lib.hid (show 0 + n ≤ 1000000 by have := hs.1; omega)
  have HM6 := Lib.hid (show 0 + m ≤ 1000000 by have := hs.2; omega)
  replace HR1 := Lib.hid (show Rd W 1 A n (nums .i64 h.st) by rw [hn]; exact HR1.out)
  replace K2 := Lib.hid (show Rd w 1 B m (nums .i64 h.ds) by rw [hm]; exact K2.out)
  replace HR2 := Lib.hid (show Rd W 1 B m (nums .i64 h.ds) by rw [hm]; exact HR2.out)
  replace HB := Lib.hid (show W.heap[b0]? = some (.cells #[.int .u32 h.sn, .int .u32 h.md, .int .i64 h.fi, .int .i64 h.ba, .int .i64 h.ct, .slice A n c, .slice B m d] 25 (0, 0)) by rw [hn, hm]; exact HB.out)
  clear hn hm hs
  go_enter Try.func10, Try.ntmps10
  go_upto_region 1 with fail
  rw [← HE0.out, ← HE.out, ← HEW.out, ← HEQ.out]
  obtain ⟨x0, x1, x2, x3, x4, x5, x6⟩ := cells7 HB.out
  have f5 := frozen_of HB.out 5
  have hb0l : b0 < W.heap.size := (Array.getElem?_eq_some_iff.1 HB.out).1
  go_upto_region 2 with (first
    | (at_builtin
       refine wpList_src rfl (.tmp 3) (.tmp 5) 23 23 rfl 3 (.int .i64 0) 1 8 Try.underlying23 info_int rfl (by omega) W.heap.size 0 0 0 [] rfl (RW.fresh0 W _ 1) (.slice A n c) n (nums .i64 h.st) rfl (rd_src Try.underlying23 (HR1.out.kept ((Kept.refl (fun _ => False) W).alloc _) (fun _ _ _ => id)) (nums_one _ _)) HN6.out ?_
       intro v3 w3 hr3 hk3 hn3
       simp only [Nat.zero_add, List.nil_append] at hr3
       obtain ⟨A3, c3, rfl⟩ := hr3.shape
       have H3 := Lib.hid hr3
       have hka : Kept (fun _ => False) W w3 := Kept.trans (S := fun _ => False) ((Kept.refl _ W).alloc _) hk3 (fun g hg e => by omega)
       have HA3 := Lib.hid (show ∀ b, isAt (.slice A3 n c3) b → W.heap.size ≤ b from fun b e => by
         have h1 := hn3 b e
         simp at h1
         omega)
       have HK3 := Lib.hid hka
       have z5' := ck hka x5 id
       have zf' := (hka.frozen (p := ⟨b0, 5, none⟩) hb0l id).trans f5
       clear hr3 hk3 hn3 hka))
  obtain ⟨W3, hW3⟩ : ∃ W3, W3 = w3.setCell ⟨b0, 5, none⟩ (.slice A3 n c3) := ⟨_, rfl⟩
  rw [← hW3]
  have hk3 : Kept (fun g => g = b0) w3 W3 := by rw [hW3]; exact (Kept.refl (fun g => g = b0) w3).setCell (p := ⟨b0, 5, none⟩) (.inl rfl) _
  have HB3 := Lib.hid (show W3.heap[b0]? = some (.cells #[.int .u32 h.sn, .int .u32 h.md, .int .i64 h.fi, .int .i64 h.ba, .int .i64 h.ct, .slice A3 n c3, .slice B m d] 25 (0, 0)) by
    have h1 := (HK3.out.block b0 hb0l id).trans HB.out
    rw [hW3]
    simp [World.setCell, Array.getElem?_modify, h1])
  have HKW3 := Lib.hid (show Kept (fun g => g = b0) W W3 from Kept.trans (S := fun g => g = b0) (HK3.out.mono (S' := fun g => g = b0) (fun _ _ e => e.elim)) hk3 (fun _ _ h => h))
  have HQ3 := Lib.hid ((HKW3.out.block q (Array.getElem?_eq_some_iff.1 HQ.out).1 (fun e => by have := HBQ.out; omega)).trans HQ.out)
  have HS3 := Lib.hid (H3.out.kept hk3 (fun g hg e => by have := HA3.out g hg; omega))
  have HBW3 := Lib.hid (show Below w.heap.size w W3 from (Kept.trans (S := fun g => w.heap.size ≤ g) (HKW.out.mono (S' := fun g => w.heap.size ≤ g) (fun _ _ e => e.elim)) HKW3.out (fun g _ e => by have := HBW.out; omega)).below (Nat.le_refl _) (fun _ h => h))
  have HR23 := Lib.hid (K2.out.below HBW3.out)
  have HA3 := Lib.hid (show ∀ b, isAt (.slice A3 n c3) b → b ≠ b0 ∧ b ≠ q from fun b e => by
    have h1 := HA3.out b e
    have h2 := (Array.getElem?_eq_some_iff.1 HQ.out).1
    omega)
  clear hW3 hk3 x0 x1 x2 x3 x4 x5 x6 f5 z5' zf'
  obtain ⟨x0, x1, x2, x3, x4, x5, x6⟩ := cells7 HB3.out
  have f6 := frozen_of HB3.out 6
  have hb3l : b0 < W3.heap.size := (Array.getElem?_eq_some_iff.1 HB3.out).1
  go_upto_region 3 with (first
    | (at_builtin
       refine wpList_src rfl (.tmp 8) (.tmp 10) 23 23 rfl 3 (.int .i64 0) 1 8 Try.underlying23 info_int rfl (by omega) W3.heap.size 0 0 0 [] rfl (RW.fresh0 W3 _ 1) (.slice B m d) m (nums .i64 h.ds) rfl (rd_src Try.underlying23 (HR23.out.kept ((Kept.refl (fun _ => False) W3).alloc _) (fun _ _ _ => id)) (nums_one _ _)) HM6.out ?_
       intro v5 w5 hr5 hk5 hn5
       simp only [Nat.zero_add, List.nil_append] at hr5
       obtain ⟨A5, c5, rfl⟩ := hr5.shape
       have H5 := Lib.hid hr5
       have hka : Kept (fun _ => False) W3 w5 := Kept.trans (S := fun _ => False) ((Kept.refl _ W3).alloc _) hk5 (fun g hg e => by omega)
       have HA5 := Lib.hid (show ∀ b, isAt (.slice A5 m c5) b → W3.heap.size ≤ b from fun b e => by
         have h1 := hn5 b e
         simp at h1
         omega)
       have HK5 := Lib.hid hka
       have z6' := ck hka x6 id
       have zf' := (hka.frozen (p := ⟨b0, 6, none⟩) hb3l id).trans f6
       clear hr5 hk5 hn5 hka))
  obtain ⟨W5, hW5⟩ : ∃ W5, W5 = w5.setCell ⟨b0, 6, none⟩ (.slice A5 m c5) := ⟨_, rfl⟩
  rw [← hW5]
  have hk5 : Kept (fun g => g = b0) w5 W5 := by rw [hW5]; exact (Kept.refl (fun g => g = b0) w5).setCell (p := ⟨b0, 6, none⟩) (.inl rfl) _
  have HB5 := Lib.hid (show W5.heap[b0]? = some (.cells #[.int .u32 h.sn, .int .u32 h.md, .int .i64 h.fi, .int .i64 h.ba, .int .i64 h.ct, .slice A3 n c3, .slice A5 m c5] 25 (0, 0)) by
    have h1 := (HK5.out.block b0 hb3l id).trans HB3.out
    rw [hW5]
    simp [World.setCell, Array.getElem?_modify, h1])
  have HKW5 := Lib.hid (show Kept (fun g => g = b0) W3 W5 from Kept.trans (S := fun g => g = b0) (HK5.out.mono (S' := fun g => g = b0) (fun _ _ e => e.elim)) hk5 (fun _ _ h => h))
  have HQ5 := Lib.hid ((HKW5.out.block q (Array.getElem?_eq_some_iff.1 HQ3.out).1 (fun e => by have := HBQ.out; omega)).trans HQ3.out)
  have HS5 := Lib.hid (H5.out.kept hk5 (fun g hg e => by have := HA5.out g hg; omega))
  have HS35 := Lib.hid (HS3.out.kept HKW5.out (fun g hg e => (HA3.out g hg).1 e))
  have HBW5 := Lib.hid (show Below w.heap.size w W5 from (Kept.trans (S := fun g => w.heap.size ≤ g) (Kept.of_below HBW3.out) HKW5.out (fun g _ e => by have := HBW.out; omega)).below (Nat.le_refl _) (fun _ h => h))
  have HA5 := Lib.hid (show ∀ b, isAt (.slice A5 m c5) b → b ≠ b0 ∧ b ≠ q from fun b e => by
    have h1 := HA5.out b e
    have h2 := (Array.getElem?_eq_some_iff.1 HQ3.out).1
    omega)
  clear hW5 hk5 x0 x1 x2 x3 x4 x5 x6 f6 z6' zf'
  obtain ⟨x0, x1, x2, x3, x4, x5, x6⟩ := cells7 HB5.out
  obtain ⟨y0, y1, y2, y3, y4, y5, y6⟩ := cells7 HQ5.out
  have e0 := frozen_of HQ5.out 0
  have e1 := frozen_of HQ5.out 1
  have e2 := frozen_of HQ5.out 2
  have e3 := frozen_of HQ5.out 3
  have e4 := frozen_of HQ5.out 4
  have e5 := frozen_of HQ5.out 5
  have e6 := frozen_of HQ5.out 6
  go_wp2_with fail
  refine ret_copy (stored7 HQ5.out) rfl rfl rfl ?_
  have hks := kept_store7 (S := fun g => g = q) (Kept.refl _ W5) (.inl rfl) (.int .u32 h.sn) (.int .u32 h.md) (.int .i64 h.fi) (.int .i64 h.ba) (.int .i64 h.ct) (.slice A3 n c3) (.slice A5 m c5)
  refine ⟨_, rfl, ⟨A3, c3, A5, c5, by rw [← HN.out, ← HM.out], ?_, ?_, by rw [← HN.out]; exact RW.cap HS35.out⟩, ?_⟩
  · have h1 := (HS35.out.kept hks (fun g hg e => (HA3.out g hg).2 e)).rd
    rw [← HN.out]
    exact h1
  · have h1 := (HS5.out.kept hks (fun g hg e => (HA5.out g hg).2 e)).rd
    rw [← HM.out]
    exact h1
  · exact (Kept.trans (S := fun g => w.heap.size ≤ g) (Kept.of_below HBW5.out) hks (fun g _ e => by have h1 := HBW.out; have h2 := HBQ.out; omega)).below (Nat.le_refl _) (fun _ h => h)
end Go.Proofs.Ytmedlplgeeeodaa.Tw
