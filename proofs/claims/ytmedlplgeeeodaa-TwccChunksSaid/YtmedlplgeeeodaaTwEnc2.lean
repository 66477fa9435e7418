/- What the program's Encode tells; no condition but the ranges in each. -/
import Derived.Test.YtmedlplgeeeodaaTwLay2
import Derived.Test.YtmedlplgeeeodaaBox
import Derived.Test.YtmedlplgeeeodaaTwGood2
import Derived.Test.YtmedlplgeeeodaaScope
namespace Go.Proofs.Ytmedlplgeeeodaa.Tw
open Go.RowKit Go.Proofs.Ytmedlplgeeeodaa.Plain Go.Proofs.Ytmedlplgeeeodaa.Heap Go.Proofs.Ytmedlplgeeeodaa.Open Go.Proofs.Ytmedlplgeeeodaa.Rows Go.Proofs.Ytmedlplgeeeodaa.Bits Go.Proofs.Ytmedlplgeeeodaa.Tail
/-- A writer, told from a later world on. -/
theorem rebase {t : TypeId} {w0 w w' : World} {p : Nat} {E S : Nat → Prop} {L : List Int} (h : WX t w0 w p E L) (hk : Kept S w w') (hS : ∀ k, S k → E k) : WX t w' w' p E L := by
  obtain ⟨g, hw, hg⟩ := h.ex
  exact ⟨⟨g, hw.kept hk (fun e => h.np (hS p e)) (fun k e e2 => hg k e (hS k e2)), hg⟩, h.np, fun k hk2 => by have := h.lt k hk2; have := h.kp.size; have := hk.size; omega, Kept.refl _ _⟩
/-- What is left behind so many. -/
theorem run_rest {w : World} {g off n c k : Nat} {l : List Int} (hr : Rd w 1 (some ⟨g, off, none⟩) n (nums .i64 l)) (hk : k ≤ n) (hc : n ≤ c) :
    ∃ A', (∀ wx, (Instr.slice 23 (.slice (some ⟨g, off, none⟩) n c) (some (.int .i64 (k : Int))) none none).run Try.prog wx = .ok (.slice A' (n - k) (c - k)) wx) ∧ (∀ g' off', A' = some ⟨g', off', none⟩ → g' = g) ∧
      (∀ w', Rd w' 1 (some ⟨g, off, none⟩) n (nums .i64 l) → Rd w' 1 A' (n - k) (nums .i64 (l.drop k))) := by
  have hl : l.length = n := by have := hr.1; simpa [nums] using this
  have hsz : ∀ w, (sizeOf (Try.prog.elem 23)).run Try.prog w = .ok 1 w := fun _ => by kernel_rfl
  by_cases hck : c = k
  · refine ⟨some ⟨g, off, none⟩, fun wx => ?_, fun g' off' e => by injection e with e; injection e with e1 e2; exact e1.symm, fun w' _ => ⟨by simp [nums]; omega, fun h => absurd h (by omega)⟩⟩
    rw [run_slice_l wx 23 (some ⟨g, off, none⟩) n c Try.underlying23 .i64 (k : Int) (by omega) (by omega)]
    simp [sliced, hck, hsz, Result.andThen]
  · refine ⟨some ⟨g, off + k, none⟩, fun wx => ?_, fun g' off' e => by injection e with e; injection e with e1 e2; exact e1.symm, fun w' hr' => ⟨by simp [nums]; omega, fun h => ?_⟩⟩
    · rw [run_slice_l wx 23 (some ⟨g, off, none⟩) n c Try.underlying23 .i64 (k : Int) (by omega) (by omega)]
      simp [sliced, hck, hsz, Result.andThen, addr_lit]
    · obtain ⟨g2, off2, e, hg, hc2⟩ := hr'.2 (by omega)
      injection e with e
      injection e with e1 e2
      subst e1 e2
      refine ⟨_, _, rfl, hg, fun j u hj => ?_⟩
      have h1 := hc2 (k + j) u (by simp only [nums, List.map_drop, List.getElem?_drop] at hj; exact hj)
      rwa [← Nat.add_assoc] at h1
theorem wrap_u32 (d : Int) : IntKind.u32.wrap d = d % 4294967296 := IntKind.wrap_u32 d
theorem wrap_bits (d : Int) (n : Nat) (h : n ≤ 32) : bitsOf (IntKind.u32.wrap d) n = bitsOf d n := by rw [wrap_u32]; exact bitsOf_u32 d n h
/-- The blocks that the writer must not touch. -/
theorem layF_enters (l : List Int) (args : Array Value) (w : World) : (callFunc (layF l) args).run Try.prog w = .ok (.enter (layF l) args) w := by
  unfold layF
  split
  · kernel_rfl
  · split <;> kernel_rfl
def old (V : World) (k : Nat) : Prop := k < V.heap.size
def EE (V : World) (xb k : Nat) : Prop := k < V.heap.size ∨ k = xb
def JL (h : Tw) (w : World) (b0 : Nat) (A : Option Addr) (c : Nat) (B : Option Addr) (d : Nat) (act : Act) (w' : World) : Prop :=
  ∃ (V : World) (p xb f : Nat) (l : List Int) (A' : Option Addr) (c' : Nat) (L : List Int), act.defers = [] ∧ act.tmps.size = 92 ∧ act.tmps.getD 1 undef = .pointer (some ⟨b0, 0, none⟩) ∧ act.tmps.getD 4 undef = .pointer (some ⟨p, 0, none⟩) ∧ act.tmps.getD 5 undef = .pointer (some ⟨xb, 0, none⟩) ∧
    TX w V b0 h A c B d ∧ LY w' w' p xb A' c' l (EE V xb) L ∧ l.length ≤ f ∧ headB h ++ encC h.st.length h.st = L ++ encC f l ∧ (∀ x ∈ l, 0 ≤ x ∧ x ≤ 2) ∧ l.length ≤ 4096 ∧ Below V.heap.size V w' ∧ V.heap.size ≤ xb ∧ (∀ g off, A' = some ⟨g, off, none⟩ → 0 < l.length → g < V.heap.size) ∧ w'.heap[xb]? = some (.cells #[.pointer (some ⟨p, 0, none⟩), .slice A' l.length c'] 48 (0, 0))
def muL (act : Act) (w : World) : Nat := match act.tmps.getD 5 undef with
  | .pointer (some a) => (match w.cell? ⟨a.block, 1, none⟩ with
    | some (.slice _ n _) => n
    | _ => 0)
  | _ => 0
theorem range92 : List.range 92 = [0, 1, 2, 3, 4, 5, 6, 7, 8, 9, 10, 11, 12, 13, 14, 15, 16, 17, 18, 19, 20, 21, 22, 23, 24, 25, 26, 27, 28, 29, 30, 31, 32, 33, 34, 35, 36, 37, 38, 39, 40, 41, 42, 43, 44, 45, 46, 47, 48, 49, 50, 51, 52, 53, 54, 55, 56, 57, 58, 59, 60, 61, 62, 63, 64, 65, 66, 67, 68, 69, 70, 71, 72, 73, 74, 75, 76, 77, 78, 79, 80, 81, 82, 83, 84, 85, 86, 87, 88, 89, 90, 91] := rfl
theorem tx_of {t : TypeId} {h : Tw} {w V X wx : World} {p b0 xb : Nat} {A : Option Addr} {c : Nat} {B : Option Addr} {d : Nat} {L : List Int} (htx : TX w V b0 h A c B d) (hbv : Below V.heap.size V X) (hw : WX t X wx p (EE V xb) L) : TX w wx b0 h A c B d :=
  htx.run ((Kept.trans (S := fun j => V.heap.size ≤ j) (Kept.of_below hbv) hw.kp (fun _ hi hn => absurd (.inl hi) hn)).below (Nat.le_refl _) (fun _ e => e))
theorem encDto_fit {st ds : List Int} (k : goodTo st ds st.length = true) {i : Nat} (hi : i ≤ st.length) (hl : st.length ≤ 4096) : (encDto st ds i).length ≤ 65536 := by
  rw [encDto_len]
  have := sumTo_le k i hi
  omega
theorem encDto_zero {st ds : List Int} {i : Nat} (hx : st[i]? = some 0) : encDto st ds (i + 1) = encDto st ds i := by
  rw [encDto, getD_of hx, if_pos rfl, List.append_nil]
theorem encDto_some {st ds : List Int} {i : Nat} {x d : Int} (hx : st[i]? = some x) (h0 : ¬ x = 0) (hd : ds[nz (st.take i)]? = some d) : encDto st ds (i + 1) = encDto st ds i ++ bitsOf d (8 * x.toNat) := by
  rw [encDto, getD_of hx, if_neg h0, getD_of hd]
set_option linter.unusedSimpArgs false in
set_option maxRecDepth 10000 in
set_option maxHeartbeats 8000000 in
theorem encode_any (v : Value) (h : Tw) (w : World) (k : TC w v h) (ok : okT h) :
    Calls Try.prog 11 #[v] w fun e w' => e = .returned (.tuple #[.string (encR h).1, .int .i64 (encR h).2]) ∧ Below w.heap.size w w' := by
  obtain ⟨A, c, B, d, rfl, k1, k2, k3⟩ := k
  obtain ⟨b0, hb0⟩ : ∃ b0, b0 = w.heap.size := ⟨_, rfl⟩
  obtain ⟨W0, hW0⟩ : ∃ W0, W0 = w.alloc (.cells (tcs h A c B d) 25) := ⟨_, rfl⟩
  have H0 := bx (show TX w W0 b0 h A c B d by rw [hb0]; exact TX.new (Below.refl _ w) k1 k2 hW0)
  have HE := bx hb0
  have HW := bx hW0
  have OK := bx ok
  have HC := bx k3
  have t0 := ok.n0
  have t1 := ok.n1
  have s0 := ok.m0
  have s1 := ok.m1
  clear k1 k2 k3 hb0 hW0 ok
  have x0 := H0.out.c0
  have x1 := H0.out.c1
  have x2 := H0.out.c2
  have x3 := H0.out.c3
  have x4 := H0.out.c4
  have x5 := H0.out.c5
  have x6 := H0.out.c6
  cases hgd : goodT h with
  | false =>
    have HGD := bx hgd
    clear hgd
    go_enter Try.func11, Try.ntmps11
    go_wp2
    rw [← HW.out, ← HE.out]
    refine wp_scope_pass 0 (fun _ _ => False) (fun _ _ => 0) rfl (fun _ _ e => e.elim) ?_
    intro hp
    clear hp
    go_wp2_with fail
    refine (good_any _ h W0 H0.out.tr).mono ?_
    rintro e V ⟨rfl, hv⟩
    have HV := bx (H0.out.run hv)
    clear hv x0 x1 x2 x3 x4 x5 x6
    rw [HGD.out]
    go_wp2_with fail
    simp only [Exit.jump]
    go_ret2
    exact ⟨by rw [encR_bad HGD.out]; rfl, HV.out.bw⟩
  | true =>
    have HGD := bx hgd
    obtain ⟨hgb, hgt, hgn⟩ := goodT_iff hgd
    have HGT := bx hgt
    have HGN := bx hgn
    have HBD := bx (encA_bd hgd)
    obtain ⟨fb0, fb1, a0, a1, gb0, gb1, l0, l1⟩ := goodB_iff.1 hgb
    obtain ⟨n, hn⟩ : ∃ n, n = h.st.length := ⟨_, rfl⟩
    have HN := bx hn
    have hn1 : 1 ≤ (n : Int) := by omega
    have hn2 : (n : Int) ≤ 4096 := by omega
    obtain ⟨u, hu⟩ : ∃ u, IntKind.u32.wrap h.ba = u := ⟨_, rfl⟩
    have hub : 0 ≤ u ∧ u < 4294967296 := by rw [← hu, wrap_u32]; omega
    obtain ⟨u0, u1⟩ := hub
    have HU := bx (show bitsOf u 24 = bitsOf h.ba 24 by rw [← hu]; exact wrap_bits h.ba 24 (by omega))
    clear hgd hgb hgt hgn hn l0 l1
    go_enter Try.func11, Try.ntmps11
    go_wp2
    rw [← HW.out, ← HE.out]
    refine wp_scope_pass 0 (JL h w b0 A c B d) muL rfl ?_ ?_
    · rintro ⟨ts, ds⟩ X ⟨V, p, xb, f, l, A', c', L, hd, hts, s1', s4', s5', htx, hly, hlf, hacc, h02, hl4, hbv, hxb, hav, hnew⟩
      obtain rfl : ds = [] := hd
      obtain ⟨fn, hf, hts⟩ := arr_fun ts 92 hts
      have f1 : fn 1 = .pointer (some ⟨b0, 0, none⟩) := (hf 1 (by omega)).trans s1'
      have f4 : fn 4 = .pointer (some ⟨p, 0, none⟩) := (hf 4 (by omega)).trans s4'
      have f5 : fn 5 = .pointer (some ⟨xb, 0, none⟩) := (hf 5 (by omega)).trans s5'
      rw [range92] at hts
      simp only [List.map_cons, List.map_nil, f1, f4, f5] at hts
      subst hts
      have HTX := bx htx
      have HLY := bx hly
      have HLF := bx hlf
      have HACC := bx hacc
      have H02 := bx h02
      have HL4 := bx hl4
      have HBV := bx hbv
      have HXB := bx hxb
      have HAV := bx hav
      have HNW := bx hnew
      obtain ⟨m, hm⟩ : ∃ m, m = l.length := ⟨_, rfl⟩
      have hm4 : (m : Int) ≤ 4096 := by omega
      have z1 := hly.x1
      rw [← hm] at z1
      have HM := bx hm
      clear hf s1' s4' s5' f1 f4 f5 htx hly hlf hacc h02 hl4 hbv hxb hav hnew hm x0 x1 x2 x3 x4 x5 x6
      by_cases hm0 : 0 < (m : Int)
      · obtain ⟨f', rfl⟩ : ∃ f', f = f' + 1 := ⟨f - 1, by have := HLF.out; have := HM.out; omega⟩
        have hne : l ≠ [] := fun e => by have := HM.out; rw [e] at this; simp at this; omega
        have hrd : Rd X 1 A' m (nums .i64 l) := by rw [HM.out]; exact HLY.out.rd
        obtain ⟨g, off, e, _, _⟩ := hrd.2 (by omega)
        subst e
        obtain ⟨k, hk⟩ : ∃ k, k = (lay l).2 := ⟨_, rfl⟩
        obtain ⟨hk1, hkm⟩ := lay_many hne
        rw [← hk] at hk1 hkm
        have hkm' : (k : Int) ≤ (m : Int) := by have := HM.out; omega
        obtain ⟨A2, hsl, hA2, hrd2⟩ := run_rest (k := k) hrd (by omega) (show m ≤ c' by rw [HM.out]; exact HLY.out.cn)
        obtain ⟨K0, hK0⟩ : ∃ K0, K0 = layF l := ⟨_, rfl⟩
        have hcf : ∀ (args : Array Value) (w : World), (callFunc K0 args).run Try.prog w = .ok (.enter K0 args) w := by rw [hK0]; exact layF_enters l
        have HA2 := bx hA2
        have HRD2 := bx hrd2
        have HNE := bx hne
        have HK := bx hk
        have HK1 := bx hk1
        have HK0 := bx hK0
        clear hA2 hrd2 hne hk hk1 hkm hrd hK0
        have q1 : decide (0 < m) = true := decide_eq_true (by omega)
        have q2 : decide ((0 : Int) < (m : Int)) = true := decide_eq_true hm0
        go_wp2_with fail
        refine (lays_any HLY.out HNE.out HL4.out).mono ?_
        rintro e X1 ⟨rfl, q, rfl⟩
        rw [← HK0.out]
        go_upto_region 13 with fail
        have HS : (X.drewN q).drew.cell? ⟨xb, 1, none⟩ = some (.slice (some ⟨g, off, none⟩) m c') := z1
        refine Tail.start 10 (fun w' => w'.cell? ⟨xb, 1, none⟩ = some (.slice (some ⟨g, off, none⟩) m c')) (by kernel_rfl) ?_
        refine Tail.take 0 rfl (by kernel_rfl) (fun _ _ _ h => h) (by rfl) HS (fun w hSw => by (try dsimp only at hSw); go_simp; (try with_reducible rfl)) ?_
        try simp only [Act.put, List.setIfInBounds_toArray, List.set_cons_zero, List.set_cons_succ]
        refine Tail.take 1 rfl (by kernel_rfl) (fun _ _ _ h => h) (by rfl) HS (fun w hSw => by (try dsimp only at hSw); go_simp; (try with_reducible rfl)) ?_
        try simp only [Act.put, List.setIfInBounds_toArray, List.set_cons_zero, List.set_cons_succ]
        refine Tail.take 2 rfl (by kernel_rfl) (fun _ _ _ h => h) (by rfl) HS (fun w hSw => by (try dsimp only at hSw); go_simp; (try with_reducible rfl)) ?_
        try simp only [Act.put, List.setIfInBounds_toArray, List.set_cons_zero, List.set_cons_succ]
        refine Tail.take 3 rfl (by kernel_rfl) (fun _ _ _ h => h) (by rfl) HS (fun w hSw => by (try dsimp only at hSw); go_simp; (try with_reducible rfl)) ?_
        try simp only [Act.put, List.setIfInBounds_toArray, List.set_cons_zero, List.set_cons_succ]
        refine Tail.take 4 rfl (by kernel_rfl) (fun _ _ _ h => h) (by rfl) HS (fun w hSw => by (try dsimp only at hSw); go_simp; (try with_reducible rfl)) ?_
        try simp only [Act.put, List.setIfInBounds_toArray, List.set_cons_zero, List.set_cons_succ]
        refine Tail.take 5 rfl (by kernel_rfl) (fun _ _ _ h => h) (by rfl) HS (fun w hSw => by (try dsimp only at hSw); go_simp; (try with_reducible rfl)) ?_
        try simp only [Act.put, List.setIfInBounds_toArray, List.set_cons_zero, List.set_cons_succ]
        refine Tail.one 6 rfl (by kernel_rfl) (fun K hK => ?_)
        go_simp
        rw [HK0.out]
        refine (lay_any (HLY.out.run (((Kept.refl (fun _ => False) X).drewN q).drew)) (by
          have h1 := congrArg List.length HACC.out
          have h2 := HBD.out
          rw [encA_len] at h2
          rw [List.length_append, List.length_append, headB_len, encC_cons (f := f') (by have := HM.out; omega), List.length_append, lay_len] at h1
          omega) HNE.out HL4.out H02.out).mono ?_
        rw [← HK.out]
        rintro e X2 ⟨rfl, h1⟩
        have HL2 := bx h1
        have HS : X2.cell? ⟨xb, 1, none⟩ = some (.slice (some ⟨g, off, none⟩) m c') := by have := h1.x1; rw [← HM.out] at this; exact this
        clear h1
        refine hK.out _ _ HS ?_
        clear hK K
        try simp only [Act.put, List.setIfInBounds_toArray, List.set_cons_zero, List.set_cons_succ]
        refine Tail.take 7 rfl (by kernel_rfl) (fun _ _ _ h => h) (by rfl) HS (fun w hSw => by (try dsimp only at hSw); go_simp; (try with_reducible rfl)) ?_
        try simp only [Act.put, List.setIfInBounds_toArray, List.set_cons_zero, List.set_cons_succ]
        refine Tail.take 8 rfl (by kernel_rfl) (fun _ _ _ h => h) (by rfl) HS (fun w hSw => by (try dsimp only at hSw); go_simp; (try with_reducible rfl)) ?_
        try simp only [Act.put, List.setIfInBounds_toArray, List.set_cons_zero, List.set_cons_succ]
        refine Tail.take 9 rfl (by kernel_rfl) (fun _ _ _ h => h) (by rfl) HS (fun w hSw => by (try dsimp only at hSw); go_simp; (try with_reducible rfl)) ?_
        try simp only [Act.put, List.setIfInBounds_toArray, List.set_cons_zero, List.set_cons_succ]
        refine Tail.tail 10 rfl (by kernel_rfl) ?_
        simp only [List.drop_succ_cons, List.drop_zero]
        clear HS
        simp only [List.getElem_toArray, List.getElem_cons_succ, List.getElem_cons_zero, List.setIfInBounds_toArray, List.set_cons_zero, List.set_cons_succ]
        have HN2 := bx ((HL2.out.wx.kp.block xb (Array.getElem?_eq_some_iff.1 HNW.out).1 (fun e => e (.inr rfl))).trans HNW.out)
        have y1 := (cells2 HN2.out).2
        have e1 := frozen_of HN2.out 1
        rw [← HM.out] at y1
        clear hsl z1 hcf q1 q2
        go_wp2_with fail
        obtain ⟨X3, hX3⟩ : ∃ X3, X3 = X2.setCell ⟨xb, 1, none⟩ (.slice A2 (m - k) (c' - k)) := ⟨_, rfl⟩
        rw [← hX3]
        have HK3 := bx (show Kept (fun j => j = xb) X2 X3 by rw [hX3]; exact (Kept.refl (fun j => j = xb) X2).setCell (p := ⟨xb, 1, none⟩) (.inl rfl) _)
        have HN3 := bx (show X3.heap[xb]? = some (.cells #[.pointer (some ⟨p, 0, none⟩), .slice A2 (m - k) (c' - k)] 48 (0, 0)) by rw [hX3]; simp [World.setCell, Array.getElem?_modify, HN2.out])
        clear hX3 y1 e1
        go_step3
        have hdl : (l.drop k).length = m - k := by rw [List.length_drop, ← HM.out]
        have hg : g < V.heap.size := HAV.out g off rfl (by have := HM.out; omega)
        refine ⟨rfl, ⟨V, p, xb, f', l.drop k, A2, c' - k, L ++ (lay l).1, rfl, rfl, rfl, rfl, rfl, HTX.out, ⟨rebase HL2.out.wx HK3.out (fun _ e => .inr e), .inr rfl, fun g' off' e _ => .inl (by rw [HA2.out g' off' e]; exact hg), (cells2 HN3.out).1, by rw [hdl]; exact (cells2 HN3.out).2, ?_, ?_⟩, ?_, ?_, ?_, ?_, ?_, HXB.out, fun g' off' e _ => by rw [HA2.out g' off' e]; exact hg, by rw [hdl]; exact HN3.out⟩, ?_⟩
        · rw [hdl]
          refine HRD2.out X3 (Rd.kept0 (by have := HL2.out.rw; rw [← HM.out] at this; exact this) HK3.out (fun g' off' e _ e2 => ?_))
          injection e with e
          injection e with e3 e4
          have := HXB.out
          omega
        · rw [hdl]
          have := HLY.out.cn
          have := HM.out
          omega
        · rw [hdl]
          have := HLF.out
          have := HM.out
          have := HK1.out
          omega
        · rw [HACC.out, encC_cons (by have := HM.out; omega), ← HK.out, List.append_assoc]
        · exact fun x hx => H02.out x (List.mem_of_mem_drop hx)
        · rw [hdl]
          omega
        · have hk2 : Kept (fun j => V.heap.size ≤ j) V X2 := Kept.trans (S := fun j => V.heap.size ≤ j) (Kept.of_below HBV.out) HL2.out.wx.kp (fun i hi hn => absurd (.inl hi) hn)
          exact (Kept.trans (S := fun j => V.heap.size ≤ j) hk2 HK3.out (fun i _ e => by have := HXB.out; omega)).below (Nat.le_refl _) (fun _ e => e)
        · have q1 : X.cell? ⟨xb, 1, none⟩ = some (.slice (some ⟨g, off, none⟩) l.length c') := (cells2 HNW.out).2
          have q2 := (cells2 HN3.out).2
          show muL _ X3 < muL _ X
          unfold muL
          simp only [List.getElem?_toArray, Array.getD_eq_getD_getElem?, List.getElem?_cons_succ, List.getElem?_cons_zero, Option.getD_some]
          rw [q1, q2]
          have := HM.out
          have := HK1.out
          simp only
          omega
      · have hl0 : l = [] := List.eq_nil_of_length_eq_zero (by have := HM.out; omega)
        have HL := bx (show headB h ++ encC h.st.length h.st = L by rw [HACC.out, hl0, encC_nil, List.append_nil])
        have HTX2 := bx (HTX.out.run HBV.out)
        have hm00 : m = 0 := by omega
        subst hm00
        have HLB := bx (show L.length ≤ 65664 by
          rw [← HL.out, List.length_append, headB_len]
          have := encC_len h.st.length h.st
          have := HN.out
          omega)
        have HW1 := bx (show WX 70 X X p (EE V xb) (L ++ encDto h.st h.ds 0) by rw [encDto, List.append_nil]; exact HLY.out.wx)
        have y5 := HTX2.out.c5
        rw [← HN.out] at y5
        clear hl0 hm0 hm4
        go_wp2_with fail
        go_loopw [7, 69] (fun mv iv wx => ∃ i : Nat, (i : Int) ≤ (n : Int) ∧ iv = .int .i64 (i : Int) ∧ mv = .int .i64 ((nz (h.st.take i) : Nat) : Int) ∧ WX 70 X wx p (EE V xb) (L ++ encDto h.st h.ds i)) (fun _ iv _ => ((n : Int) - intOf iv).toNat)
        case atStart => exact ⟨0, by omega, rfl, rfl, HW1.out⟩
        case round =>
          obtain ⟨i, hi, rfl, rfl, hwx⟩ := hrel
          rename World => Y
          have HY := bx hwx
          have HTY := bx (tx_of HTX.out HBV.out hwx)
          clear hwx
          by_cases hil : (i : Int) < (n : Int)
          · obtain ⟨g, off, x, e, _, hx, _, y0⟩ := int_at HTY.out.r1 (k := i) (by have := HN.out; omega)
            subst e
            obtain ⟨K, hK⟩ : ∃ K, K = nz (h.st.take i) := ⟨_, rfl⟩
            rw [← hK]
            have HX := bx hx
            have HK := bx hK
            have HIL := bx (show i < h.st.length by have := HN.out; omega)
            have hx02 := st_range HGT.out hx
            have hKi : (K : Int) ≤ (i : Int) := by have := nz_take_le h.st i; omega
            clear hx hK y5
            rcases hx02 with s | s | s
            · subst s
              have HS := bx (show nz (h.st.take (i + 1)) = K by rw [nz_take HX.out, if_pos rfl, ← HK.out]; rfl)
              go_wp2_with fail
              go_roundw
              case rel => exact ⟨i + 1, by omega, by go_num, by rw [HS.out], by rw [encDto_zero HX.out]; exact HY.out⟩
              case measure => exact measN n i hil
            · subst s
              have hok := ok_facts (goodTo_at HGT.out HIL.out)
              rw [getD_of HX.out, ← HK.out] at hok
              obtain ⟨g2, off2, dv, e, _, hd, _, y1⟩ := int_at HTY.out.r2 (k := K) (by omega)
              subst e
              have HD := bx (show h.ds[nz (h.st.take i)]? = some dv by rw [← HK.out]; exact hd)
              have hrng : -32768 ≤ dv ∧ dv ≤ 32767 := by
                rcases hok.2.2 with e | e
                · omega
                · rw [getD_of hd] at e; exact (dok_iff.1 e.2).1
              have HKD := bx (show K < h.ds.length by omega)
              obtain ⟨md, hmd⟩ : ∃ md, md = h.ds.length := ⟨_, rfl⟩
              have y6 := HTY.out.c6
              rw [← hmd] at y6
              have hKd : (K : Int) < (md : Int) := by have := HKD.out; omega
              have HMD := bx hmd
              obtain ⟨uv, huv⟩ : ∃ uv, IntKind.u32.wrap dv = uv := ⟨_, rfl⟩
              have hub : 0 ≤ uv ∧ uv < 4294967296 := by rw [← huv, wrap_u32]; omega
              obtain ⟨ub0, ub1⟩ := hub
              have HUV := bx (show bitsOf uv 8 = bitsOf dv 8 by rw [← huv]; exact wrap_bits dv 8 (by omega))
              have HS := bx (show nz (h.st.take (i + 1)) = K + 1 by rw [nz_take HX.out, if_neg (by decide), ← HK.out])
              have HFT := bx (encDto_fit HGT.out (show i ≤ h.st.length by have := HIL.out; omega) (by have := HN.out; omega))
              obtain ⟨r1, r2⟩ := hrng
              clear hok hd hmd
              go_wp2_with fail
              refine (WX.put HY.out (by rw [List.length_append]; have := HFT.out; have := HLB.out; omega) (by omega) (by omega) 8).mono ?_
              rintro e Y2 ⟨rfl, h1⟩
              rw [show (8 : Int) = ((8 : Nat) : Int) from rfl, puts_fit (by omega) (by rw [List.length_append]; have := HFT.out; have := HLB.out; omega), HUV.out, List.append_assoc] at h1
              have HY2 := bx (show WX 70 X Y2 p (EE V xb) (L ++ encDto h.st h.ds (i + 1)) by rw [encDto_some HX.out (by decide) HD.out]; exact h1)
              clear h1 y0 y1 y6 huv
              go_wp2_with fail
              go_roundw
              case rel => exact ⟨i + 1, by omega, by go_num, by rw [HS.out]; go_num, HY2.out⟩
              case measure => exact measN n i hil
            · subst s
              have hok := ok_facts (goodTo_at HGT.out HIL.out)
              rw [getD_of HX.out, ← HK.out] at hok
              obtain ⟨g2, off2, dv, e, _, hd, _, y1⟩ := int_at HTY.out.r2 (k := K) (by omega)
              subst e
              have HD := bx (show h.ds[nz (h.st.take i)]? = some dv by rw [← HK.out]; exact hd)
              have hrng : -32768 ≤ dv ∧ dv ≤ 32767 := by
                rcases hok.2.2 with e | e
                · omega
                · rw [getD_of hd] at e; exact (dok_iff.1 e.2).1
              have HKD := bx (show K < h.ds.length by omega)
              obtain ⟨md, hmd⟩ : ∃ md, md = h.ds.length := ⟨_, rfl⟩
              have y6 := HTY.out.c6
              rw [← hmd] at y6
              have hKd : (K : Int) < (md : Int) := by have := HKD.out; omega
              have HMD := bx hmd
              obtain ⟨uv, huv⟩ : ∃ uv, IntKind.u32.wrap dv = uv := ⟨_, rfl⟩
              have hub : 0 ≤ uv ∧ uv < 4294967296 := by rw [← huv, wrap_u32]; omega
              obtain ⟨ub0, ub1⟩ := hub
              have HUV := bx (show bitsOf uv 16 = bitsOf dv 16 by rw [← huv]; exact wrap_bits dv 16 (by omega))
              have HS := bx (show nz (h.st.take (i + 1)) = K + 1 by rw [nz_take HX.out, if_neg (by decide), ← HK.out])
              have HFT := bx (encDto_fit HGT.out (show i ≤ h.st.length by have := HIL.out; omega) (by have := HN.out; omega))
              obtain ⟨r1, r2⟩ := hrng
              clear hok hd hmd
              go_wp2_with fail
              refine (WX.put HY.out (by rw [List.length_append]; have := HFT.out; have := HLB.out; omega) (by omega) (by omega) 16).mono ?_
              rintro e Y2 ⟨rfl, h1⟩
              rw [show (16 : Int) = ((16 : Nat) : Int) from rfl, puts_fit (by omega) (by rw [List.length_append]; have := HFT.out; have := HLB.out; omega), HUV.out, List.append_assoc] at h1
              have HY2 := bx (show WX 70 X Y2 p (EE V xb) (L ++ encDto h.st h.ds (i + 1)) by rw [encDto_some HX.out (by decide) HD.out]; exact h1)
              clear h1 y0 y1 y6 huv
              go_wp2_with fail
              go_roundw
              case rel => exact ⟨i + 1, by omega, by go_num, by rw [HS.out]; go_num, HY2.out⟩
              case measure => exact measN n i hil
          · have hin : i = n := by omega
            have HF := bx (show WX 70 X Y p (EE V xb) (encA h) by
              have h1 := HY.out
              rw [← HL.out, hin, HN.out] at h1
              exact h1)
            clear hi hin y5
            go_wp2_with fail
            refine (WX.align HF.out (by have := HBD.out; omega) 32).mono ?_
            rintro e Y2 ⟨rfl, h1⟩
            rw [show (32 : Int) = ((32 : Nat) : Int) from rfl, aligns_fit (by omega) (by omega) (by have := HBD.out; have := pad_lt (encA h).length 32 (by omega); omega)] at h1
            have HG := bx h1
            clear h1
            go_wp2_with fail
            refine (WX.text HG.out).mono ?_
            rintro e Y3 ⟨rfl, rfl⟩
            go_wp2_with fail
            simp only [Exit.jump]
            go_ret2
            exact ⟨by rw [encR_good HGD.out]; rfl, (tx_of HTX.out HBV.out HG.out).bw⟩
    · intro hpi
      have HPI := bx hpi
      clear hpi
      go_wp2_with fail
      refine (good_any _ h W0 H0.out.tr).mono ?_
      rw [HGD.out]
      rintro e V ⟨rfl, hv⟩
      have HV := bx (H0.out.run hv)
      clear hv x0 x1 x2 x3 x4 x5 x6
      have y0 := HV.out.c0
      have y1 := HV.out.c1
      have y2 := HV.out.c2
      have y3 := HV.out.c3
      have y4 := HV.out.c4
      have y5 := HV.out.c5
      have y6 := HV.out.c6
      rw [← HN.out] at y5
      have HVL := bx (World.block_lt_of_cell? _ _ y0)
      go_wp2_with fail
      refine (write_any V).mono ?_
      rintro e U ⟨rfl, hU⟩
      have HX0 := bx (show WX 70 V U V.heap.size (old V) [] by rw [hU]; exact WX.new _ V)
      obtain ⟨p, hp⟩ : ∃ p, p = V.heap.size := ⟨_, rfl⟩
      rw [← hp] at HX0 ⊢
      have HP := bx hp
      clear hU hp
      have c0 := HX0.out.cell HVL.out y0
      have c1 := HX0.out.cell HVL.out y1
      have c2 := HX0.out.cell HVL.out y2
      have c3 := HX0.out.cell HVL.out y3
      have c4 := HX0.out.cell HVL.out y4
      have c5 := HX0.out.cell HVL.out y5
      go_wp2_with fail
      refine (WX.put HX0.out (by simp [bitsOf_length]) (by omega) (by omega) 32).mono ?_
      rintro e U1 ⟨rfl, h1⟩
      rw [show (32 : Int) = ((32 : Nat) : Int) from rfl, puts_fit (by omega) (by simp [bitsOf_length]), List.nil_append] at h1
      have HX1 := bx (show WX 70 V U1 p (old V) (bitsOf h.sn 32) from h1)
      clear h1 c0 c1 c2 c3 c4 c5
      have c0 := HX1.out.cell HVL.out y0
      have c1 := HX1.out.cell HVL.out y1
      have c2 := HX1.out.cell HVL.out y2
      have c3 := HX1.out.cell HVL.out y3
      have c4 := HX1.out.cell HVL.out y4
      have c5 := HX1.out.cell HVL.out y5
      go_wp2_with fail
      refine (WX.put HX1.out (by simp [bitsOf_length]) (by omega) (by omega) 32).mono ?_
      rintro e U2 ⟨rfl, h1⟩
      rw [show (32 : Int) = ((32 : Nat) : Int) from rfl, puts_fit (by omega) (by simp [bitsOf_length])] at h1
      have HX2 := bx (show WX 70 V U2 p (old V) (bitsOf h.sn 32 ++ bitsOf h.md 32) from h1)
      clear h1 c0 c1 c2 c3 c4 c5
      have c0 := HX2.out.cell HVL.out y0
      have c1 := HX2.out.cell HVL.out y1
      have c2 := HX2.out.cell HVL.out y2
      have c3 := HX2.out.cell HVL.out y3
      have c4 := HX2.out.cell HVL.out y4
      have c5 := HX2.out.cell HVL.out y5
      go_wp2_with fail
      refine (WX.put HX2.out (by simp [bitsOf_length]) (by omega) (by omega) 16).mono ?_
      rintro e U3 ⟨rfl, h1⟩
      rw [show (16 : Int) = ((16 : Nat) : Int) from rfl, puts_fit (by omega) (by simp [bitsOf_length])] at h1
      have HX3 := bx (show WX 70 V U3 p (old V) (bitsOf h.sn 32 ++ bitsOf h.md 32 ++ bitsOf h.fi 16) from h1)
      clear h1 c0 c1 c2 c3 c4 c5
      have c0 := HX3.out.cell HVL.out y0
      have c1 := HX3.out.cell HVL.out y1
      have c2 := HX3.out.cell HVL.out y2
      have c3 := HX3.out.cell HVL.out y3
      have c4 := HX3.out.cell HVL.out y4
      have c5 := HX3.out.cell HVL.out y5
      go_wp2_with fail
      refine (WX.put HX3.out (by simp [bitsOf_length]) (by omega) (by omega) 16).mono ?_
      rintro e U4 ⟨rfl, h1⟩
      rw [show (16 : Int) = ((16 : Nat) : Int) from rfl, puts_fit (by omega) (by simp [bitsOf_length])] at h1
      have HX4 := bx (show WX 70 V U4 p (old V) (bitsOf h.sn 32 ++ bitsOf h.md 32 ++ bitsOf h.fi 16 ++ bitsOf (n : Int) 16) from h1)
      clear h1 c0 c1 c2 c3 c4 c5
      have c0 := HX4.out.cell HVL.out y0
      have c1 := HX4.out.cell HVL.out y1
      have c2 := HX4.out.cell HVL.out y2
      have c3 := HX4.out.cell HVL.out y3
      have c4 := HX4.out.cell HVL.out y4
      have c5 := HX4.out.cell HVL.out y5
      go_wp2_with fail
      refine (WX.put HX4.out (by simp [bitsOf_length]) (by omega) (by omega) 24).mono ?_
      rintro e U5 ⟨rfl, h1⟩
      rw [show (24 : Int) = ((24 : Nat) : Int) from rfl, puts_fit (by omega) (by simp [bitsOf_length])] at h1
      have HX5 := bx (show WX 70 V U5 p (old V) (bitsOf h.sn 32 ++ bitsOf h.md 32 ++ bitsOf h.fi 16 ++ bitsOf (n : Int) 16 ++ bitsOf u 24) from h1)
      clear h1 c0 c1 c2 c3 c4 c5
      have c0 := HX5.out.cell HVL.out y0
      have c1 := HX5.out.cell HVL.out y1
      have c2 := HX5.out.cell HVL.out y2
      have c3 := HX5.out.cell HVL.out y3
      have c4 := HX5.out.cell HVL.out y4
      have c5 := HX5.out.cell HVL.out y5
      go_wp2_with fail
      refine (WX.put HX5.out (by simp [bitsOf_length]) (by omega) (by omega) 8).mono ?_
      rintro e U6 ⟨rfl, h1⟩
      rw [show (8 : Int) = ((8 : Nat) : Int) from rfl, puts_fit (by omega) (by simp [bitsOf_length])] at h1
      have HX6 := bx (show WX 70 V U6 p (old V) (bitsOf h.sn 32 ++ bitsOf h.md 32 ++ bitsOf h.fi 16 ++ bitsOf (n : Int) 16 ++ bitsOf u 24 ++ bitsOf h.ct 8) from h1)
      clear h1 c0 c1 c2 c3 c4 c5
      have c0 := HX6.out.cell HVL.out y0
      have c1 := HX6.out.cell HVL.out y5
      go_upto_region 10 with fail
      go_cut [5] (fun s5 wx => ∃ xb, s5 = .pointer (some ⟨xb, 0, none⟩) ∧ V.heap.size ≤ xb ∧ LY wx wx p xb A c h.st (EE V xb) (headB h) ∧ wx.heap[xb]? = some (.cells #[.pointer (some ⟨p, 0, none⟩), .slice A h.st.length c] 48 (0, 0)) ∧ Below V.heap.size V wx)
      case first =>
        go_wp2_with fail
        go_meet
        have hh : bitsOf h.sn 32 ++ bitsOf h.md 32 ++ bitsOf h.fi 16 ++ bitsOf (n : Int) 16 ++ bitsOf u 24 ++ bitsOf h.ct 8 = headB h := by
          have e1 := HU.out
          have e2 := HN.out
          unfold headB
          rw [e1, e2]
        have hx := HX6.out
        rw [hh] at hx
        have hbw := hx.below (fun k hk => hk)
        have hg := hx.grab (.cells #[.pointer (some ⟨p, 0, none⟩), .slice A n c] 48)
        have hba : Below V.heap.size V (U6.alloc (.cells #[.pointer (some ⟨p, 0, none⟩), .slice A n c] 48)) := hbw.alloc hbw.size _
        have hnew := heap_alloc_new U6 (.cells #[.pointer (some ⟨p, 0, none⟩), .slice A n c] 48)
        obtain ⟨z0, z1⟩ := cells2 hnew
        rw [HN.out] at z1 hnew hg hba ⊢
        refine ⟨U6.heap.size, rfl, hbw.size, ⟨hg, .inr rfl, fun g off e hn0 => ?_, by rw [HN.out] at z0; exact z0, z1, HV.out.r1.below hba, HC.out⟩, hnew, hba⟩
        obtain ⟨g', off', e', hlt, _⟩ := HV.out.r1.2 hn0
        rw [e] at e'
        injection e' with e'
        injection e' with e1 e2
        exact .inl (by rw [e1]; exact hlt)
      case rest =>
        obtain ⟨xb, rfl, hxb, hly, hnew, hbv⟩ := hcut
        rename World => X
        rename_i K hK
        refine hK _ _ (HPI.out _ _ ⟨V, p, xb, h.st.length, h.st, A, c, headB h, rfl, rfl, rfl, rfl, rfl, HV.out, hly, Nat.le_refl _, rfl, fun x hx => ?_, by have := HN.out; omega, hbv, hxb, fun g off e hn0 => ?_, hnew⟩)
        · obtain ⟨i, hi⟩ := List.getElem?_of_mem hx
          have := st_range HGT.out hi
          omega
        · obtain ⟨g', off', e', hlt, _⟩ := HV.out.r1.2 hn0
          rw [e] at e'
          injection e' with e'
          injection e' with e1 e2
          rw [e1]
          exact hlt
end Go.Proofs.Ytmedlplgeeeodaa.Tw
