/- What the document's Decode tells; no condition but the ranges in each. -/
import Derived.Test.YtmedlplgeeeodaaTwDec2
import Derived.Test.YtmedlplgeeeodaaTwRChunk
namespace Go.Proofs.Ytmedlplgeeeodaa.Tw
open Go.RowKit Go.Proofs.Ytmedlplgeeeodaa.Plain Go.Proofs.Ytmedlplgeeeodaa.Heap Go.Proofs.Ytmedlplgeeeodaa.Open Go.Proofs.Ytmedlplgeeeodaa.Rows Go.Proofs.Ytmedlplgeeeodaa.Bits Go.Proofs.Ytmedlplgeeeodaa.Tail
theorem ret_rdec {R : Ending → World → Prop} {a : Act} {w : World} {b : Nat} {cs : Array Value} {u : Value} (h : w.heap[b]? = some (.cells cs 25 (0, 0))) (hs : cs.size = 7) (ha : a.tmps.getD 2 undef = .pointer (some ⟨b, 0, none⟩)) (hu : a.tmps.getD 3 undef = u) (hd : a.defers = []) (hR : R (.returned (.tuple #[.agg cs, u])) w) :
    bodyPost Try.prog Try.f17 R .ret a w :=
  ret_cell_tmp (P := Try.prog) rfl ha h Try.underlying25 rfl (by rw [hs]; exact twcc_size) hd (by rw [hu]; exact hR)
/-- What the rows lack. -/
def muR (o many : Nat) (w : World) : Nat := match w.cell? ⟨o, 5, none⟩ with
  | some (.slice _ n _) => ((many : Int) - (n : Int)).toNat
  | _ => 0
/-- What the reader has left. -/
def muP (s : ByteArray) (p : Nat) (w : World) : Nat := 8 * s.size - (intOf ((w.cell? ⟨p, 1, none⟩).getD undef)).toNat
theorem sumTo_mono (l : List Int) {i : Nat} : ∀ {j : Nat}, i ≤ j → sumTo l i ≤ sumTo l j
  | 0, h => by rw [Nat.le_zero.1 h]; exact Nat.le_refl _
  | j + 1, h => by
    rcases Nat.lt_or_ge i (j + 1) with h1 | h1
    · have := sumTo_mono l (show i ≤ j by omega)
      rw [sumTo]
      omega
    · rw [show i = j + 1 by omega]; exact Nat.le_refl _
/-- A byte among the last that is not zero. -/
theorem val_not0 {s : ByteArray} {E j m : Nat} (h : ¬ val s (E + 8 * j) 8 = 0) : ¬ val s E (8 * j + 8 + m) = 0 := by
  have h1 := val_cat s E (8 * j + 8) m
  have h2 := val_cat s E (8 * j) 8
  have b1 := val_bd s (E + (8 * j + 8)) m
  have b2 := val_bd s (E + 8 * j) 8
  have b3 := val_bd s E (8 * j)
  have p1 : (0 : Int) < 2 ^ m := Int.pow_pos (by omega)
  have h3 : 1 ≤ val s E (8 * j + 8) := by omega
  have h4 : 2 ^ m ≤ val s E (8 * j + 8) * 2 ^ m := by
    have := Int.mul_le_mul_of_nonneg_right h3 (Int.le_of_lt p1)
    omega
  omega
set_option linter.unusedSimpArgs false in
set_option maxRecDepth 10000 in
set_option maxHeartbeats 8000000 in
theorem rdecode_any (s : ByteArray) (w : World) (hs : s.size ≤ 1099511627776) : Calls Try.prog 17 #[.string s] w (DecPost s w) := by
  have HS := bx hs
  obtain ⟨Z, hZ⟩ : ∃ Z : Int, Z = (s.size : Int) := ⟨_, rfl⟩
  have hsz : (s.size : Int) = Z := hZ.symm
  have hz0 : 0 ≤ Z := by omega
  have hz1 : Z ≤ 1099511627776 := by omega
  have HZ := bx hZ
  clear hs hZ
  obtain ⟨q, hq⟩ : ∃ q, q = w.heap.size := ⟨_, rfl⟩
  obtain ⟨W0, hW0⟩ : ∃ W0, W0 = w.alloc (.cells zcs 25) := ⟨_, rfl⟩
  have HQ0 := bx (show W0.heap[q]? = some (.cells zcs 25 (0, 0)) by rw [hW0, hq]; exact heap_alloc_new w _)
  have HB0 := bx (show Below w.heap.size w W0 by rw [hW0]; exact (Below.refl _ w).alloc (Nat.le_refl _) _)
  have HQW := bx (show w.heap.size ≤ q by omega)
  have HE := bx hq
  have HW0 := bx hW0
  clear hq hW0
  obtain ⟨many, hmany⟩ : ∃ many, many = manyT s := ⟨_, rfl⟩
  have HMN := bx hmany
  clear hmany
  go_enter Try.func17, Try.ntmps17
  go_upto_region 1 with fail
  rw [← HW0.out, ← HE.out]
  by_cases h1 : 65536 < Z
  · have HD := bx (show decT s = (zeroT, 2) by unfold decT; rw [if_pos (by omega)])
    have q1 : decide (65536 < Z) = true := decide_eq_true (by omega)
    have hcb := HQ0.out
    obtain ⟨z0, z1, z2, z3, z4, z5, z6⟩ := cells7 hcb
    have e0 := frozen_of hcb 0
    have e1 := frozen_of hcb 1
    have e2 := frozen_of hcb 2
    have e3 := frozen_of hcb 3
    have e4 := frozen_of hcb 4
    have e5 := frozen_of hcb 5
    have e6 := frozen_of hcb 6
    clear hcb
    go_wp2_with fail
    try simp only [Exit.jump]
    refine ret_rdec (u := .int .i64 2) (stored7 HQ0.out) rfl rfl rfl rfl ?_
    exact dec_zero HD.out ((kept_store7 (S := fun k => w.heap.size ≤ k) (Kept.of_below HB0.out) (.inl HQW.out) _ _ _ _ _ _ _).below (Nat.le_refl _) (fun _ h => h))
  · have t1 : ¬ 65536 < s.size := by omega
    have q1 : decide (65536 < Z) = false := decide_eq_false h1
    by_cases h2 : ¬ Z % 4 = 0
    · have HD := bx (show decT s = (zeroT, 90) by unfold decT; rw [if_neg t1, if_pos (by omega)])
      have q2 : (Z % 4 == 0) = false := by rw [beq_eq_false_iff_ne]; exact h2
      have q2' : (Z % 4 != 0) = true := by unfold bne; rw [q2]; rfl
      clear h2 q2
      have hcb := HQ0.out
      obtain ⟨z0, z1, z2, z3, z4, z5, z6⟩ := cells7 hcb
      have e0 := frozen_of hcb 0
      have e1 := frozen_of hcb 1
      have e2 := frozen_of hcb 2
      have e3 := frozen_of hcb 3
      have e4 := frozen_of hcb 4
      have e5 := frozen_of hcb 5
      have e6 := frozen_of hcb 6
      clear hcb
      go_wp2_with fail
      try simp only [Exit.jump]
      refine ret_rdec (u := .int .i64 90) (stored7 HQ0.out) rfl rfl rfl rfl ?_
      exact dec_zero HD.out ((kept_store7 (S := fun k => w.heap.size ≤ k) (Kept.of_below HB0.out) (.inl HQW.out) _ _ _ _ _ _ _).below (Nat.le_refl _) (fun _ h => h))
    · replace h2 := Classical.not_not.1 h2
      have t2 : ¬ ¬ s.size % 4 = 0 := by omega
      have q2 : (Z % 4 == 0) = true := by rw [beq_iff_eq]; exact h2
      have q2' : (Z % 4 != 0) = false := by unfold bne; rw [q2]; rfl
      by_cases h3 : Z < 16
      · have HD := bx (show decT s = (zeroT, 60) by unfold decT; rw [if_neg t1, if_neg t2, if_pos (by omega)])
        clear h2 q2
        have q3 : decide (Z < 16) = true := decide_eq_true (by omega)
        have hcb := HQ0.out
        obtain ⟨z0, z1, z2, z3, z4, z5, z6⟩ := cells7 hcb
        have e0 := frozen_of hcb 0
        have e1 := frozen_of hcb 1
        have e2 := frozen_of hcb 2
        have e3 := frozen_of hcb 3
        have e4 := frozen_of hcb 4
        have e5 := frozen_of hcb 5
        have e6 := frozen_of hcb 6
        clear hcb
        go_wp2_with fail
        try simp only [Exit.jump]
        refine ret_rdec (u := .int .i64 60) (stored7 HQ0.out) rfl rfl rfl rfl ?_
        exact dec_zero HD.out ((kept_store7 (S := fun k => w.heap.size ≤ k) (Kept.of_below HB0.out) (.inl HQW.out) _ _ _ _ _ _ _).below (Nat.le_refl _) (fun _ h => h))
      · have t3 : ¬ s.size < 16 := by omega
        have HD0 := bx (show decT s = if many = 0 then (zeroT, 90) else if 4096 < many then (zeroT, 3) else outT s (decC s many (many + 1) 128 []) by unfold decT; rw [if_neg t1, if_neg t2, if_neg t3, HMN.out])
        have HFT := bx (show 128 ≤ 8 * s.size by omega)
        have HZ4 := bx (show s.size % 4 = 0 by omega)
        have q3 : decide (Z < 16) = false := decide_eq_false (by omega)
        clear h1 h2 h3 t1 t2 t3 q2
        go_wp2_with fail
        refine (ref_read_any s W0).mono ?_
        rintro e Va ⟨rfl, hVa⟩
        obtain ⟨p, hp⟩ : ∃ p, p = W0.heap.size := ⟨_, rfl⟩
        rw [← hp]
        have HR0 := bx (show RR 79 Va p s 0 false by rw [hVa, hp]; exact RR.new _ s W0)
        have hk0 : Kept (fun _ => False) W0 Va := by rw [hVa]; exact (Kept.refl _ W0).alloc _
        have HG0 := bx ((hk0.block q (Array.getElem?_eq_some_iff.1 HQ0.out).1 id).trans HQ0.out)
        have HW0 := bx (below_then HB0.out HB0.out.size (hk0.below (Nat.le_refl _) (fun _ e => e.elim)))
        have HPQ := bx (show q < p by rw [hp]; exact (Array.getElem?_eq_some_iff.1 HQ0.out).1)
        clear hVa hk0 hp q1 q2' q3
        go_wp2_with fail
        refine (rget_fit 32 32 rfl HR0.out (by omega) (by have := HFT.out; omega) HS.out).mono ?_
        rintro e V1 ⟨rfl, h1, hk1⟩
        have HR1 := bx (show RR 79 V1 p s 32 false from h1)
        have HG1 := bx ((hk1.block q (Array.getElem?_eq_some_iff.1 HG0.out).1 (fun e => by have := HPQ.out; omega)).trans HG0.out)
        have HW1 := bx (show Below w.heap.size w V1 from (Kept.trans (S := fun k => w.heap.size ≤ k) (Kept.of_below HW0.out) hk1 (fun k _ e => by have := HPQ.out; have := HQW.out; omega)).below (Nat.le_refl _) (fun _ h => h))
        have HK1 := bx hk1
        obtain ⟨v0, hv⟩ : ∃ v, v = val s 0 32 := ⟨_, rfl⟩
        obtain ⟨v0_lo, v0_hi⟩ : 0 ≤ v0 ∧ v0 < 4294967296 := by rw [hv]; exact val_bd s 0 32
        rw [← hv]
        have Hv0 := bx hv
        clear h1 hk1 hv
        go_wp2_with fail
        refine (rget_fit 32 32 rfl HR1.out (by omega) (by have := HFT.out; omega) HS.out).mono ?_
        rintro e V2 ⟨rfl, h1, hk1⟩
        have HR2 := bx (show RR 79 V2 p s 64 false from h1)
        have HG2 := bx ((hk1.block q (Array.getElem?_eq_some_iff.1 HG1.out).1 (fun e => by have := HPQ.out; omega)).trans HG1.out)
        have HW2 := bx (show Below w.heap.size w V2 from (Kept.trans (S := fun k => w.heap.size ≤ k) (Kept.of_below HW1.out) hk1 (fun k _ e => by have := HPQ.out; have := HQW.out; omega)).below (Nat.le_refl _) (fun _ h => h))
        have HK2 := bx hk1
        obtain ⟨v1, hv⟩ : ∃ v, v = val s 32 32 := ⟨_, rfl⟩
        obtain ⟨v1_lo, v1_hi⟩ : 0 ≤ v1 ∧ v1 < 4294967296 := by rw [hv]; exact val_bd s 32 32
        rw [← hv]
        have Hv1 := bx hv
        clear h1 hk1 hv
        go_wp2_with fail
        refine (rget_fit 16 16 rfl HR2.out (by omega) (by have := HFT.out; omega) HS.out).mono ?_
        rintro e V3 ⟨rfl, h1, hk1⟩
        have HR3 := bx (show RR 79 V3 p s 80 false from h1)
        have HG3 := bx ((hk1.block q (Array.getElem?_eq_some_iff.1 HG2.out).1 (fun e => by have := HPQ.out; omega)).trans HG2.out)
        have HW3 := bx (show Below w.heap.size w V3 from (Kept.trans (S := fun k => w.heap.size ≤ k) (Kept.of_below HW2.out) hk1 (fun k _ e => by have := HPQ.out; have := HQW.out; omega)).below (Nat.le_refl _) (fun _ h => h))
        have HK3 := bx hk1
        obtain ⟨v2, hv⟩ : ∃ v, v = val s 64 16 := ⟨_, rfl⟩
        obtain ⟨v2_lo, v2_hi⟩ : 0 ≤ v2 ∧ v2 < 65536 := by rw [hv]; exact val_bd s 64 16
        rw [← hv]
        have Hv2 := bx hv
        clear h1 hk1 hv
        go_upto_region 9 with fail
        obtain ⟨o, ho⟩ : ∃ o, o = V3.heap.size := ⟨_, rfl⟩
        obtain ⟨V4, hV4⟩ : ∃ U, U = V3.alloc (.cells (dcs v0 v1 v2 0 0 (.slice none 0 0) (.slice none 0 0)) 25) := ⟨_, rfl⟩
        rw [← hV4, ← ho]
        have hk4 : Kept (fun _ => False) V3 V4 := by rw [hV4]; exact (Kept.refl _ V3).alloc _
        have HR4 := bx (HR3.out.kept hk4 id)
        have HG4 := bx ((hk4.block q (Array.getElem?_eq_some_iff.1 HG3.out).1 id).trans HG3.out)
        have HW4 := bx (below_then HW3.out HW3.out.size (hk4.below (Nat.le_refl _) (fun _ e => e.elim)))
        have HO4 := bx (show V4.heap[o]? = some (.cells (dcs v0 v1 v2 0 0 (.slice none 0 0) (.slice none 0 0)) 25 (0, 0)) by rw [hV4, ho]; exact heap_alloc_new V3 _)
        have HPO := bx (show p < o by rw [ho]; exact (Array.getElem?_eq_some_iff.1 HR3.out).1)
        clear ho hV4 hk4 HR0 HR1 HR2 HR3 HG0 HG1 HG2 HG3 HW1 HW2 HW3
        go_wp2_with fail
        refine (rget_fit 16 16 rfl HR4.out (by omega) (by have := HFT.out; omega) HS.out).mono ?_
        rintro e V5 ⟨rfl, h1, hk1⟩
        have HR5 := bx (show RR 79 V5 p s 96 false from h1)
        have HG5 := bx ((hk1.block q (Array.getElem?_eq_some_iff.1 HG4.out).1 (fun e => by have := HPQ.out; omega)).trans HG4.out)
        have HW5 := bx (show Below w.heap.size w V5 from (Kept.trans (S := fun k => w.heap.size ≤ k) (Kept.of_below HW4.out) hk1 (fun k _ e => by have := HPQ.out; have := HQW.out; omega)).below (Nat.le_refl _) (fun _ h => h))
        have HK5 := bx hk1
        obtain ⟨vm, hv⟩ : ∃ v, v = val s 80 16 := ⟨_, rfl⟩
        obtain ⟨vm_lo, vm_hi⟩ : 0 ≤ vm ∧ vm < 65536 := by rw [hv]; exact val_bd s 80 16
        rw [← hv]
        have Hvm := bx hv
        clear h1 hk1 hv
        have HO5 := bx (show V5.heap[o]? = some (.cells (dcs v0 v1 v2 0 0 (.slice none 0 0) (.slice none 0 0)) 25 (0, 0)) from (HK5.out.block o (Array.getElem?_eq_some_iff.1 HO4.out).1 (fun e => by have := HPO.out; omega)).trans HO4.out)
        go_wp2_with fail
        refine (rget_fit 24 24 rfl HR5.out (by omega) (by have := HFT.out; omega) HS.out).mono ?_
        rintro e V6 ⟨rfl, h1, hk1⟩
        have HR6 := bx (show RR 79 V6 p s 120 false from h1)
        have HG6 := bx ((hk1.block q (Array.getElem?_eq_some_iff.1 HG5.out).1 (fun e => by have := HPQ.out; omega)).trans HG5.out)
        have HW6 := bx (show Below w.heap.size w V6 from (Kept.trans (S := fun k => w.heap.size ≤ k) (Kept.of_below HW5.out) hk1 (fun k _ e => by have := HPQ.out; have := HQW.out; omega)).below (Nat.le_refl _) (fun _ h => h))
        have HK6 := bx hk1
        obtain ⟨vb, hv⟩ : ∃ v, v = val s 96 24 := ⟨_, rfl⟩
        obtain ⟨vb_lo, vb_hi⟩ : 0 ≤ vb ∧ vb < 16777216 := by rw [hv]; exact val_bd s 96 24
        rw [← hv]
        have Hvb := bx hv
        clear h1 hk1 hv
        have HO6 := bx (show V6.heap[o]? = some (.cells (dcs v0 v1 v2 0 0 (.slice none 0 0) (.slice none 0 0)) 25 (0, 0)) from (HK6.out.block o (Array.getElem?_eq_some_iff.1 HO5.out).1 (fun e => by have := HPO.out; omega)).trans HO5.out)
        go_wp2_with fail
        refine (rsigned24 vb V6 vb_lo vb_hi).mono ?_
        rintro e V6' ⟨rfl, rfl⟩
        obtain ⟨sb, hsb⟩ : ∃ sb, sb = sg 24 vb := ⟨_, rfl⟩
        rw [← hsb]
        have HSB := bx hsb
        clear hsb
        go_wp2_with fail
        refine (rget_fit 8 8 rfl HR6.out (by omega) (by have := HFT.out; omega) HS.out).mono ?_
        rintro e V7 ⟨rfl, h1, hk1⟩
        have HR7 := bx (show RR 79 V7 p s 128 false from h1)
        have HG7 := bx ((hk1.block q (Array.getElem?_eq_some_iff.1 HG6.out).1 (fun e => by have := HPQ.out; omega)).trans HG6.out)
        have HW7 := bx (show Below w.heap.size w V7 from (Kept.trans (S := fun k => w.heap.size ≤ k) (Kept.of_below HW6.out) hk1 (fun k _ e => by have := HPQ.out; have := HQW.out; omega)).below (Nat.le_refl _) (fun _ h => h))
        have HK7 := bx hk1
        obtain ⟨vc, hv⟩ : ∃ v, v = val s 120 8 := ⟨_, rfl⟩
        obtain ⟨vc_lo, vc_hi⟩ : 0 ≤ vc ∧ vc < 256 := by rw [hv]; exact val_bd s 120 8
        rw [← hv]
        have Hvc := bx hv
        clear h1 hk1 hv
        have HO7 := bx (show V7.heap[o]? = some (.cells (dcs v0 v1 v2 0 0 (.slice none 0 0) (.slice none 0 0)) 25 (0, 0)) from (HK7.out.block o (Array.getElem?_eq_some_iff.1 HO6.out).1 (fun e => by have := HPO.out; omega)).trans HO6.out)
        have hcb := HO7.out
        have e3 := frozen_of hcb 3
        have e4 := frozen_of hcb 4
        obtain ⟨y0, y1, y2, y3, y4, y5, y6⟩ := cells7 hcb
        clear hcb
        obtain ⟨mm, hmm⟩ : ∃ mm : Nat, vm = (mm : Int) := ⟨vm.toNat, by omega⟩
        have HMM := bx (show mm = many by rw [HMN.out]; unfold manyT; rw [← Hvm.out]; omega)
        subst hmm
        rw [HMM.out]
        go_upto_region 11 with fail
        obtain ⟨U, hU⟩ : ∃ U, U = (V7.setCell ⟨o, 3, none⟩ (.int .i64 sb)).setCell ⟨o, 4, none⟩ (.int .i64 vc) := ⟨_, rfl⟩
        rw [← hU]
        have hku : Kept (fun k => k = o) V7 U := by rw [hU]; exact ((Kept.refl (fun k => k = o) V7).setCell (p := ⟨o, 3, none⟩) (.inl rfl) _).setCell (p := ⟨o, 4, none⟩) (.inl rfl) _
        have HOU1 := bx (show U.heap[o]? = some (.cells (dcs v0 v1 v2 sb vc (.slice none 0 0) (.slice none 0 0)) 25 (0, 0)) by rw [hU]; simp [World.setCell, Array.getElem?_modify, HO7.out])
        have HOU := bx (show U.heap[o]? = some (.cells (dcs (val s 0 32) (val s 32 32) (val s 64 16) (sg 24 (val s 96 24)) (val s 120 8) (.slice none 0 0) (.slice none 0 0)) 25 (0, 0)) by rw [← Hv0.out, ← Hv1.out, ← Hv2.out, ← Hvb.out, ← HSB.out, ← Hvc.out]; exact HOU1.out)
        have HGU := bx ((hku.block q (Array.getElem?_eq_some_iff.1 HG7.out).1 (fun e => by have := HPQ.out; have := HPO.out; omega)).trans HG7.out)
        have HRU := bx (HR7.out.kept hku (fun e => by have := HPO.out; omega))
        have HWU := bx (show Below w.heap.size w U from (Kept.trans (S := fun k => w.heap.size ≤ k) (Kept.of_below HW7.out) hku (fun k _ e => by have := HPQ.out; have := HPO.out; have := HQW.out; omega)).below (Nat.le_refl _) (fun _ h => h))
        clear hU hku e3 e4 y0 y1 y2 y3 y4 y5 y6 HO4 HO5 HO6 HO7 HG4 HG5 HG6 HG7 HR4 HR5 HR6 HR7 HW4 HW5 HW6 HW7 HOU1
        have hmany : (many : Int) ≤ 65535 := by have := HMM.out; omega
        have HDM := bx (show ¬ (many : Int) = 0 → ¬ 4096 < (many : Int) → decT s = outT s (decC s many (many + 1) 128 []) from fun a b => by rw [HD0.out, if_neg (by omega), if_neg (by omega)])
        by_cases hm0 : (many : Int) = 0
        · have HD := bx (show decT s = (zeroT, 90) by rw [HD0.out, if_pos (by omega)])
          have q4 : ((many : Int) == 0) = true := by rw [beq_iff_eq]; exact hm0
          have hcb := HGU.out
          obtain ⟨z0, z1, z2, z3, z4, z5, z6⟩ := cells7 hcb
          have e0 := frozen_of hcb 0
          have e1 := frozen_of hcb 1
          have e2 := frozen_of hcb 2
          have e3 := frozen_of hcb 3
          have e4 := frozen_of hcb 4
          have e5 := frozen_of hcb 5
          have e6 := frozen_of hcb 6
          clear hcb
          go_wp2_with fail
          try simp only [Exit.jump]
          refine ret_rdec (u := .int .i64 90) (stored7 HGU.out) rfl rfl rfl rfl ?_
          exact dec_zero HD.out ((kept_store7 (S := fun k => w.heap.size ≤ k) (Kept.of_below HWU.out) (.inl HQW.out) _ _ _ _ _ _ _).below (Nat.le_refl _) (fun _ h => h))
        · have q4 : ((many : Int) == 0) = false := by rw [beq_eq_false_iff_ne]; exact hm0
          have t4 : ¬ many = 0 := by omega
          by_cases hm4 : 4096 < (many : Int)
          · have HD := bx (show decT s = (zeroT, 3) by rw [HD0.out, if_neg t4, if_pos (by omega)])
            have q5 : decide (4096 < (many : Int)) = true := decide_eq_true (by omega)
            have q5' : decide (4096 < many) = true := decide_eq_true (by omega)
            have hcb := HGU.out
            obtain ⟨z0, z1, z2, z3, z4, z5, z6⟩ := cells7 hcb
            have e0 := frozen_of hcb 0
            have e1 := frozen_of hcb 1
            have e2 := frozen_of hcb 2
            have e3 := frozen_of hcb 3
            have e4 := frozen_of hcb 4
            have e5 := frozen_of hcb 5
            have e6 := frozen_of hcb 6
            clear hcb
            go_wp2_with fail
            try simp only [Exit.jump]
            refine ret_rdec (u := .int .i64 3) (stored7 HGU.out) rfl rfl rfl rfl ?_
            exact dec_zero HD.out ((kept_store7 (S := fun k => w.heap.size ≤ k) (Kept.of_below HWU.out) (.inl HQW.out) _ _ _ _ _ _ _).below (Nat.le_refl _) (fun _ h => h))
          · have HM1 := bx (show 1 ≤ (many : Int) by omega)
            have HM4 := bx (show many ≤ 4096 by omega)
            have hm4' : (many : Int) ≤ 4096 := by omega
            have HDC0 := bx (HDM.out hm0 hm4)
            have q5 : decide (4096 < (many : Int)) = false := decide_eq_false (by omega)
            have q5' : decide (4096 < many) = false := decide_eq_false (by omega)
            clear hm0 hm4 t4 hmany vm_lo vm_hi
            go_wp2_with fail
            go_loopw [] (fun wx => ∃ (f r : Nat) (l : List Int) (lv : Value), wx.heap[q]? = some (.cells zcs 25 (0, 0)) ∧ wx.heap[o]? = some (.cells (dcs (val s 0 32) (val s 32 32) (val s 64 16) (sg 24 (val s 96 24)) (val s 120 8) lv (.slice none 0 0)) 25 (0, 0)) ∧ RW wx 1 lv l.length (nums .i64 l) ∧ (∀ g, isAt lv g → w.heap.size ≤ g ∧ g ≠ q ∧ g ≠ p ∧ g ≠ o) ∧ RR 79 wx p s r false ∧ r ≤ 8 * s.size ∧ r % 8 = 0 ∧ decT s = outT s (decC s many f r l) ∧ many < f + l.length ∧ l.length ≤ many ∧ (∀ y ∈ l, 0 ≤ y ∧ y ≤ 2) ∧ Below w.heap.size w wx) (fun wx => muR o many wx)
            case atStart => exact ⟨many + 1, 128, [], .slice none 0 0, HGU.out, HOU.out, RW.nil _ _, (by rintro g ⟨o, m, c, e⟩; cases e), HRU.out, HFT.out, rfl, HDC0.out, by simp, Nat.zero_le _, (fun y hy => by cases hy), HWU.out⟩
            case round =>
              obtain ⟨f, r, l, lv, hqx, hox, hrw, hat, hrr, hr, hr8, hdec, hf, hlm, h02, hbw⟩ := hrel
              rename World => X
              obtain ⟨n, hn⟩ : ∃ n, n = l.length := ⟨_, rfl⟩
              obtain ⟨lA, lc, rfl⟩ : ∃ lA lc, lv = .slice lA n lc := by rw [hn]; exact hrw.shape
              rw [← hn] at hrw hf hlm
              obtain ⟨f', rfl⟩ : ∃ f', f = f' + 1 := ⟨f - 1, by omega⟩
              have HN := bx hn
              have HQX := bx hqx
              have HOX := bx hox
              have HRW := bx hrw
              have HAT := bx hat
              have HRR := bx hrr
              have HR := bx hr
              have HR8 := bx hr8
              have HDC := bx hdec
              have HF := bx hf
              have H02 := bx h02
              have HBW := bx hbw
              have hnm : (n : Int) ≤ (many : Int) := by omega
              obtain ⟨y0, y1, y2, y3, y4, y5, y6⟩ := cells7 hox
              clear hqx hox hrw hat hrr hr hr8 hdec hf hlm h02 hbw hn y0 y1 y2 y3 y4 y6
              clear HQ0 HB0 HE HW0 HD0 HDM HDC0 HOU HGU HRU HWU
              by_cases hlt : (n : Int) < (many : Int)
              · obtain ⟨lack, hlk⟩ : ∃ lack : Nat, (many : Int) - (n : Int) = (lack : Int) := ⟨many - n, by omega⟩
                have HLK := bx (show many - l.length = lack by have := HN.out; omega)
                have HNL := bx (show ¬ many ≤ l.length by have := HN.out; omega)
                have hl1 : 1 ≤ (lack : Int) := by omega
                have hl2 : (lack : Int) ≤ 4096 := by omega
                have q6 : decide ((n : Int) < (many : Int)) = true := decide_eq_true hlt
                have q6' : decide (n < many) = true := decide_eq_true (by omega)
                clear hlt
                obtain ⟨NL, hNL⟩ : ∃ NL : Nat, 8 * (s.size : Int) - (r : Int) = (NL : Int) := ⟨8 * s.size - r, by have := HR.out; omega⟩
                have HN3 := bx hNL
                have HNL2 := bx (show 8 * s.size - r = NL by omega)
                clear hNL
                go_wp2_with fail
                clear y5
                refine (rleft_fit HRR.out HR.out HS.out).mono ?_
                rw [HN3.out]
                rintro e X1 ⟨rfl, h1, hk1⟩
                have HRR1 := bx h1
                have HQ1 := bx ((hk1.block q (Array.getElem?_eq_some_iff.1 HQX.out).1 id).trans HQX.out)
                have HO1 := bx ((hk1.block o (Array.getElem?_eq_some_iff.1 HOX.out).1 id).trans HOX.out)
                have HRW1 := bx (HRW.out.kept hk1 (fun _ _ => id))
                have HB1 := bx (below_then HBW.out HBW.out.size (hk1.below (Nat.le_refl _) (fun _ e => e.elim)))
                have HMU := bx (show muR o many X = muR o many X1 by unfold muR; rw [(cells7 HOX.out).2.2.2.2.2.1, (cells7 HO1.out).2.2.2.2.2.1])
                clear h1 hk1
                by_cases hsh : (NL : Int) < 16
                · have HD := bx (show decT s = (zeroT, 60) by rw [HDC.out, decC_short HNL.out (by have := HNL2.out; have := HR.out; omega)]; rfl)
                  have q7 : decide ((NL : Int) < 16) = true := decide_eq_true hsh
                  have q7' : decide (NL < 16) = true := decide_eq_true (by omega)
                  clear hsh
                  have hcb := HQ1.out
                  obtain ⟨z0, z1, z2, z3, z4, z5, z6⟩ := cells7 hcb
                  have e0 := frozen_of hcb 0
                  have e1 := frozen_of hcb 1
                  have e2 := frozen_of hcb 2
                  have e3 := frozen_of hcb 3
                  have e4 := frozen_of hcb 4
                  have e5 := frozen_of hcb 5
                  have e6 := frozen_of hcb 6
                  clear hcb
                  go_wp2_with fail
                  try simp only [Exit.jump]
                  refine ret_rdec (u := .int .i64 60) (stored7 HQ1.out) rfl rfl rfl rfl ?_
                  exact dec_zero HD.out ((kept_store7 (S := fun k => w.heap.size ≤ k) (Kept.of_below HB1.out) (.inl HQW.out) _ _ _ _ _ _ _).below (Nat.le_refl _) (fun _ h => h))
                · have HSH := bx (show ¬ 8 * s.size < r + 16 by have := HNL2.out; have := HR.out; omega)
                  have q7 : decide ((NL : Int) < 16) = false := decide_eq_false hsh
                  have q7' : decide (NL < 16) = false := decide_eq_false (by omega)
                  clear hsh
                  go_upto_region 18 with fail
                  clear q6 q6' q7 q7'
                  have HS6 : X1.drew.cell? ⟨o, 5, none⟩ = some (.slice lA n lc) := (cells7 HO1.out).2.2.2.2.2.1
                  refine Tail.start 13 (fun w' => w'.cell? ⟨o, 5, none⟩ = some (.slice lA n lc)) (by kernel_rfl) ?_
                  refine Tail.take 0 rfl (by kernel_rfl) (fun _ _ _ h => h) (by rfl) HS6 (fun w hSw => by (try dsimp only at hSw); go_simp; (try with_reducible rfl)) ?_
                  try simp only [List.getElem_toArray, List.getElem_cons_succ, List.getElem_cons_zero, Act.put, List.setIfInBounds_toArray, List.set_cons_zero, List.set_cons_succ]
                  refine Tail.take 2 rfl (by kernel_rfl) (fun _ _ _ h => h) (by rfl) HS6 (fun w hSw => by (try dsimp only at hSw); go_simp; (try with_reducible rfl)) ?_
                  try simp only [List.getElem_toArray, List.getElem_cons_succ, List.getElem_cons_zero, Act.put, List.setIfInBounds_toArray, List.set_cons_zero, List.set_cons_succ]
                  refine Tail.take 3 rfl (by kernel_rfl) (fun _ _ _ h => h) (by rfl) HS6 (fun w hSw => by (try dsimp only at hSw); go_simp; (try with_reducible rfl)) ?_
                  try simp only [List.getElem_toArray, List.getElem_cons_succ, List.getElem_cons_zero, Act.put, List.setIfInBounds_toArray, List.set_cons_zero, List.set_cons_succ]
                  refine Tail.take 4 rfl (by kernel_rfl) (fun _ _ _ h => h) (by rfl) HS6 (fun w hSw => by (try dsimp only at hSw); go_simp; (try with_reducible rfl)) ?_
                  try simp only [List.getElem_toArray, List.getElem_cons_succ, List.getElem_cons_zero, Act.put, List.setIfInBounds_toArray, List.set_cons_zero, List.set_cons_succ]
                  refine Tail.take 5 rfl (by kernel_rfl) (fun _ _ _ h => h) (by rfl) HS6 (fun w hSw => by (try dsimp only at hSw); go_simp; (try with_reducible rfl)) ?_
                  try simp only [List.getElem_toArray, List.getElem_cons_succ, List.getElem_cons_zero, Act.put, List.setIfInBounds_toArray, List.set_cons_zero, List.set_cons_succ]
                  refine Tail.take 6 rfl (by kernel_rfl) (fun _ _ _ h => h) (by rfl) HS6 (fun w hSw => by (try dsimp only at hSw); go_simp; (try with_reducible rfl)) ?_
                  try simp only [List.getElem_toArray, List.getElem_cons_succ, List.getElem_cons_zero, Act.put, List.setIfInBounds_toArray, List.set_cons_zero, List.set_cons_succ]
                  refine Tail.one 1 rfl (by kernel_rfl) (fun K hK => ?_)
                  go_simp
                  refine (rget_fit 16 16 rfl (show RR 79 X1.drew p s r false from HRR1.out.kept ((Kept.refl (fun _ => False) X1).drew) id) (by omega) (by have := HSH.out; omega) HS.out).mono ?_
                  rintro e X2 ⟨rfl, h1, hk1⟩
                  have hk2 : Kept (fun j => j = p) X1 X2 := (Kept.refl (fun j => j = p) X1).drew.trans hk1 (fun _ _ h => h)
                  have HRR2 := bx h1
                  have HQ2 := bx ((hk2.block q (Array.getElem?_eq_some_iff.1 HQ1.out).1 (fun e => by have := HPQ.out; omega)).trans HQ1.out)
                  have HO2 := bx ((hk2.block o (Array.getElem?_eq_some_iff.1 HO1.out).1 (fun e => by have := HPO.out; omega)).trans HO1.out)
                  have HRW2 := bx (HRW1.out.kept hk2 (fun g hg e => (HAT.out g hg).2.2.1 e))
                  have HB2 := bx (show Below w.heap.size w X2 from (Kept.trans (S := fun j => w.heap.size ≤ j) (Kept.of_below HB1.out) hk2 (fun j _ e => by have := HPQ.out; have := HQW.out; omega)).below (Nat.le_refl _) (fun _ h => h))
                  have HS6 : X2.cell? ⟨o, 5, none⟩ = some (.slice lA n lc) := (cells7 HO2.out).2.2.2.2.2.1
                  obtain ⟨V, hV⟩ : ∃ V, V = val s r 16 := ⟨_, rfl⟩
                  rw [← hV]
                  have hck : Calls Try.prog 40 #[.int .u32 V, .int .i64 (lack : Int)] X2 (RChunkPost s r lack X2) := by
                    rw [hV]
                    exact rchunk_any s r lack X2 hl1 hl2
                  have HCK := bx hck
                  clear h1 hk1 hk2 hV hck
                  refine hK.out _ _ HS6 ?_
                  clear hK K
                  try simp only [List.getElem_toArray, List.getElem_cons_succ, List.getElem_cons_zero, Act.put, List.setIfInBounds_toArray, List.set_cons_zero, List.set_cons_succ]
                  refine Tail.one 7 rfl (by kernel_rfl) (fun K hK => ?_)
                  go_simp
                  try rw [hlk]
                  try rw [show IntKind.i64.wrap (lack : Int) = (lack : Int) from IntWalk.i64_in _ (by omega)]
                  refine HCK.out.mono ?_
                  intro e X3 hpost
                  unfold RChunkPost at hpost
                  cases hcd : chunkD s r lack with
                  | none =>
                    rw [hcd] at hpost
                    obtain ⟨rfl, hk1⟩ := hpost
                    have HD := bx (show decT s = (zeroT, 100) by rw [HDC.out, decC_bad HNL.out HSH.out (by rw [HLK.out]; exact hcd)]; rfl)
                    have HQ3 := bx ((hk1.block q (Array.getElem?_eq_some_iff.1 HQ2.out).1 id).trans HQ2.out)
                    have HB3 := bx (below_then HB2.out HB2.out.size (hk1.below (Nat.le_refl _) (fun _ e => e.elim)))
                    have HS6 : X3.cell? ⟨o, 5, none⟩ = some (.slice lA n lc) := ck hk1 ((cells7 HO2.out).2.2.2.2.2.1) id
                    clear hk1 hcd
                    refine hK.out _ _ HS6 ?_
                    clear hK K
                    try simp only [List.getElem_toArray, List.getElem_cons_succ, List.getElem_cons_zero, Act.put, List.setIfInBounds_toArray, List.set_cons_zero, List.set_cons_succ]
                    refine Tail.take 8 rfl (by kernel_rfl) (fun _ _ _ h => h) (by rfl) HS6 (fun w hSw => by (try dsimp only at hSw); go_simp; (try with_reducible rfl)) ?_
                    try simp only [List.getElem_toArray, List.getElem_cons_succ, List.getElem_cons_zero, Act.put, List.setIfInBounds_toArray, List.set_cons_zero, List.set_cons_succ]
                    refine Tail.take 9 rfl (by kernel_rfl) (fun _ _ _ h => h) (by rfl) HS6 (fun w hSw => by (try dsimp only at hSw); go_simp; (try with_reducible rfl)) ?_
                    try simp only [List.getElem_toArray, List.getElem_cons_succ, List.getElem_cons_zero, Act.put, List.setIfInBounds_toArray, List.set_cons_zero, List.set_cons_succ]
                    refine Tail.take 10 rfl (by kernel_rfl) (fun _ _ _ h => h) (by rfl) HS6 (fun w hSw => by (try dsimp only at hSw); go_simp; (try with_reducible rfl)) ?_
                    try simp only [List.getElem_toArray, List.getElem_cons_succ, List.getElem_cons_zero, Act.put, List.setIfInBounds_toArray, List.set_cons_zero, List.set_cons_succ]
                    refine Tail.take 11 rfl (by kernel_rfl) (fun _ _ _ h => h) (by rfl) HS6 (fun w hSw => by (try dsimp only at hSw); go_simp; (try with_reducible rfl)) ?_
                    try simp only [List.getElem_toArray, List.getElem_cons_succ, List.getElem_cons_zero, Act.put, List.setIfInBounds_toArray, List.set_cons_zero, List.set_cons_succ]
                    refine Tail.take 12 rfl (by kernel_rfl) (fun _ _ _ h => h) (by rfl) HS6 (fun w hSw => by (try dsimp only at hSw); go_simp; (try with_reducible rfl)) ?_
                    try simp only [List.getElem_toArray, List.getElem_cons_succ, List.getElem_cons_zero, Act.put, List.setIfInBounds_toArray, List.set_cons_zero, List.set_cons_succ]
                    refine Tail.tail 13 rfl (by kernel_rfl) ?_
                    simp only [List.drop_succ_cons, List.drop_zero, List.drop_nil]
                    clear HS6
                    have hcb := HQ3.out
                    obtain ⟨z0, z1, z2, z3, z4, z5, z6⟩ := cells7 hcb
                    have e0 := frozen_of hcb 0
                    have e1 := frozen_of hcb 1
                    have e2 := frozen_of hcb 2
                    have e3 := frozen_of hcb 3
                    have e4 := frozen_of hcb 4
                    have e5 := frozen_of hcb 5
                    have e6 := frozen_of hcb 6
                    clear hcb
                    go_wp2_with fail
                    try simp only [Exit.jump]
                    refine ret_rdec (u := .int .i64 100) (stored7 HQ3.out) rfl rfl rfl rfl ?_
                    exact dec_zero HD.out ((kept_store7 (S := fun k => w.heap.size ≤ k) (Kept.of_below HB3.out) (.inl HQW.out) _ _ _ _ _ _ _).below (Nat.le_refl _) (fun _ h => h))
                  | some x =>
                    rw [hcd] at hpost
                    obtain ⟨xA, xc, rfl, hrx, hax, hk1⟩ := hpost
                    obtain ⟨m, hm⟩ : ∃ m, m = x.length := ⟨_, rfl⟩
                    obtain ⟨c1, c2, c3⟩ := chunkD_some (by omega) hcd
                    rw [← hm] at hrx hax c1 c2 ⊢
                    have HDC2 := bx (show decT s = outT s (decC s many f' (r + 16) (l ++ x)) by rw [HDC.out, decC_next HNL.out HSH.out (by rw [HLK.out]; exact hcd)])
                    have HM := bx hm
                    have hmb : (m : Int) ≤ (lack : Int) := by omega
                    have HM1' := bx c1
                    have HC3 := bx c3
                    have HRX := bx hrx
                    have HAX := bx hax
                    have HQ3 := bx ((hk1.block q (Array.getElem?_eq_some_iff.1 HQ2.out).1 id).trans HQ2.out)
                    have HO3 := bx ((hk1.block o (Array.getElem?_eq_some_iff.1 HO2.out).1 id).trans HO2.out)
                    have HRR3 := bx (HRR2.out.kept hk1 id)
                    have HRW3 := bx (HRW2.out.kept hk1 (fun _ _ => id))
                    have HB3 := bx (below_then HB2.out HB2.out.size (hk1.below (Nat.le_refl _) (fun _ e => e.elim)))
                    have HS6 : X3.cell? ⟨o, 5, none⟩ = some (.slice lA n lc) := (cells7 HO3.out).2.2.2.2.2.1
                    refine hK.out _ _ HS6 ?_
                    clear hK K
                    try simp only [List.getElem_toArray, List.getElem_cons_succ, List.getElem_cons_zero, Act.put, List.setIfInBounds_toArray, List.set_cons_zero, List.set_cons_succ]
                    refine Tail.take 8 rfl (by kernel_rfl) (fun _ _ _ h => h) (by rfl) HS6 (fun w hSw => by (try dsimp only at hSw); go_simp; (try with_reducible rfl)) ?_
                    try simp only [List.getElem_toArray, List.getElem_cons_succ, List.getElem_cons_zero, Act.put, List.setIfInBounds_toArray, List.set_cons_zero, List.set_cons_succ]
                    refine Tail.take 9 rfl (by kernel_rfl) (fun _ _ _ h => h) (by rfl) HS6 (fun w hSw => by (try dsimp only at hSw); go_simp; (try with_reducible rfl)) ?_
                    try simp only [List.getElem_toArray, List.getElem_cons_succ, List.getElem_cons_zero, Act.put, List.setIfInBounds_toArray, List.set_cons_zero, List.set_cons_succ]
                    refine Tail.take 10 rfl (by kernel_rfl) (fun _ _ _ h => h) (by rfl) HS6 (fun w hSw => by (try dsimp only at hSw); go_simp; (try with_reducible rfl)) ?_
                    try simp only [List.getElem_toArray, List.getElem_cons_succ, List.getElem_cons_zero, Act.put, List.setIfInBounds_toArray, List.set_cons_zero, List.set_cons_succ]
                    refine Tail.take 11 rfl (by kernel_rfl) (fun _ _ _ h => h) (by rfl) HS6 (fun w hSw => by (try dsimp only at hSw); go_simp; (try with_reducible rfl)) ?_
                    try simp only [List.getElem_toArray, List.getElem_cons_succ, List.getElem_cons_zero, Act.put, List.setIfInBounds_toArray, List.set_cons_zero, List.set_cons_succ]
                    refine Tail.take 12 rfl (by kernel_rfl) (fun _ _ _ h => h) (by rfl) HS6 (fun w hSw => by (try dsimp only at hSw); go_simp; (try with_reducible rfl)) ?_
                    try simp only [List.getElem_toArray, List.getElem_cons_succ, List.getElem_cons_zero, Act.put, List.setIfInBounds_toArray, List.set_cons_zero, List.set_cons_succ]
                    refine Tail.tail 13 rfl (by kernel_rfl) ?_
                    simp only [List.drop_succ_cons, List.drop_zero, List.drop_nil]
                    clear HS6
                    try rw [← HM.out]
                    have hcb := HO3.out
                    obtain ⟨y0, y1, y2, y3, y4, y5', y6⟩ := cells7 hcb
                    have e5 := frozen_of hcb 5
                    clear hcb hm hcd hrx hax hk1 c1 c2 c3 y0 y1 y2 y3 y4 y6
                    go_wp2_with (first
                      | (at_builtin
                         refine wpList_many rfl (.tmp 77) (.tmp 78) 23 rfl 3 (.int .i64 0) 1 8 Try.underlying23 info_int rfl (by omega) (.slice lA n lc) n (nums .i64 l) rfl HRW3.out _ m _ (nums .i64 x) rfl HRX.out.rd (nums_one _ _) HM1'.out (by omega) ?_
                         intro v5 w5 hr5 hk5 hn5
                         obtain ⟨A5, c5, rfl⟩ := hr5.shape
                         have HR5 := bx hr5
                         have HK5 := bx hk5
                         have HN5 := bx hn5
                         have hno : ¬ isAt (.slice lA n lc) o := fun e => (HAT.out o e).2.2.2 rfl
                         have y7 := ck hk5 y5' hno
                         have e7 := (hk5.frozen (p := ⟨o, 5, none⟩) (Array.getElem?_eq_some_iff.1 HO3.out).1 hno).trans e5
                         have HNO := bx hno
                         clear hr5 hk5 hn5 hno y5' e5))
                    obtain ⟨X6, hX6⟩ : ∃ X6, X6 = w5.setCell ⟨o, 5, none⟩ (.slice A5 (n + m) c5) := ⟨_, rfl⟩
                    rw [← hX6]
                    have HO5 := bx ((HK5.out.block o (Array.getElem?_eq_some_iff.1 HO3.out).1 HNO.out).trans HO3.out)
                    have HQ5 := bx ((HK5.out.block q (Array.getElem?_eq_some_iff.1 HQ3.out).1 (fun e => (HAT.out q e).2.1 rfl)).trans HQ3.out)
                    have HK6 := bx (show Kept (fun k => k = o) w5 X6 by rw [hX6]; exact (Kept.refl (fun k => k = o) w5).setCell (p := ⟨o, 5, none⟩) (.inl rfl) _)
                    have HO6 := bx (show X6.heap[o]? = some (.cells (dcs (val s 0 32) (val s 32 32) (val s 64 16) (sg 24 (val s 96 24)) (val s 120 8) (.slice A5 (n + m) c5) (.slice none 0 0)) 25 (0, 0)) by rw [hX6]; simp [World.setCell, Array.getElem?_modify, HO5.out])
                    clear hX6 y7 e7
                    go_roundw
                    case rel =>
                      have hat5 : ∀ g, isAt (.slice A5 (n + m) c5) g → w.heap.size ≤ g ∧ g ≠ q ∧ g ≠ p ∧ g ≠ o := fun g hg => by
                        rcases HN5.out g hg with h | h
                        · exact HAT.out g h
                        · have h1 := (Array.getElem?_eq_some_iff.1 HQ3.out).1
                          have h2 := (Array.getElem?_eq_some_iff.1 HO3.out).1
                          have h3 := (Array.getElem?_eq_some_iff.1 HRR3.out).1
                          have h4 := HB3.out.size
                          omega
                      have hll : (l ++ x).length = n + m := by rw [List.length_append, ← HN.out, ← HM.out]
                      refine ⟨f', r + 16, l ++ x, .slice A5 (n + m) c5, (HK6.out.block q (Array.getElem?_eq_some_iff.1 HQ5.out).1 (fun e => by have := HPQ.out; have := HPO.out; omega)).trans HQ5.out, HO6.out, ?_, hat5, ?_, ?_, ?_, HDC2.out, ?_, ?_, ?_, ?_⟩
                      · rw [hll, nums_append]
                        exact HR5.out.kept HK6.out (fun g hg e => (hat5 g hg).2.2.2 e)
                      · exact (HRR3.out.kept HK5.out (fun e => (HAT.out p e).2.2.1 rfl)).kept HK6.out (fun e => by have := HPO.out; omega)
                      · have := HSH.out
                        omega
                      · have := HR8.out
                        omega
                      · rw [hll]
                        have := HF.out
                        have := HM1'.out
                        omega
                      · rw [hll]
                        omega
                      · intro y hy
                        rcases List.mem_append.1 hy with h1 | h1
                        · exact H02.out y h1
                        · exact HC3.out y h1
                      · exact (Kept.trans (S := fun k => w.heap.size ≤ k) (Kept.trans (S := fun k => w.heap.size ≤ k) (Kept.of_below HB3.out) HK5.out (fun k _ e => (HAT.out k e).1)) HK6.out (fun k _ e => by have := HPQ.out; have := HPO.out; have := HQW.out; omega)).below (Nat.le_refl _) (fun _ h => h)
                    case measure =>
                      have r1 : X.cell? ⟨o, 5, none⟩ = some (.slice lA n lc) := (cells7 HOX.out).2.2.2.2.2.1
                      have r2 : X6.cell? ⟨o, 5, none⟩ = some (.slice A5 (n + m) c5) := (cells7 HO6.out).2.2.2.2.2.1
                      show muR o many X6 < muR o many X
                      unfold muR
                      rw [r1, r2]
                      have := HM1'.out
                      simp only
                      omega
              · have hnm2 : n = many := by omega
                have HDT := bx (show decT s = tailT s (l, r) by rw [HDC.out, decC_end (by have := HN.out; omega)]; rfl)
                have HSB2 := bx (sumTo_two H02.out n (by have := HN.out; omega))
                have q6 : decide ((n : Int) < (many : Int)) = false := decide_eq_false (by omega)
                have q6' : decide (n < many) = false := decide_eq_false (by omega)
                subst hnm2
                clear hlt hnm
                go_wp2_with fail
                clear y5 q6 q6'
                go_loopw [9] (fun iv wx => ∃ (i : Nat) (dv : Value), (i : Int) ≤ (n : Int) ∧ iv = .int .i64 (i : Int) ∧ wx.heap[q]? = some (.cells zcs 25 (0, 0)) ∧ wx.heap[o]? = some (.cells (dcs (val s 0 32) (val s 32 32) (val s 64 16) (sg 24 (val s 96 24)) (val s 120 8) (.slice lA n lc) dv) 25 (0, 0)) ∧ RW wx 1 (.slice lA n lc) n (nums .i64 l) ∧ RW wx 1 dv (decD s l r i).length (nums .i64 (decD s l r i)) ∧ (∀ g, isAt dv g → w.heap.size ≤ g ∧ g ≠ q ∧ g ≠ p ∧ g ≠ o ∧ ¬ isAt (.slice lA n lc) g) ∧ RR 79 wx p s (r + 8 * sumTo l i) false ∧ r + 8 * sumTo l i ≤ 8 * s.size ∧ Below w.heap.size w wx) (fun iv _ => ((n : Int) - intOf iv).toNat)
                case atStart => exact ⟨0, .slice none 0 0, by omega, rfl, HQX.out, HOX.out, HRW.out, RW.nil _ _, (by rintro g ⟨o, m, c, e⟩; cases e), HRR.out, HR.out, HBW.out⟩
                case round =>
                  obtain ⟨i, dv, hi, rfl, hq, ho, hrl, hrd, hda, hst, hpl, hb⟩ := hrel
                  rename World => Y
                  obtain ⟨k, hk⟩ : ∃ k, k = (decD s l r i).length := ⟨_, rfl⟩
                  obtain ⟨dA, dc, rfl⟩ : ∃ dA dc, dv = .slice dA k dc := by rw [hk]; exact hrd.shape
                  rw [← hk] at hrd
                  have HKL := bx hk.symm
                  have hk4 : (k : Int) ≤ 4096 := by have := decD_len (s := s) (st := l) (r := r) i; omega
                  have HQ := bx hq
                  have HO := bx ho
                  have HRL := bx hrl
                  have HRD := bx hrd
                  have HDA := bx hda
                  have HST := bx hst
                  have HPL := bx hpl
                  have HB := bx hb
                  clear hk hq ho hrl hrd hda hst hb hpl
                  by_cases hil : (i : Int) < (n : Int)
                  · obtain ⟨g, off, x, e, _, hx, hxm, y0⟩ := int_at HRL.out.rd (k := i) (by omega)
                    subst e
                    have HXX := bx hx
                    have hx02 := H02.out x hxm
                    have hx3 : x = 0 ∨ x = 1 ∨ x = 2 := by omega
                    have q2 : decide ((i : Int) < (n : Int)) = true := decide_eq_true hil
                    have q2' : decide (i < n) = true := decide_eq_true (by omega)
                    have y5 : Y.cell? ⟨o, 5, none⟩ = some (.slice (some ⟨g, off, none⟩) n lc) := (cells7 HO.out).2.2.2.2.2.1
                    clear hx hxm hx02
                    rcases hx3 with s0 | s1 | s2
                    · subst s0
                      have HDD := bx (decD_zero (s := s) (r := r) HXX.out)
                      have HSM := bx (show sumTo l (i + 1) = sumTo l i by rw [sumTo_succ HXX.out]; rfl)
                      go_wp2_with fail
                      go_roundw
                      case rel => exact ⟨i + 1, .slice dA k dc, by omega, by go_num, HQ.out, HO.out, HRL.out, by rw [HDD.out, HKL.out]; exact HRD.out, HDA.out, by rw [HSM.out]; exact HST.out, by rw [HSM.out]; exact HPL.out, HB.out⟩
                      case measure => exact measN n i hil
                    · subst s1
                      have HDD := bx (decD_one (s := s) (r := r) HXX.out)
                      have HSM := bx (show r + 8 * sumTo l i + 8 = r + 8 * sumTo l (i + 1) by rw [sumTo_succ HXX.out]; omega)
                      obtain ⟨NL, hNL⟩ : ∃ NL : Nat, 8 * (s.size : Int) - ((r + 8 * sumTo l i : Nat) : Int) = (NL : Int) := ⟨8 * s.size - (r + 8 * sumTo l i), by have := HPL.out; omega⟩
                      have HN3 := bx hNL
                      have HNL2 := bx (show 8 * s.size - (r + 8 * sumTo l i) = NL by omega)
                      clear hNL
                      go_wp2_with fail
                      clear y0 y5 q2 q2'
                      refine (rleft_fit HST.out HPL.out HS.out).mono ?_
                      rw [HN3.out]
                      rintro e Y0 ⟨rfl, h1, hk1⟩
                      have HST0 := bx h1
                      have HQ0 := bx ((hk1.block q (Array.getElem?_eq_some_iff.1 HQ.out).1 id).trans HQ.out)
                      have HO0 := bx ((hk1.block o (Array.getElem?_eq_some_iff.1 HO.out).1 id).trans HO.out)
                      have HRL0 := bx (HRL.out.kept hk1 (fun _ _ => id))
                      have HRD0 := bx (HRD.out.kept hk1 (fun _ _ => id))
                      have HB0 := bx (below_then HB.out HB.out.size (hk1.below (Nat.le_refl _) (fun _ e => e.elim)))
                      clear h1 hk1
                      by_cases hsh : (NL : Int) < 8
                      · have HD := bx (show decT s = (zeroT, 60) by
                          rw [HDT.out]
                          unfold tailT
                          simp only
                          rw [if_pos (by have h1 := sumTo_mono l (show i + 1 ≤ l.length by have := HN.out; omega); have h2 := HSM.out; have h3 := HNL2.out; have h4 := HPL.out; omega)])
                        have q7 : decide ((NL : Int) < 8) = true := decide_eq_true hsh
                        have q7' : decide (NL < 8) = true := decide_eq_true (by omega)
                        clear hsh
                        have hcb := HQ0.out
                        obtain ⟨z0, z1, z2, z3, z4, z5, z6⟩ := cells7 hcb
                        have e0 := frozen_of hcb 0
                        have e1 := frozen_of hcb 1
                        have e2 := frozen_of hcb 2
                        have e3 := frozen_of hcb 3
                        have e4 := frozen_of hcb 4
                        have e5 := frozen_of hcb 5
                        have e6 := frozen_of hcb 6
                        clear hcb
                        go_wp2_with fail
                        try simp only [Exit.jump]
                        refine ret_rdec (u := .int .i64 60) (stored7 HQ0.out) rfl rfl rfl rfl ?_
                        exact dec_zero HD.out ((kept_store7 (S := fun k => w.heap.size ≤ k) (Kept.of_below HB0.out) (.inl HQW.out) _ _ _ _ _ _ _).below (Nat.le_refl _) (fun _ h => h))
                      · have HPL2 := bx (show r + 8 * sumTo l i + 8 ≤ 8 * s.size by have h3 := HNL2.out; have h4 := HPL.out; omega)
                        have q7 : decide ((NL : Int) < 8) = false := decide_eq_false hsh
                        have q7' : decide (NL < 8) = false := decide_eq_false (by omega)
                        clear hsh
                        go_wp2_with fail
                        clear q7 q7'
                        refine (rget_fit 8 8 rfl HST0.out (by omega) HPL2.out HS.out).mono ?_
                        rw [← vx_fit HPL2.out]
                        rintro e Y1 ⟨rfl, h1, hk1⟩
                        have HST1 := bx h1
                        have HQ1 := bx ((hk1.block q (Array.getElem?_eq_some_iff.1 HQ0.out).1 (fun e => by have := HPQ.out; omega)).trans HQ0.out)
                        have HO1 := bx ((hk1.block o (Array.getElem?_eq_some_iff.1 HO0.out).1 (fun e => by have := HPO.out; omega)).trans HO0.out)
                        have HRL1 := bx (HRL0.out.kept hk1 (fun g hg e => (HAT.out g hg).2.2.1 e))
                        have HRD1 := bx (HRD0.out.kept hk1 (fun g hg e => (HDA.out g hg).2.2.1 e))
                        have HB1 := bx (show Below w.heap.size w Y1 from (Kept.trans (S := fun j => w.heap.size ≤ j) (Kept.of_below HB0.out) hk1 (fun j _ e => by have := HPQ.out; have := HQW.out; omega)).below (Nat.le_refl _) (fun _ h => h))
                        obtain ⟨V, hV⟩ : ∃ V, V = vx s (r + 8 * sumTo l i) 8 := ⟨_, rfl⟩
                        obtain ⟨V0, V1⟩ : 0 ≤ V ∧ V < 256 := by rw [hV]; exact vx_bd s _ 8
                        rw [← hV] at HDD ⊢
                        have hwr : IntKind.i64.wrap V = V := IntWalk.i64_in _ (by omega)
                        clear h1 hk1 hV HST0 HQ0 HO0 HRL0 HRD0 HB0
                        have HNO := bx (show ¬ isAt (.slice dA k dc) o from fun e => (HDA.out o e).2.2.2.1 rfl)
                        have y6 : Y1.cell? ⟨o, 6, none⟩ = some (.slice dA k dc) := (cells7 HO1.out).2.2.2.2.2.2
                        go_wp2_with (first
                          | (at_builtin
                             refine wpList_row rfl (.tmp 109) (.tmp 112) 23 rfl 3 (.int .i64 0) 1 8 Try.underlying23 info_int rfl (by omega) (.slice dA k dc) k (nums .i64 (decD s l r i)) rfl (HRD1.out.kept ((Kept.refl (fun _ => False) Y1).alloc _) (fun _ _ => id)) _ _ [.int .i64 V] rfl (Rd.one Y1 _ _) (by simp [Value.oneCell']) (by omega) ?_
                             intro v1 w6 hr1 hk1 hn1
                             obtain ⟨A1, cap1, rfl⟩ := hr1.shape
                             have HR5 := bx hr1
                             have HN5 := bx hn1
                             have HK5 := bx (show Kept (isAt (.slice dA k dc)) Y1 w6 from Kept.trans (S := isAt (.slice dA k dc)) ((Kept.refl (isAt (.slice dA k dc)) Y1).alloc _) hk1 (fun _ _ h => h))
                             clear hr1 hk1 hn1 y6
                             have HO5 := bx ((HK5.out.block o (Array.getElem?_eq_some_iff.1 HO1.out).1 HNO.out).trans HO1.out)
                             have y6 := (cells7 HO5.out).2.2.2.2.2.2
                             have e6 := frozen_of HO5.out 6))
                        go_roundw
                        case rel =>
                          have hks : Kept (fun j => j = o) w6 (w6.setCell ⟨o, 6, none⟩ (.slice A1 (k + 1) cap1)) := (Kept.refl (fun j => j = o) w6).setCell (p := ⟨o, 6, none⟩) (.inl rfl) _
                          have hda2 : ∀ j, isAt (.slice A1 (k + 1) cap1) j → w.heap.size ≤ j ∧ j ≠ q ∧ j ≠ p ∧ j ≠ o ∧ ¬ isAt (.slice (some ⟨g, off, none⟩) n lc) j := fun j hg => by
                            rcases HN5.out j hg with h | h
                            · exact HDA.out j h
                            · have h1 := (Array.getElem?_eq_some_iff.1 HQ1.out).1
                              have h2 := (Array.getElem?_eq_some_iff.1 HO1.out).1
                              have h3 := (Array.getElem?_eq_some_iff.1 HST1.out).1
                              have h5 := HB1.out.size
                              have h8 : Y1.heap.size ≤ j := by
                                simp at h
                                omega
                              refine ⟨by omega, by omega, by omega, by omega, fun e => ?_⟩
                              have h6 := HRL1.out.lt e
                              omega
                          have hlen : (decD s l r (i + 1)).length = k + 1 := by rw [HDD.out, List.length_append, HKL.out]; rfl
                          refine ⟨i + 1, .slice A1 (k + 1) cap1, by omega, by go_num, ?_, ?_, ?_, ?_, hda2, ?_, ?_, ?_⟩
                          · exact (hks.block q (Array.getElem?_eq_some_iff.1 ((HK5.out.block q (Array.getElem?_eq_some_iff.1 HQ1.out).1 (fun e => (HDA.out q e).2.1 rfl)).trans HQ1.out)).1 (fun e => by have := HPQ.out; have := HPO.out; omega)).trans ((HK5.out.block q (Array.getElem?_eq_some_iff.1 HQ1.out).1 (fun e => (HDA.out q e).2.1 rfl)).trans HQ1.out)
                          · simp [World.setCell, Array.getElem?_modify, HO5.out]
                          · exact (HRL1.out.kept HK5.out (fun g hg e => (HDA.out g e).2.2.2.2 hg)).kept hks (fun g hg e => (HAT.out g hg).2.2.2 e)
                          · rw [hlen, HDD.out, nums_append]
                            exact HR5.out.kept hks (fun g hg e => (hda2 g hg).2.2.2.1 e)
                          · have h := (HST1.out.kept HK5.out (fun e => (HDA.out p e).2.2.1 rfl)).kept hks (fun e => by have := HPO.out; omega)
                            rwa [HSM.out] at h
                          · have h := HPL2.out
                            rwa [HSM.out] at h
                          · exact (Kept.trans (S := fun j => w.heap.size ≤ j) (Kept.trans (S := fun j => w.heap.size ≤ j) (Kept.of_below HB1.out) HK5.out (fun j _ e => (HDA.out j e).1)) hks (fun j _ e => by have := HPQ.out; have := HPO.out; have := HQW.out; omega)).below (Nat.le_refl _) (fun _ h => h)
                        case measure => exact measN n i hil
                    · subst s2
                      have HDD := bx (decD_two (s := s) (r := r) HXX.out)
                      have HSM := bx (show r + 8 * sumTo l i + 16 = r + 8 * sumTo l (i + 1) by rw [sumTo_succ HXX.out]; omega)
                      obtain ⟨NL, hNL⟩ : ∃ NL : Nat, 8 * (s.size : Int) - ((r + 8 * sumTo l i : Nat) : Int) = (NL : Int) := ⟨8 * s.size - (r + 8 * sumTo l i), by have := HPL.out; omega⟩
                      have HN3 := bx hNL
                      have HNL2 := bx (show 8 * s.size - (r + 8 * sumTo l i) = NL by omega)
                      clear hNL
                      go_wp2_with fail
                      clear y0 y5 q2 q2'
                      refine (rleft_fit HST.out HPL.out HS.out).mono ?_
                      rw [HN3.out]
                      rintro e Y0 ⟨rfl, h1, hk1⟩
                      have HST0 := bx h1
                      have HQ0 := bx ((hk1.block q (Array.getElem?_eq_some_iff.1 HQ.out).1 id).trans HQ.out)
                      have HO0 := bx ((hk1.block o (Array.getElem?_eq_some_iff.1 HO.out).1 id).trans HO.out)
                      have HRL0 := bx (HRL.out.kept hk1 (fun _ _ => id))
                      have HRD0 := bx (HRD.out.kept hk1 (fun _ _ => id))
                      have HB0 := bx (below_then HB.out HB.out.size (hk1.below (Nat.le_refl _) (fun _ e => e.elim)))
                      clear h1 hk1
                      by_cases hsh : (NL : Int) < 16
                      · have HD := bx (show decT s = (zeroT, 60) by
                          rw [HDT.out]
                          unfold tailT
                          simp only
                          rw [if_pos (by have h1 := sumTo_mono l (show i + 1 ≤ l.length by have := HN.out; omega); have h2 := HSM.out; have h3 := HNL2.out; have h4 := HPL.out; omega)])
                        have q7 : decide ((NL : Int) < 16) = true := decide_eq_true hsh
                        have q7' : decide (NL < 16) = true := decide_eq_true (by omega)
                        clear hsh
                        have hcb := HQ0.out
                        obtain ⟨z0, z1, z2, z3, z4, z5, z6⟩ := cells7 hcb
                        have e0 := frozen_of hcb 0
                        have e1 := frozen_of hcb 1
                        have e2 := frozen_of hcb 2
                        have e3 := frozen_of hcb 3
                        have e4 := frozen_of hcb 4
                        have e5 := frozen_of hcb 5
                        have e6 := frozen_of hcb 6
                        clear hcb
                        go_wp2_with fail
                        try simp only [Exit.jump]
                        refine ret_rdec (u := .int .i64 60) (stored7 HQ0.out) rfl rfl rfl rfl ?_
                        exact dec_zero HD.out ((kept_store7 (S := fun k => w.heap.size ≤ k) (Kept.of_below HB0.out) (.inl HQW.out) _ _ _ _ _ _ _).below (Nat.le_refl _) (fun _ h => h))
                      · have HPL2 := bx (show r + 8 * sumTo l i + 16 ≤ 8 * s.size by have h3 := HNL2.out; have h4 := HPL.out; omega)
                        have q7 : decide ((NL : Int) < 16) = false := decide_eq_false hsh
                        have q7' : decide (NL < 16) = false := decide_eq_false (by omega)
                        clear hsh
                        go_wp2_with fail
                        clear q7 q7'
                        refine (rget_fit 16 16 rfl HST0.out (by omega) HPL2.out HS.out).mono ?_
                        rw [← vx_fit HPL2.out]
                        rintro e Y1 ⟨rfl, h1, hk1⟩
                        have HST1 := bx h1
                        have HQ1 := bx ((hk1.block q (Array.getElem?_eq_some_iff.1 HQ0.out).1 (fun e => by have := HPQ.out; omega)).trans HQ0.out)
                        have HO1 := bx ((hk1.block o (Array.getElem?_eq_some_iff.1 HO0.out).1 (fun e => by have := HPO.out; omega)).trans HO0.out)
                        have HRL1 := bx (HRL0.out.kept hk1 (fun g hg e => (HAT.out g hg).2.2.1 e))
                        have HRD1 := bx (HRD0.out.kept hk1 (fun g hg e => (HDA.out g hg).2.2.1 e))
                        have HB1 := bx (show Below w.heap.size w Y1 from (Kept.trans (S := fun j => w.heap.size ≤ j) (Kept.of_below HB0.out) hk1 (fun j _ e => by have := HPQ.out; have := HQW.out; omega)).below (Nat.le_refl _) (fun _ h => h))
                        obtain ⟨V, hV⟩ : ∃ V, V = vx s (r + 8 * sumTo l i) 16 := ⟨_, rfl⟩
                        obtain ⟨V0, V1⟩ : 0 ≤ V ∧ V < 65536 := by rw [hV]; exact vx_bd s _ 16
                        rw [← hV] at HDD ⊢
                        have hwr : IntKind.i64.wrap V = V := IntWalk.i64_in _ (by omega)
                        clear h1 hk1 hV HST0 HQ0 HO0 HRL0 HRD0 HB0
                        go_upto_region 32 with fail
                        have HS6 : Y1.drew.cell? ⟨o, 6, none⟩ = some (.slice dA k dc) := (cells7 HO1.out).2.2.2.2.2.2
                        refine Tail.start 7 (fun w' => w'.cell? ⟨o, 6, none⟩ = some (.slice dA k dc)) (by kernel_rfl) ?_
                        refine Tail.take 0 rfl (by kernel_rfl) (fun _ _ _ h => h) (by rfl) HS6 (fun w hSw => by (try dsimp only at hSw); go_simp; (try with_reducible rfl)) ?_
                        try simp only [List.getElem_toArray, List.getElem_cons_succ, List.getElem_cons_zero, Act.put, List.setIfInBounds_toArray, List.set_cons_zero, List.set_cons_succ]
                        refine Tail.take 1 rfl (by kernel_rfl) (fun _ _ _ h => h) (by rfl) HS6 (fun w hSw => by (try dsimp only at hSw); go_simp; (try with_reducible rfl)) ?_
                        try simp only [List.getElem_toArray, List.getElem_cons_succ, List.getElem_cons_zero, Act.put, List.setIfInBounds_toArray, List.set_cons_zero, List.set_cons_succ]
                        refine Tail.take 2 rfl (by kernel_rfl) (fun _ _ _ h => h) (by rfl) HS6 (fun w hSw => by (try dsimp only at hSw); go_simp; (try with_reducible rfl)) ?_
                        try simp only [List.getElem_toArray, List.getElem_cons_succ, List.getElem_cons_zero, Act.put, List.setIfInBounds_toArray, List.set_cons_zero, List.set_cons_succ]
                        refine Tail.one 3 rfl (by kernel_rfl) (fun K hK => ?_)
                        go_simp
                        refine (rsigned16 V Y1.drew V0 V1).mono ?_
                        rintro e Y1' ⟨rfl, rfl⟩
                        obtain ⟨SV, hSV⟩ : ∃ SV, SV = sg 16 V := ⟨_, rfl⟩
                        rw [← hSV] at HDD ⊢
                        clear hSV
                        refine hK.out _ _ HS6 ?_
                        clear hK K
                        try simp only [List.getElem_toArray, List.getElem_cons_succ, List.getElem_cons_zero, Act.put, List.setIfInBounds_toArray, List.set_cons_zero, List.set_cons_succ]
                        -- buildSlice
                        refine Tail.one 4 rfl (by kernel_rfl) (fun K hK => ?_)
                        go_simp
                        have HS6 : (Y1.drew.alloc (.cells #[.int .i64 SV] 3)).cell? ⟨o, 6, none⟩ = some (.slice dA k dc) := ck ((Kept.refl (fun _ => False) Y1).drew.alloc _) ((cells7 HO1.out).2.2.2.2.2.2) id
                        refine hK.out _ _ HS6 ?_
                        clear hK K
                        try simp only [List.getElem_toArray, List.getElem_cons_succ, List.getElem_cons_zero, Act.put, List.setIfInBounds_toArray, List.set_cons_zero, List.set_cons_succ]
                        refine Tail.one 5 rfl (by kernel_rfl) (fun K hK => ?_)
                        have HRK := bx (HRD1.out.kept ((Kept.refl (fun _ => False) Y1).drew.alloc (.cells #[.int .i64 SV] 3)) (fun _ _ => id))
                        have HRN := bx (show Rd (Y1.drew.alloc (.cells #[.int .i64 SV] 3)) 1 (some ⟨Y1.drew.heap.size, 0, none⟩) 1 [.int .i64 SV] from Rd.one Y1.drew _ _)
                        refine step_row rfl (.tmp 116) (.tmp 119) 23 rfl 3 (.int .i64 0) 1 8 Try.underlying23 info_int rfl (by omega) (.slice dA k dc) k (nums .i64 (decD s l r i)) rfl HRK.out _ _ [.int .i64 SV] rfl HRN.out (by simp [Value.oneCell']) (by omega) ?_
                        intro v1 w6 hr1 hk1 hn1
                        obtain ⟨A1, cap1, rfl⟩ := hr1.shape
                        have HNO := bx (show ¬ isAt (.slice dA k dc) o from fun e => (HDA.out o e).2.2.2.1 rfl)
                        have HS6 : w6.cell? ⟨o, 6, none⟩ = some (.slice dA k dc) := ck hk1 HS6 HNO.out
                        have HR5 := bx hr1
                        have HN5 := bx hn1
                        have HK5 := bx (show Kept (isAt (.slice dA k dc)) Y1 w6 from Kept.trans (S := isAt (.slice dA k dc)) ((Kept.refl (isAt (.slice dA k dc)) Y1).drew.alloc _) hk1 (fun _ _ h => h))
                        clear hr1 hk1 hn1
                        refine hK.out _ _ HS6 ?_
                        clear hK K
                        try simp only [List.getElem_toArray, List.getElem_cons_succ, List.getElem_cons_zero, Act.put, List.setIfInBounds_toArray, List.set_cons_zero, List.set_cons_succ]
                        refine Tail.take 6 rfl (by kernel_rfl) (fun _ _ _ h => h) (by rfl) HS6 (fun w hSw => by (try dsimp only at hSw); go_simp; (try with_reducible rfl)) ?_
                        try simp only [List.getElem_toArray, List.getElem_cons_succ, List.getElem_cons_zero, Act.put, List.setIfInBounds_toArray, List.set_cons_zero, List.set_cons_succ]
                        refine Tail.tail 7 rfl (by kernel_rfl) ?_
                        simp only [List.drop_succ_cons, List.drop_zero]
                        clear HS6
                        try simp only [List.getElem_toArray, List.getElem_cons_succ, List.getElem_cons_zero, List.setIfInBounds_toArray, List.set_cons_zero, List.set_cons_succ]
                        have HO5 := bx ((HK5.out.block o (Array.getElem?_eq_some_iff.1 HO1.out).1 HNO.out).trans HO1.out)
                        have y6 := (cells7 HO5.out).2.2.2.2.2.2
                        have e6 := frozen_of HO5.out 6
                        go_wp2_with fail
                        go_roundw
                        case rel =>
                          have hks : Kept (fun j => j = o) w6 (w6.setCell ⟨o, 6, none⟩ (.slice A1 (k + 1) cap1)) := (Kept.refl (fun j => j = o) w6).setCell (p := ⟨o, 6, none⟩) (.inl rfl) _
                          have hda2 : ∀ j, isAt (.slice A1 (k + 1) cap1) j → w.heap.size ≤ j ∧ j ≠ q ∧ j ≠ p ∧ j ≠ o ∧ ¬ isAt (.slice (some ⟨g, off, none⟩) n lc) j := fun j hg => by
                            rcases HN5.out j hg with h | h
                            · exact HDA.out j h
                            · have h1 := (Array.getElem?_eq_some_iff.1 HQ1.out).1
                              have h2 := (Array.getElem?_eq_some_iff.1 HO1.out).1
                              have h3 := (Array.getElem?_eq_some_iff.1 HST1.out).1
                              have h5 := HB1.out.size
                              have h8 : Y1.heap.size ≤ j := by
                                simp at h
                                omega
                              refine ⟨by omega, by omega, by omega, by omega, fun e => ?_⟩
                              have h6 := HRL1.out.lt e
                              omega
                          have hlen : (decD s l r (i + 1)).length = k + 1 := by rw [HDD.out, List.length_append, HKL.out]; rfl
                          refine ⟨i + 1, .slice A1 (k + 1) cap1, by omega, by go_num, ?_, ?_, ?_, ?_, hda2, ?_, ?_, ?_⟩
                          · exact (hks.block q (Array.getElem?_eq_some_iff.1 ((HK5.out.block q (Array.getElem?_eq_some_iff.1 HQ1.out).1 (fun e => (HDA.out q e).2.1 rfl)).trans HQ1.out)).1 (fun e => by have := HPQ.out; have := HPO.out; omega)).trans ((HK5.out.block q (Array.getElem?_eq_some_iff.1 HQ1.out).1 (fun e => (HDA.out q e).2.1 rfl)).trans HQ1.out)
                          · simp [World.setCell, Array.getElem?_modify, HO5.out]
                          · exact (HRL1.out.kept HK5.out (fun g hg e => (HDA.out g e).2.2.2.2 hg)).kept hks (fun g hg e => (HAT.out g hg).2.2.2 e)
                          · rw [hlen, HDD.out, nums_append]
                            exact HR5.out.kept hks (fun g hg e => (hda2 g hg).2.2.2.1 e)
                          · have h := (HST1.out.kept HK5.out (fun e => (HDA.out p e).2.2.1 rfl)).kept hks (fun e => by have := HPO.out; omega)
                            rwa [HSM.out] at h
                          · have h := HPL2.out
                            rwa [HSM.out] at h
                          · exact (Kept.trans (S := fun j => w.heap.size ≤ j) (Kept.trans (S := fun j => w.heap.size ≤ j) (Kept.of_below HB1.out) HK5.out (fun j _ e => (HDA.out j e).1)) hks (fun j _ e => by have := HPQ.out; have := HPO.out; have := HQW.out; omega)).below (Nat.le_refl _) (fun _ h => h)
                        case measure => exact measN n i hil
                  · have hin : i = n := by omega
                    have q2 : decide ((i : Int) < (n : Int)) = false := decide_eq_false hil
                    have q2' : decide (i < n) = false := decide_eq_false (by omega)
                    subst hin
                    obtain ⟨E, hE⟩ : ∃ E, E = r + 8 * sumTo l i := ⟨_, rfl⟩
                    rw [← hE] at HST HPL
                    have HEE := bx (show r + 8 * sumTo l l.length = E by rw [hE, HN.out])
                    obtain ⟨M, hM⟩ : ∃ M : Nat, 8 * (s.size : Int) - (E : Int) = 8 * (M : Int) := ⟨s.size - E / 8, by have := HPL.out; have := HR8.out; omega⟩
                    have HNN := bx (show 8 * s.size - E = 8 * M by omega)
                    have HTL := bx (show decT s = if 24 < 8 * M ∨ ¬ val s E (8 * M) = 0 then (zeroT, 91) else ((val s 0 32, val s 32 32, val s 64 16, sg 24 (val s 96 24), val s 120 8, l, decD s l r l.length), 0) by
                      rw [HDT.out]
                      unfold tailT
                      simp only
                      rw [HEE.out, if_neg (by have := HPL.out; omega), HNN.out])
                    have HM3 := bx hM
                    have hmsz : (M : Int) ≤ 1099511627776 := by omega
                    clear hil hi hE hM
                    go_wp2_with fail
                    refine (rleft_fit HST.out HPL.out HS.out).mono ?_
                    rw [HM3.out]
                    rintro e Y1 ⟨rfl, h1, hk1⟩
                    have HST1 := bx h1
                    have HQ1 := bx ((hk1.block q (Array.getElem?_eq_some_iff.1 HQ.out).1 id).trans HQ.out)
                    have HO1 := bx ((hk1.block o (Array.getElem?_eq_some_iff.1 HO.out).1 id).trans HO.out)
                    have HRL1 := bx (HRL.out.kept hk1 (fun _ _ => id))
                    have HRD1 := bx (HRD.out.kept hk1 (fun _ _ => id))
                    have HB1 := bx (below_then HB.out HB.out.size (hk1.below (Nat.le_refl _) (fun _ e => e.elim)))
                    clear h1 hk1 q2 q2'
                    by_cases hn24 : 24 < 8 * (M : Int)
                    · have HD := bx (show decT s = (zeroT, 91) by rw [HTL.out, if_pos (.inl (by omega))])
                      have q3 : decide (24 < 8 * (M : Int)) = true := decide_eq_true hn24
                      clear hn24
                      have hcb := HQ1.out
                      obtain ⟨z0, z1, z2, z3, z4, z5, z6⟩ := cells7 hcb
                      have e0 := frozen_of hcb 0
                      have e1 := frozen_of hcb 1
                      have e2 := frozen_of hcb 2
                      have e3 := frozen_of hcb 3
                      have e4 := frozen_of hcb 4
                      have e5 := frozen_of hcb 5
                      have e6 := frozen_of hcb 6
                      clear hcb
                      go_wp2_with fail
                      try simp only [Exit.jump]
                      refine ret_rdec (u := .int .i64 91) (stored7 HQ1.out) rfl rfl rfl rfl ?_
                      exact dec_zero HD.out ((kept_store7 (S := fun k => w.heap.size ≤ k) (Kept.of_below HB1.out) (.inl HQW.out) _ _ _ _ _ _ _).below (Nat.le_refl _) (fun _ h => h))
                    · have q3 : decide (24 < 8 * (M : Int)) = false := decide_eq_false hn24
                      have HN24 := bx (show ¬ 24 < 8 * M by omega)
                      have hm3 : (M : Int) ≤ 3 := by omega
                      clear hn24
                      go_wp2_with fail
                      clear q3
                      go_loopw [] (fun wx => ∃ j : Nat, j ≤ M ∧ val s E (8 * j) = 0 ∧ wx.heap[q]? = some (.cells zcs 25 (0, 0)) ∧ wx.heap[o]? = some (.cells (dcs (val s 0 32) (val s 32 32) (val s 64 16) (sg 24 (val s 96 24)) (val s 120 8) (.slice lA i lc) (.slice dA k dc)) 25 (0, 0)) ∧ RW wx 1 (.slice lA i lc) i (nums .i64 l) ∧ RW wx 1 (.slice dA k dc) k (nums .i64 (decD s l r i)) ∧ RR 79 wx p s (E + 8 * j) false ∧ Below w.heap.size w wx) (fun wx => muP s p wx)
                      case atStart => exact ⟨0, Nat.zero_le _, rfl, HQ1.out, HO1.out, HRL1.out, HRD1.out, HST1.out, HB1.out⟩
                      case round =>
                        obtain ⟨j, hj, hz, hq, ho, hrl, hrd, hst, hb⟩ := hrel
                        rename World => Y2
                        have HJ := bx hj
                        have HZR := bx hz
                        have HQ2 := bx hq
                        have HO2 := bx ho
                        have HRL2 := bx hrl
                        have HRD2 := bx hrd
                        have HST2 := bx hst
                        have HB2 := bx hb
                        obtain ⟨d, hd⟩ : ∃ d : Nat, 8 * (s.size : Int) - ((E + 8 * j : Nat) : Int) = 8 * (d : Int) := ⟨M - j, by have := HNN.out; have := HPL.out; omega⟩
                        have HD3 := bx hd
                        have HDM := bx (show M = j + d by have := HNN.out; have := HPL.out; omega)
                        have HFT2 := bx (show E + 8 * j ≤ 8 * s.size by have := HNN.out; have := HPL.out; omega)
                        have hd3 : (d : Int) ≤ 3 := by have := HDM.out; omega
                        clear hj hz hq ho hrl hrd hst hb hd
                        go_wp2_with fail
                        refine (rleft_fit HST2.out HFT2.out HS.out).mono ?_
                        rw [HD3.out]
                        rintro e Y3 ⟨rfl, h1, hk1⟩
                        have HST3 := bx h1
                        have HQ3 := bx ((hk1.block q (Array.getElem?_eq_some_iff.1 HQ2.out).1 id).trans HQ2.out)
                        have HO3 := bx ((hk1.block o (Array.getElem?_eq_some_iff.1 HO2.out).1 id).trans HO2.out)
                        have HRL3 := bx (HRL2.out.kept hk1 (fun _ _ => id))
                        have HRD3 := bx (HRD2.out.kept hk1 (fun _ _ => id))
                        have HB3 := bx (below_then HB2.out HB2.out.size (hk1.below (Nat.le_refl _) (fun _ e => e.elim)))
                        clear h1 hk1
                        by_cases hd0 : 0 < 8 * (d : Int)
                        · have q3 : decide (0 < 8 * (d : Int)) = true := decide_eq_true hd0
                          have HFT3 := bx (show E + 8 * j + 8 ≤ 8 * s.size by have := HD3.out; omega)
                          have HDP := bx (show 1 ≤ d by omega)
                          clear hd0
                          go_wp2_with fail
                          clear q3
                          refine (rget_fit 8 8 rfl HST3.out (by omega) HFT3.out HS.out).mono ?_
                          rintro e Y4 ⟨rfl, h1, hk1⟩
                          have HST4 := bx h1
                          have HQ4 := bx ((hk1.block q (Array.getElem?_eq_some_iff.1 HQ3.out).1 (fun e => by have := HPQ.out; omega)).trans HQ3.out)
                          have HO4 := bx ((hk1.block o (Array.getElem?_eq_some_iff.1 HO3.out).1 (fun e => by have := HPO.out; omega)).trans HO3.out)
                          have HRL4 := bx (HRL3.out.kept hk1 (fun g hg e => (HAT.out g hg).2.2.1 e))
                          have HRD4 := bx (HRD3.out.kept hk1 (fun g hg e => (HDA.out g hg).2.2.1 e))
                          have HB4 := bx (show Below w.heap.size w Y4 from (Kept.trans (S := fun k => w.heap.size ≤ k) (Kept.of_below HB3.out) hk1 (fun k _ e => by have := HPQ.out; have := HQW.out; omega)).below (Nat.le_refl _) (fun _ h => h))
                          obtain ⟨pv, hpv⟩ : ∃ pv, pv = val s (E + 8 * j) 8 := ⟨_, rfl⟩
                          rw [← hpv]
                          have HPV := bx hpv
                          clear h1 hk1 hpv
                          by_cases hp0 : ¬ pv = 0
                          · have HD := bx (show decT s = (zeroT, 91) by
                              have h := val_not0 (s := s) (E := E) (j := j) (m := 8 * (d - 1)) (by rw [← HPV.out]; exact hp0)
                              rw [show 8 * j + 8 + 8 * (d - 1) = 8 * M by have := HDM.out; have := HDP.out; omega] at h
                              rw [HTL.out, if_pos (.inr h)])
                            have q4 : (pv == 0) = false := by rw [beq_eq_false_iff_ne]; exact hp0
                            have q4' : (pv != 0) = true := by unfold bne; rw [q4]; rfl
                            clear hp0
                            have hcb := HQ4.out
                            obtain ⟨z0, z1, z2, z3, z4, z5, z6⟩ := cells7 hcb
                            have e0 := frozen_of hcb 0
                            have e1 := frozen_of hcb 1
                            have e2 := frozen_of hcb 2
                            have e3 := frozen_of hcb 3
                            have e4 := frozen_of hcb 4
                            have e5 := frozen_of hcb 5
                            have e6 := frozen_of hcb 6
                            clear hcb
                            go_wp2_with fail
                            try simp only [Exit.jump]
                            refine ret_rdec (u := .int .i64 91) (stored7 HQ4.out) rfl rfl rfl rfl ?_
                            exact dec_zero HD.out ((kept_store7 (S := fun k => w.heap.size ≤ k) (Kept.of_below HB4.out) (.inl HQW.out) _ _ _ _ _ _ _).below (Nat.le_refl _) (fun _ h => h))
                          · replace hp0 := Classical.not_not.1 hp0
                            have q4 : (pv == 0) = true := by rw [beq_iff_eq]; exact hp0
                            have q4' : (pv != 0) = false := by unfold bne; rw [q4]; rfl
                            have HP0 := bx hp0
                            clear hp0
                            go_wp2_with fail
                            go_roundw
                            case rel =>
                              refine ⟨j + 1, by have := HDM.out; have := HDP.out; omega, ?_, HQ4.out, HO4.out, HRL4.out, HRD4.out, ?_, HB4.out⟩
                              · rw [show 8 * (j + 1) = 8 * j + 8 by omega, val_cat, HZR.out, ← HPV.out, HP0.out]
                                rfl
                              · have h := HST4.out
                                rwa [show E + 8 * j + 8 = E + 8 * (j + 1) by omega] at h
                            case measure =>
                              show muP s p Y4 < muP s p Y2
                              have r1 : Y2.cell? ⟨p, 1, none⟩ = some (.int .i64 ((E + 8 * j : Nat) : Int)) := by simp [World.cell?, show Y2.heap[p]? = _ from HST2.out]
                              have r2 : Y4.cell? ⟨p, 1, none⟩ = some (.int .i64 ((E + 8 * j + 8 : Nat) : Int)) := by simp [World.cell?, show Y4.heap[p]? = _ from HST4.out]
                              unfold muP
                              rw [r1, r2]
                              have := HFT3.out
                              simp only [Option.getD_some, intOf]
                              omega
                        · have q3 : decide (0 < 8 * (d : Int)) = false := decide_eq_false hd0
                          have HJM := bx (show j = M by have := HDM.out; omega)
                          have HD := bx (show decT s = ((val s 0 32, val s 32 32, val s 64 16, sg 24 (val s 96 24), val s 120 8, l, decD s l r l.length), 0) by
                            rw [HTL.out, if_neg (by have h1 := HN24.out; have h2 := HZR.out; rw [HJM.out] at h2; rw [h2]; omega)])
                          have hd00 : d = 0 := by omega
                          subst hd00
                          clear hd0
                          have hcb := HQ3.out
                          obtain ⟨z0, z1, z2, z3, z4, z5, z6⟩ := cells7 hcb
                          have e0 := frozen_of hcb 0
                          have e1 := frozen_of hcb 1
                          have e2 := frozen_of hcb 2
                          have e3 := frozen_of hcb 3
                          have e4 := frozen_of hcb 4
                          have e5 := frozen_of hcb 5
                          have e6 := frozen_of hcb 6
                          obtain ⟨y0, y1, y2, y3, y4, y5, y6⟩ := cells7 HO3.out
                          clear hcb
                          go_wp2_with fail
                          try simp only [Exit.jump]
                          refine ret_rdec (u := .int .i64 0) (stored7 HQ3.out) rfl rfl rfl rfl ?_
                          have hks := kept_store7 (S := fun j => j = q) (Kept.refl _ Y3) (.inl rfl) (.int .u32 (val s 0 32)) (.int .u32 (val s 32 32)) (.int .i64 (val s 64 16)) (.int .i64 (sg 24 (val s 96 24))) (.int .i64 (val s 120 8)) (.slice lA i lc) (.slice dA k dc)
                          unfold DecPost
                          rw [HD.out]
                          refine ⟨_, rfl, ⟨lA, lc, dA, dc, ?_, ?_, ?_, ?_⟩, ?_⟩
                          · show Value.agg _ = Value.agg #[_, _, _, _, _, .slice lA l.length lc, .slice dA (decD s l r l.length).length dc]
                            rw [← HN.out, HKL.out]
                            rfl
                          · show Rd _ 1 lA l.length (nums .i64 l)
                            rw [← HN.out]
                            exact (HRL3.out.kept hks (fun g hg e => (HAT.out g hg).2.1 e)).rd
                          · show Rd _ 1 dA (decD s l r l.length).length (nums .i64 (decD s l r l.length))
                            rw [← HN.out, HKL.out]
                            exact (HRD3.out.kept hks (fun g hg e => (HDA.out g hg).2.1 e)).rd
                          · show l.length ≤ lc
                            rw [← HN.out]
                            exact RW.cap HRL3.out
                          · exact (Kept.trans (S := fun j => w.heap.size ≤ j) (Kept.of_below HB3.out) hks (fun j _ e => by have := HQW.out; omega)).below (Nat.le_refl _) (fun _ h => h)
end Go.Proofs.Ytmedlplgeeeodaa.Tw
