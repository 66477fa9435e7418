/- What the document's Encode tells; no condition but the ranges in each. -/
import Derived.Test.YtmedlplgeeeodaaTwRLay
import Derived.Test.YtmedlplgeeeodaaBox
import Derived.Test.YtmedlplgeeeodaaTwEnc2
namespace Go.Proofs.Ytmedlplgeeeodaa.Tw
open Go.RowKit Go.Proofs.Ytmedlplgeeeodaa.Plain Go.Proofs.Ytmedlplgeeeodaa.Heap Go.Proofs.Ytmedlplgeeeodaa.Open Go.Proofs.Ytmedlplgeeeodaa.Rows Go.Proofs.Ytmedlplgeeeodaa.Bits Go.Proofs.Ytmedlplgeeeodaa.Tail
theorem mask24 (u : Int) (h0 : 0 ≤ u) (h1 : u < 4294967296) : Go.bits .and .u32 u 16777215 = u % 16777216 := by
  rw [u32_and u 16777215 h0 h1 (by omega) (by omega), show ((16777215 : Int)).toNat = 2 ^ 24 - 1 from rfl, Nat.and_two_pow_sub_one_eq_mod]
  omega
theorem bits24 (d : Int) : bitsOf (IntKind.u32.wrap d % 16777216) 24 = bitsOf d 24 := by
  rw [show (16777216 : Int) = 2 ^ 24 from rfl, bitsOf_mod _ 24 24 (Nat.le_refl _), wrap_bits d 24 (by omega)]
theorem tx_old {t : TypeId} {h : Tw} {w V wx : World} {p b0 : Nat} {A : Option Addr} {c : Nat} {B : Option Addr} {d : Nat} {L : List Int} (htx : TX w V b0 h A c B d) (hw : WX t V wx p (old V) L) : TX w wx b0 h A c B d := htx.run (hw.below fun _ e => e)
def any2 (l : List Int) (k : Nat) : Bool := (l.take k).any fun y => decide (y = 2)
theorem any2_zero (l : List Int) : any2 l 0 = false := rfl
theorem any2_succ {l : List Int} {k : Nat} {x : Int} (hx : l[k]? = some x) : any2 l (k + 1) = (any2 l k || decide (x = 2)) := by
  unfold any2
  obtain ⟨hl, rfl⟩ := List.getElem?_eq_some_iff.1 hx
  rw [List.take_succ_eq_append_getElem hl, List.any_append]
  simp
theorem any2_end {l : List Int} {k : Nat} (hk : k = min 14 l.length) : any2 l k = twoB l := by
  unfold any2 twoB
  rcases Nat.lt_or_ge 14 l.length with h1 | h1
  · rw [show k = 14 by omega]
  · rw [show k = l.length by omega, List.take_length, List.take_of_length_le h1]
set_option linter.unusedSimpArgs false in
set_option maxRecDepth 10000 in
set_option maxHeartbeats 8000000 in
theorem rencode_any (v : Value) (h : Tw) (w : World) (k : TC w v h) (ok : okT h) :
    Calls Try.prog 12 #[v] w fun e w' => e = .returned (.tuple #[.string (encR h).1, .int .i64 (encR h).2]) ∧ Below w.heap.size w w' := by
  obtain ⟨A, c, B, d, rfl, k1, k2, k3⟩ := k
  obtain ⟨b0, hb0⟩ : ∃ b0, b0 = w.heap.size := ⟨_, rfl⟩
  obtain ⟨W0, hW0⟩ : ∃ W0, W0 = w.alloc (.cells (tcs h A c B d) 25) := ⟨_, rfl⟩
  have H0 := bx (show TX w W0 b0 h A c B d by rw [hb0]; exact TX.new (Below.refl _ w) k1 k2 hW0)
  have HE := bx hb0
  have HW := bx hW0
  have OK := bx ok
  have HC := bx k3
  have t0 := ok.n0
  have t1 := ok.n1
  have s0 := ok.m0
  have s1 := ok.m1
  clear k1 k2 k3 hb0 hW0 ok
  have x0 := H0.out.c0
  have x1 := H0.out.c1
  have x2 := H0.out.c2
  have x3 := H0.out.c3
  have x4 := H0.out.c4
  have x5 := H0.out.c5
  have x6 := H0.out.c6
  go_enter Try.func12, Try.ntmps12
  go_upto_region 1 with fail
  rw [← HW.out, ← HE.out]
  go_wp2_with fail
  refine (rgood_any _ h W0 H0.out.tr).mono ?_
  rintro e V ⟨rfl, hv⟩
  have HV := bx (H0.out.run hv)
  clear hv x0 x1 x2 x3 x4 x5 x6
  cases hgd : goodT h with
  | false =>
    have HGD := bx hgd
    clear hgd
    go_wp2_with fail
    go_ret2
    exact ⟨by rw [encR_bad HGD.out]; rfl, HV.out.bw⟩
  | true =>
    have HGD := bx hgd
    obtain ⟨hgb, hgt, hgn⟩ := goodT_iff hgd
    have HGT := bx hgt
    have HGN := bx hgn
    have HBD := bx (encA_bd hgd)
    obtain ⟨fb0, fb1, a0, a1, gb0, gb1, l0, l1⟩ := goodB_iff.1 hgb
    obtain ⟨n, hn⟩ : ∃ n, n = h.st.length := ⟨_, rfl⟩
    have HN := bx hn
    have hn1 : 1 ≤ (n : Int) := by omega
    have hn2 : (n : Int) ≤ 4096 := by omega
    have hnc : (n : Int) ≤ (c : Int) := by have := HC.out; omega
    obtain ⟨u, hu⟩ : ∃ u, IntKind.u32.wrap h.ba = u := ⟨_, rfl⟩
    have hub : 0 ≤ u ∧ u < 4294967296 := by rw [← hu, wrap_u32]; omega
    obtain ⟨u0, u1⟩ := hub
    have hmk := mask24 u u0 u1
    obtain ⟨u2, hu2⟩ : ∃ u2, u2 = u % 16777216 := ⟨_, rfl⟩
    have hu20 : 0 ≤ u2 := by omega
    have hu21 : u2 < 16777216 := by omega
    rw [← hu2] at hmk
    have HU := bx (show bitsOf u2 24 = bitsOf h.ba 24 by rw [hu2, ← hu]; exact bits24 h.ba)
    have y0 := HV.out.c0
    have y1 := HV.out.c1
    have y2 := HV.out.c2
    have y3 := HV.out.c3
    have y4 := HV.out.c4
    have y5 := HV.out.c5
    have y6 := HV.out.c6
    rw [← hn] at y5
    have HVL := bx (World.block_lt_of_cell? _ _ y0)
    clear hgd hgb hgt hgn hn l0 l1 hu2
    go_wp2_with fail
    refine (ref_write_any V).mono ?_
    rintro e U ⟨rfl, hU⟩
    have HX0 := bx (show WX 74 V U V.heap.size (old V) [] by rw [hU]; exact WX.new _ V)
    obtain ⟨p, hp⟩ : ∃ p, p = V.heap.size := ⟨_, rfl⟩
    rw [← hp] at HX0 ⊢
    have HP := bx hp
    clear hU hp
    have c0 := HX0.out.cell HVL.out y0
    have c1 := HX0.out.cell HVL.out y1
    have c2 := HX0.out.cell HVL.out y2
    have c3 := HX0.out.cell HVL.out y3
    have c4 := HX0.out.cell HVL.out y4
    have c5 := HX0.out.cell HVL.out y5
    go_wp2_with fail
    refine (WX.rput HX0.out (by simp [bitsOf_length]) (by omega) (by omega) 32).mono ?_
    rintro e U1 ⟨rfl, h1⟩
    rw [show (32 : Int) = ((32 : Nat) : Int) from rfl, puts_fit (by omega) (by simp [bitsOf_length]), List.nil_append] at h1
    have HX1 := bx (show WX 74 V U1 p (old V) (bitsOf h.sn 32) from h1)
    clear h1 c0 c1 c2 c3 c4 c5
    have c0 := HX1.out.cell HVL.out y0
    have c1 := HX1.out.cell HVL.out y1
    have c2 := HX1.out.cell HVL.out y2
    have c3 := HX1.out.cell HVL.out y3
    have c4 := HX1.out.cell HVL.out y4
    have c5 := HX1.out.cell HVL.out y5
    go_wp2_with fail
    refine (WX.rput HX1.out (by simp [bitsOf_length]) (by omega) (by omega) 32).mono ?_
    rintro e U2 ⟨rfl, h1⟩
    rw [show (32 : Int) = ((32 : Nat) : Int) from rfl, puts_fit (by omega) (by simp [bitsOf_length])] at h1
    have HX2 := bx (show WX 74 V U2 p (old V) (bitsOf h.sn 32 ++ bitsOf h.md 32) from h1)
    clear h1 c0 c1 c2 c3 c4 c5
    have c0 := HX2.out.cell HVL.out y0
    have c1 := HX2.out.cell HVL.out y1
    have c2 := HX2.out.cell HVL.out y2
    have c3 := HX2.out.cell HVL.out y3
    have c4 := HX2.out.cell HVL.out y4
    have c5 := HX2.out.cell HVL.out y5
    go_wp2_with fail
    refine (WX.rput HX2.out (by simp [bitsOf_length]) (by omega) (by omega) 16).mono ?_
    rintro e U3 ⟨rfl, h1⟩
    rw [show (16 : Int) = ((16 : Nat) : Int) from rfl, puts_fit (by omega) (by simp [bitsOf_length])] at h1
    have HX3 := bx (show WX 74 V U3 p (old V) (bitsOf h.sn 32 ++ bitsOf h.md 32 ++ bitsOf h.fi 16) from h1)
    clear h1 c0 c1 c2 c3 c4 c5
    have c0 := HX3.out.cell HVL.out y0
    have c1 := HX3.out.cell HVL.out y1
    have c2 := HX3.out.cell HVL.out y2
    have c3 := HX3.out.cell HVL.out y3
    have c4 := HX3.out.cell HVL.out y4
    have c5 := HX3.out.cell HVL.out y5
    go_wp2_with fail
    refine (WX.rput HX3.out (by simp [bitsOf_length]) (by omega) (by omega) 16).mono ?_
    rintro e U4 ⟨rfl, h1⟩
    rw [show (16 : Int) = ((16 : Nat) : Int) from rfl, puts_fit (by omega) (by simp [bitsOf_length])] at h1
    have HX4 := bx (show WX 74 V U4 p (old V) (bitsOf h.sn 32 ++ bitsOf h.md 32 ++ bitsOf h.fi 16 ++ bitsOf (n : Int) 16) from h1)
    clear h1 c0 c1 c2 c3 c4 c5
    have c0 := HX4.out.cell HVL.out y0
    have c1 := HX4.out.cell HVL.out y1
    have c2 := HX4.out.cell HVL.out y2
    have c3 := HX4.out.cell HVL.out y3
    have c4 := HX4.out.cell HVL.out y4
    have c5 := HX4.out.cell HVL.out y5
    go_wp2_with fail
    refine (WX.rput HX4.out (by simp [bitsOf_length]) (by omega) (by omega) 24).mono ?_
    rintro e U5 ⟨rfl, h1⟩
    rw [show (24 : Int) = ((24 : Nat) : Int) from rfl, puts_fit (by omega) (by simp [bitsOf_length])] at h1
    have HX5 := bx (show WX 74 V U5 p (old V) (bitsOf h.sn 32 ++ bitsOf h.md 32 ++ bitsOf h.fi 16 ++ bitsOf (n : Int) 16 ++ bitsOf u2 24) from h1)
    clear h1 c0 c1 c2 c3 c4 c5
    have c0 := HX5.out.cell HVL.out y0
    have c1 := HX5.out.cell HVL.out y1
    have c2 := HX5.out.cell HVL.out y2
    have c3 := HX5.out.cell HVL.out y3
    have c4 := HX5.out.cell HVL.out y4
    have c5 := HX5.out.cell HVL.out y5
    go_wp2_with fail
    refine (WX.rput HX5.out (by simp [bitsOf_length]) (by omega) (by omega) 8).mono ?_
    rintro e U6 ⟨rfl, h1⟩
    rw [show (8 : Int) = ((8 : Nat) : Int) from rfl, puts_fit (by omega) (by simp [bitsOf_length])] at h1
    have HX6 := bx (show WX 74 V U6 p (old V) (bitsOf h.sn 32 ++ bitsOf h.md 32 ++ bitsOf h.fi 16 ++ bitsOf (n : Int) 16 ++ bitsOf u2 24 ++ bitsOf h.ct 8) from h1)
    clear h1 c0 c1 c2 c3 c4 c5
    have HXA := bx (show WX 74 V U6 p (old V) (headB h) by
      have h1 := HX6.out
      rw [HU.out, HN.out] at h1
      exact h1)
    have c5 := HXA.out.cell HVL.out y5
    clear HX0 HX1 HX2 HX3 HX4 HX5 HX6 hmk hu20 hu21 u0 u1 hu y0 y1 y2 y3 y4
    go_wp2_with fail
    go_loopw [6] (fun iv wx => ∃ (a f : Nat) (L : List Int), (a : Int) ≤ (n : Int) ∧ iv = .int .i64 (a : Int) ∧ WX 74 V wx p (old V) L ∧ (h.st.drop a).length ≤ f ∧ headB h ++ encC h.st.length h.st = L ++ encC f (h.st.drop a)) (fun iv _ => ((n : Int) - intOf iv).toNat)
    case atStart => exact ⟨0, h.st.length, headB h, by omega, rfl, HXA.out, Nat.le_refl _, rfl⟩
    case round =>
      obtain ⟨a, f, L, ha, rfl, hwx, hlf, hacc⟩ := hrel
      rename World => X
      have HX := bx hwx
      have HTX := bx (tx_old HV.out hwx)
      have HLF := bx hlf
      have HACC := bx hacc
      clear hwx hlf hacc c5
      by_cases hal : (a : Int) < (n : Int)
      · obtain ⟨l, hl⟩ : ∃ l, l = h.st.drop a := ⟨_, rfl⟩
        have hll : l.length = n - a := by rw [hl, List.length_drop, HN.out]
        obtain ⟨f', rfl⟩ : ∃ f', f = f' + 1 := ⟨f - 1, by have := HLF.out; rw [← hl] at this; omega⟩
        obtain ⟨m, hm, hma⟩ : ∃ m : Nat, m = l.length ∧ (n : Int) - (a : Int) = (m : Int) := ⟨_, rfl, by omega⟩
        have hm1 : 1 ≤ (m : Int) := by omega
        have hm4 : (m : Int) ≤ 4096 := by omega
        have hne : l ≠ [] := fun e => by rw [e] at hm; simp at hm; omega
        obtain ⟨M, hM⟩ : ∃ M, M = alk l := ⟨_, rfl⟩
        have hM1 : 1 ≤ (M : Int) := by have := alk_pos hne; omega
        have hMm : (M : Int) ≤ (m : Int) := by have := alk_le l; omega
        have h02 : ∀ x ∈ l, 0 ≤ x ∧ x ≤ 2 := fun x hx => by
          obtain ⟨i, hi⟩ := List.getElem?_of_mem (List.mem_of_mem_drop (by rw [hl] at hx; exact hx))
          have := st_range HGT.out hi
          omega
        have hLb : L.length + 32 ≤ 524288 := by
          have h1 := congrArg List.length HACC.out
          have h2 := HBD.out
          rw [encA_len] at h2
          rw [List.length_append, List.length_append, headB_len, ← hl, encC_cons (by omega), List.length_append, lay_len] at h1
          omega
        obtain ⟨g, off, v0, e, hgl, hv0, _, z0⟩ := int_at HTX.out.r1 (k := a) (by have := HN.out; omega)
        subst e
        have hd0 : l.getD 0 0 = v0 := getD_of (by rw [hl, List.getElem?_drop]; exact hv0)
        have hv02 : 0 ≤ v0 ∧ v0 ≤ 2 := by
          have := st_range HGT.out hv0
          omega
        obtain ⟨v00, v01⟩ := hv02
        have HRA := bx (show Rd X 1 (some ⟨g, off, none⟩) n (nums .i64 h.st) by rw [HN.out]; exact HTX.out.r1)
        have HMM := bx hm
        have HML := bx hM
        have HNE := bx hne
        have H02 := bx h02
        have HLB := bx hLb
        have HDL := bx hl
        have HD0 := bx hd0
        have HLL := bx hll
        -- the next step, whichever way
        have HSTEP := bx (show ∀ (k : Nat) (K : Int) (X2 : World), K = (k : Int) → k = (lay l).2 → WX 74 V X2 p (old V) (L ++ (lay l).1) → (∃ (a2 f2 : Nat) (L2 : List Int), (a2 : Int) ≤ (n : Int) ∧ (Value.int .i64 ((a : Int) + K)) = .int .i64 (a2 : Int) ∧ WX 74 V X2 p (old V) L2 ∧ (h.st.drop a2).length ≤ f2 ∧ headB h ++ encC h.st.length h.st = L2 ++ encC f2 (h.st.drop a2)) ∧ ((n : Int) - intOf (.int .i64 ((a : Int) + K))).toNat < ((n : Int) - intOf (.int .i64 (a : Int))).toNat from fun k K X2 hK hk hx => by
          subst hK
          obtain ⟨q1, q2⟩ := lay_many HNE.out
          have q3 := HMM.out
          have q4 := HLF.out
          have q5 := HLL.out
          rw [← HDL.out] at q4
          refine ⟨⟨a + k, f', L ++ (lay l).1, by omega, by congr 1, hx, ?_, ?_⟩, ?_⟩
          · rw [← List.drop_drop, ← HDL.out, List.length_drop]
            omega
          · rw [HACC.out, ← HDL.out, encC_cons (by omega), List.append_assoc, ← List.drop_drop, ← HDL.out, hk]
          · simp [intOf]
            omega)
        clear hm hM hne h02 hLb hl hd0 hll hv0 hgl
        have q1 : decide ((a : Int) < (n : Int)) = true := decide_eq_true (by omega)
        have q1' : decide (a < n) = true := decide_eq_true (by omega)
        go_wp2_with fail
        refine (ralike_any _ n c a h.st X HRA.out (by omega) hal).mono ?_
        rw [← HDL.out, ← HML.out]
        rintro e X1 ⟨rfl, q, rfl⟩
        have HX1 := bx (HX.out.run ((Kept.refl (fun _ => False) X).drewN q))
        obtain ⟨Y, hY⟩ : ∃ Y, Y = X.drewN q := ⟨_, rfl⟩
        rw [← hY] at HX1 ⊢
        have HRV := bx (show Rd V 1 (some ⟨g, off, none⟩) n (nums .i64 h.st) by rw [HN.out]; exact HV.out.r1)
        obtain ⟨g', off', e, hgV, hcV⟩ := HRV.out.2 (by omega)
        injection e with e
        injection e with e1 e2
        subst e1 e2
        have hcell := fun (i : Nat) (x : Int) (hx : h.st[i]? = some x) => hcV i (.int .i64 x) (by simp [nums, hx])
        have HCV := bx hcell
        have HGV := bx (show old V g from hgV)
        clear hY z0 hgV hcV hcell
        have hva : h.st[a]? = some v0 := by
          have h1 := HD0.out
          have h2 := HLL.out
          rw [HDL.out, List.getD_eq_getElem?_getD, List.getElem?_drop, Nat.add_zero] at h1
          rw [List.getElem?_eq_getElem (by have := HN.out; omega)] at h1 ⊢
          simpa using h1
        have HVA := bx hva
        clear hva
        by_cases hrun : 7 ≤ (M : Int) ∨ (M : Int) = (m : Int)
        · have HRUN := bx (lay_run (l := l) (by have := HMM.out; have := HML.out; omega))
          have hrun2 : 7 ≤ (M : Int) ∨ (¬ 7 ≤ (M : Int) ∧ (M : Int) = (m : Int)) := by omega
          clear hrun
          rcases hrun2 with d | ⟨d, d2⟩
          rotate_left
          have q2 : decide (7 ≤ (M : Int)) = false := decide_eq_false (by omega)
          have q2' : decide (7 ≤ M) = false := decide_eq_false (by omega)
          have d3 : ((M : Int) == (m : Int)) = true := by rw [beq_iff_eq]; exact d2
          clear d2
          rotate_left
          have q2 : decide (7 ≤ (M : Int)) = true := decide_eq_true (by omega)
          have q2' : decide (7 ≤ M) = true := decide_eq_true (by omega)
          all_goals
            go_wp2_with fail
            refine (WX.rput HX1.out (by have := HLB.out; omega) (by omega) (by omega) 1).mono ?_
            rintro e Y1 ⟨rfl, h1⟩
            rw [show (1 : Int) = ((1 : Nat) : Int) from rfl, puts_fit (by omega) (by have := HLB.out; omega)] at h1
            have HX2 := bx h1
            have z1 := h1.cell HGV.out (HCV.out a v0 HVA.out)
            clear h1
            go_wp2_with fail
            refine (WX.rput HX2.out (by rw [List.length_append, bitsOf_length]; have := HLB.out; omega) (by omega) (by omega) 2).mono ?_
            rintro e Y2 ⟨rfl, h1⟩
            rw [show (2 : Int) = ((2 : Nat) : Int) from rfl, puts_fit (by omega) (by rw [List.length_append, bitsOf_length]; have := HLB.out; omega)] at h1
            have HX3 := bx h1
            clear h1 z1
            go_wp2_with fail
            refine (WX.rput HX3.out (by simp only [List.length_append, bitsOf_length]; have := HLB.out; omega) (by omega) (by omega) 13).mono ?_
            rintro e Y3 ⟨rfl, h1⟩
            rw [show (13 : Int) = ((13 : Nat) : Int) from rfl, puts_fit (by omega) (by simp only [List.length_append, bitsOf_length]; have := HLB.out; omega)] at h1
            have HX4 := bx (HSTEP.out M M Y3 rfl (by rw [HRUN.out]; exact HML.out) (by
              rw [HRUN.out, HD0.out, ← HML.out]
              simp only [← List.append_assoc]
              exact h1))
            clear h1
            go_wp2_with fail
            go_roundw
            case rel => exact HX4.out.1
            case measure => exact HX4.out.2
        · have HNR := bx (show ¬ (7 ≤ alk l ∨ alk l = l.length) by have := HMM.out; have := HML.out; omega)
          have d : ¬ 7 ≤ (M : Int) := by omega
          have d3 : ((M : Int) == (m : Int)) = false := by rw [beq_eq_false_iff_ne]; omega
          have q2 : decide (7 ≤ (M : Int)) = false := decide_eq_false (by omega)
          have q2' : decide (7 ≤ M) = false := decide_eq_false (by omega)
          obtain ⟨A2, hsl, hA2, hrd2⟩ := run_rest (k := a) HRA.out (by omega) (show n ≤ c by omega)
          have hnm : n - a = m := by omega
          rw [hnm] at hsl hrd2
          have HA2 := bx hA2
          have HRD2 := bx (show Rd V 1 A2 m (nums .i64 l) by rw [HDL.out]; exact hrd2 V HRV.out)
          clear hA2 hrd2 hnm hrun
          go_wp2_with fail
          go_loopw [9, 10] (fun tv iv wx => ∃ i : Nat, (i : Int) ≤ 14 ∧ (i : Int) ≤ (m : Int) ∧ iv = .int .i64 (i : Int) ∧ tv = .bool (any2 l i) ∧ wx = Y) (fun _ iv _ => (14 - intOf iv).toNat)
          case atStart => exact ⟨0, by omega, by omega, rfl, rfl, rfl⟩
          case round =>
            obtain ⟨i, hi14, him, rfl, rfl, rfl⟩ := hrel
            by_cases hin : (i : Int) < 14 ∧ (i : Int) < (m : Int)
            · obtain ⟨i1, i2⟩ := hin
              obtain ⟨ai, hai⟩ : ∃ ai : Nat, (a : Int) + (i : Int) = (ai : Int) := ⟨a + i, by omega⟩
              obtain ⟨x, hx⟩ : ∃ x, h.st[a + i]? = some x := ⟨_, List.getElem?_eq_getElem (by have := HN.out; omega)⟩
              have z2 := HX1.out.cell HGV.out (HCV.out (a + i) x hx)
              rw [show a + i = ai by omega] at z2
              have hain : (ai : Int) < (n : Int) := by omega
              have HS := bx (any2_succ (l := l) (k := i) (x := x) (by rw [HDL.out, List.getElem?_drop]; exact hx))
              have HAI := bx hai
              have HI1 := bx i1
              have q3 : decide ((i : Int) < 14) = true := decide_eq_true (by omega)
              have q3' : decide (i < 14) = true := decide_eq_true (by omega)
              have q4 : decide ((i : Int) < (m : Int)) = true := decide_eq_true (by omega)
              have q4' : decide (i < m) = true := decide_eq_true (by omega)
              clear hx
              cases hb : any2 l i with
              | true =>
                rw [hb] at HS
                clear hb hai
                go_wp2_with fail
                go_roundw
                case rel => exact ⟨i + 1, by omega, by omega, by go_num, by rw [HS.out]; rfl, trivial⟩
                case measure => have := HI1.out; simp [intOf]; omega
              | false =>
                rw [hb] at HS
                obtain ⟨bx, hbx⟩ : ∃ bx, bx = decide (x = 2) := ⟨_, rfl⟩
                have hx2 : (x == 2) = bx := by rw [hbx]; by_cases e : x = 2 <;> simp [e]
                rw [← hbx] at HS
                clear hb hbx
                go_wp2_with fail
                go_roundw
                case rel => exact ⟨i + 1, by omega, by omega, by go_num, by rw [HS.out]; rfl, trivial⟩
                case measure => have := HI1.out; simp [intOf]; omega
            · have HEND := bx (any2_end (l := l) (k := i) (by have := HMM.out; omega))
              rw [HEND.out]
              have hways : (¬ (i : Int) < 14 ∧ 14 ≤ (m : Int)) ∨ ((i : Int) < 14 ∧ ¬ (i : Int) < (m : Int) ∧ (m : Int) < 14) := by omega
              clear hin hi14 him
              rcases hways with ⟨w1, w2⟩ | ⟨w1, w2, w3⟩
              · have q5 : decide ((i : Int) < 14) = false := decide_eq_false (by omega)
                have q5' : decide (i < 14) = false := decide_eq_false (by omega)
                cases htw : twoB l with
                | false =>
                  have HONE := bx (lay_one HNR.out htw)
                  have HBT := bx (show bitsOf 2 2 = bitsOf 1 1 ++ bitsOf 0 1 by decide)
                  clear htw
                  go_wp2_with fail
                  refine (WX.rput HX1.out (by have := HLB.out; omega) (by omega) (by omega) 2).mono ?_
                  rintro e Y1 ⟨rfl, h1⟩
                  rw [show (2 : Int) = ((2 : Nat) : Int) from rfl, puts_fit (by omega) (by have := HLB.out; omega)] at h1
                  have HX2 := bx (show WX 74 V Y1 p (old V) (L ++ (bitsOf 1 1 ++ bitsOf 0 1)) by rw [← HBT.out]; exact h1)
                  clear h1
                  go_wp2_with fail
                  refine (rrow_any 14 1 HX2.out HRD2.out (fun g' off' e _ => by rw [HA2.out g' off' e]; exact HGV.out) (by simp only [List.length_append, bitsOf_length]; have := HLB.out; omega) (by omega) H02.out (by omega) (by omega) (by omega) (by omega)).mono ?_
                  rintro e Y2 ⟨rfl, h1⟩
                  have HX4 := bx (HSTEP.out 14 14 Y2 rfl (by rw [HONE.out]; have := HMM.out; simp only; omega) (by
                    rw [HONE.out]
                    simp only [← List.append_assoc] at h1 ⊢
                    exact h1))
                  clear h1
                  go_wp2_with fail
                  go_roundw
                  case rel => exact HX4.out.1
                  case measure => exact HX4.out.2
                | true =>
                  have HTWO := bx (lay_two HNR.out htw)
                  have HBT := bx (show bitsOf 3 2 = bitsOf 1 1 ++ bitsOf 1 1 by decide)
                  clear htw
                  have w4 : 7 ≤ (m : Int) := by omega
                  go_wp2_with fail
                  refine (WX.rput HX1.out (by have := HLB.out; omega) (by omega) (by omega) 2).mono ?_
                  rintro e Y1 ⟨rfl, h1⟩
                  rw [show (2 : Int) = ((2 : Nat) : Int) from rfl, puts_fit (by omega) (by have := HLB.out; omega)] at h1
                  have HX2 := bx (show WX 74 V Y1 p (old V) (L ++ (bitsOf 1 1 ++ bitsOf 1 1)) by rw [← HBT.out]; exact h1)
                  clear h1
                  go_wp2_with fail
                  refine (rrow_any 7 2 HX2.out HRD2.out (fun g' off' e _ => by rw [HA2.out g' off' e]; exact HGV.out) (by simp only [List.length_append, bitsOf_length]; have := HLB.out; omega) (by omega) H02.out (by omega) (by omega) (by omega) (by omega)).mono ?_
                  rintro e Y2 ⟨rfl, h1⟩
                  have HX4 := bx (HSTEP.out 7 7 Y2 rfl (by rw [HTWO.out]; have := HMM.out; simp only; omega) (by
                    rw [HTWO.out]
                    simp only [← List.append_assoc] at h1 ⊢
                    exact h1))
                  clear h1
                  go_wp2_with fail
                  go_roundw
                  case rel => exact HX4.out.1
                  case measure => exact HX4.out.2
              · have q5 : decide ((i : Int) < 14) = true := decide_eq_true (by omega)
                have q5' : decide (i < 14) = true := decide_eq_true (by omega)
                have q6 : decide ((i : Int) < (m : Int)) = false := decide_eq_false (by omega)
                have q6' : decide (i < m) = false := decide_eq_false (by omega)
                cases htw : twoB l with
                | false =>
                  have HONE := bx (lay_one HNR.out htw)
                  have HBT := bx (show bitsOf 2 2 = bitsOf 1 1 ++ bitsOf 0 1 by decide)
                  clear htw
                  go_wp2_with fail
                  refine (WX.rput HX1.out (by have := HLB.out; omega) (by omega) (by omega) 2).mono ?_
                  rintro e Y1 ⟨rfl, h1⟩
                  rw [show (2 : Int) = ((2 : Nat) : Int) from rfl, puts_fit (by omega) (by have := HLB.out; omega)] at h1
                  have HX2 := bx (show WX 74 V Y1 p (old V) (L ++ (bitsOf 1 1 ++ bitsOf 0 1)) by rw [← HBT.out]; exact h1)
                  clear h1
                  go_wp2_with fail
                  refine (rrow_any 14 1 HX2.out HRD2.out (fun g' off' e _ => by rw [HA2.out g' off' e]; exact HGV.out) (by simp only [List.length_append, bitsOf_length]; have := HLB.out; omega) (by omega) H02.out (by omega) (by omega) (by omega) (by omega)).mono ?_
                  rintro e Y2 ⟨rfl, h1⟩
                  have HX4 := bx (HSTEP.out m (m : Int) Y2 rfl (by rw [HONE.out]; have := HMM.out; simp only; omega) (by
                    rw [HONE.out]
                    simp only [← List.append_assoc] at h1 ⊢
                    exact h1))
                  clear h1
                  go_wp2_with fail
                  go_roundw
                  case rel => exact HX4.out.1
                  case measure => exact HX4.out.2
                | true =>
                  have HTWO := bx (lay_two HNR.out htw)
                  have HBT := bx (show bitsOf 3 2 = bitsOf 1 1 ++ bitsOf 1 1 by decide)
                  clear htw
                  rcases (show 7 ≤ (m : Int) ∨ (m : Int) < 7 by omega) with e1 | e1
                  · go_wp2_with fail
                    refine (WX.rput HX1.out (by have := HLB.out; omega) (by omega) (by omega) 2).mono ?_
                    rintro e Y1 ⟨rfl, h1⟩
                    rw [show (2 : Int) = ((2 : Nat) : Int) from rfl, puts_fit (by omega) (by have := HLB.out; omega)] at h1
                    have HX2 := bx (show WX 74 V Y1 p (old V) (L ++ (bitsOf 1 1 ++ bitsOf 1 1)) by rw [← HBT.out]; exact h1)
                    clear h1
                    go_wp2_with fail
                    refine (rrow_any 7 2 HX2.out HRD2.out (fun g' off' e _ => by rw [HA2.out g' off' e]; exact HGV.out) (by simp only [List.length_append, bitsOf_length]; have := HLB.out; omega) (by omega) H02.out (by omega) (by omega) (by omega) (by omega)).mono ?_
                    rintro e Y2 ⟨rfl, h1⟩
                    have HX4 := bx (HSTEP.out 7 7 Y2 rfl (by rw [HTWO.out]; have := HMM.out; simp only; omega) (by
                      rw [HTWO.out]
                      simp only [← List.append_assoc] at h1 ⊢
                      exact h1))
                    clear h1
                    go_wp2_with fail
                    go_roundw
                    case rel => exact HX4.out.1
                    case measure => exact HX4.out.2
                  · go_wp2_with fail
                    refine (WX.rput HX1.out (by have := HLB.out; omega) (by omega) (by omega) 2).mono ?_
                    rintro e Y1 ⟨rfl, h1⟩
                    rw [show (2 : Int) = ((2 : Nat) : Int) from rfl, puts_fit (by omega) (by have := HLB.out; omega)] at h1
                    have HX2 := bx (show WX 74 V Y1 p (old V) (L ++ (bitsOf 1 1 ++ bitsOf 1 1)) by rw [← HBT.out]; exact h1)
                    clear h1
                    go_wp2_with fail
                    refine (rrow_any 7 2 HX2.out HRD2.out (fun g' off' e _ => by rw [HA2.out g' off' e]; exact HGV.out) (by simp only [List.length_append, bitsOf_length]; have := HLB.out; omega) (by omega) H02.out (by omega) (by omega) (by omega) (by omega)).mono ?_
                    rintro e Y2 ⟨rfl, h1⟩
                    have HX4 := bx (HSTEP.out m (m : Int) Y2 rfl (by rw [HTWO.out]; have := HMM.out; simp only; omega) (by
                      rw [HTWO.out]
                      simp only [← List.append_assoc] at h1 ⊢
                      exact h1))
                    clear h1
                    go_wp2_with fail
                    go_roundw
                    case rel => exact HX4.out.1
                    case measure => exact HX4.out.2
      · have hae : a = n := by omega
        have HL := bx (show headB h ++ encC h.st.length h.st = L by rw [HACC.out, hae, HN.out, List.drop_length, encC_nil, List.append_nil])
        have HLB := bx (show L.length ≤ 65664 by
          rw [← HL.out, List.length_append, headB_len]
          have := encC_len h.st.length h.st
          have := HN.out
          omega)
        have HW1 := bx (show WX 74 V X p (old V) (L ++ encDto h.st h.ds 0) by rw [encDto, List.append_nil]; exact HX.out)
        have q1 : decide ((a : Int) < (n : Int)) = false := decide_eq_false hal
        have q1' : decide (a < n) = false := decide_eq_false (by omega)
        clear ha hal hae
        go_wp2_with fail
        clear q1 q1'
        go_loopw [11, 12] (fun mv iv wx => ∃ i : Nat, (i : Int) ≤ (n : Int) ∧ iv = .int .i64 (i : Int) ∧ mv = .int .i64 ((nz (h.st.take i) : Nat) : Int) ∧ WX 74 V wx p (old V) (L ++ encDto h.st h.ds i)) (fun _ iv _ => ((n : Int) - intOf iv).toNat)
        case atStart => exact ⟨0, by omega, rfl, rfl, HW1.out⟩
        case round =>
          obtain ⟨i, hi, rfl, rfl, hwx⟩ := hrel
          rename World => Y
          have HY := bx hwx
          have HTY := bx (tx_old HV.out hwx)
          clear hwx
          by_cases hil : (i : Int) < (n : Int)
          · obtain ⟨g, off, x, e, _, hx, _, y0⟩ := int_at HTY.out.r1 (k := i) (by have := HN.out; omega)
            subst e
            obtain ⟨K, hK⟩ : ∃ K, K = nz (h.st.take i) := ⟨_, rfl⟩
            rw [← hK]
            have HXX := bx hx
            have HK := bx hK
            have HIL := bx (show i < h.st.length by have := HN.out; omega)
            have hx02 := st_range HGT.out hx
            have hKi : (K : Int) ≤ (i : Int) := by have := nz_take_le h.st i; omega
            have q2 : decide ((i : Int) < (n : Int)) = true := decide_eq_true hil
            have q2' : decide (i < n) = true := decide_eq_true (by omega)
            clear hx hK
            rcases hx02 with s | s | s
            · subst s
              have HS := bx (show nz (h.st.take (i + 1)) = K by rw [nz_take HXX.out, if_pos rfl, ← HK.out]; rfl)
              go_wp2_with fail
              go_roundw
              case rel => exact ⟨i + 1, by omega, by go_num, by rw [HS.out], by rw [encDto_zero HXX.out]; exact HY.out⟩
              case measure => exact measN n i hil
            · subst s
              have hok := ok_facts (goodTo_at HGT.out HIL.out)
              rw [getD_of HXX.out, ← HK.out] at hok
              obtain ⟨g2, off2, dv, e, _, hd, _, y1⟩ := int_at HTY.out.r2 (k := K) (by omega)
              subst e
              have HD := bx (show h.ds[nz (h.st.take i)]? = some dv by rw [← HK.out]; exact hd)
              have hrng : -32768 ≤ dv ∧ dv ≤ 32767 := by
                rcases hok.2.2 with e | e
                · omega
                · rw [getD_of hd] at e; exact (dok_iff.1 e.2).1
              have HKD := bx (show K < h.ds.length by omega)
              obtain ⟨md, hmd⟩ : ∃ md, md = h.ds.length := ⟨_, rfl⟩
              have y6 := HTY.out.c6
              rw [← hmd] at y6
              have hKd : (K : Int) < (md : Int) := by have := HKD.out; omega
              have HMD := bx hmd
              obtain ⟨uv, huv⟩ : ∃ uv, IntKind.u32.wrap dv = uv := ⟨_, rfl⟩
              have hub : 0 ≤ uv ∧ uv < 4294967296 := by rw [← huv, wrap_u32]; omega
              obtain ⟨ub0, ub1⟩ := hub
              have HUV := bx (show bitsOf uv 8 = bitsOf dv 8 by rw [← huv]; exact wrap_bits dv 8 (by omega))
              have HS := bx (show nz (h.st.take (i + 1)) = K + 1 by rw [nz_take HXX.out, if_neg (by decide), ← HK.out])
              have HFT := bx (encDto_fit HGT.out (show i ≤ h.st.length by have := HIL.out; omega) (by have := HN.out; omega))
              obtain ⟨r1, r2⟩ := hrng
              clear hok hd hmd
              go_wp2_with fail
              go_still_tail 12, (by kernel_rfl)
              go_wp2_with fail
              refine (WX.rput (HY.out.run ((Kept.refl (fun _ => False) Y).drew)) (by rw [List.length_append]; have := HFT.out; have := HLB.out; omega) (by omega) (by omega) 8).mono ?_
              rintro e Y2 ⟨rfl, h1⟩
              rw [show (8 : Int) = ((8 : Nat) : Int) from rfl, puts_fit (by omega) (by rw [List.length_append]; have := HFT.out; have := HLB.out; omega), HUV.out, List.append_assoc] at h1
              have HY2 := bx (show WX 74 V Y2 p (old V) (L ++ encDto h.st h.ds (i + 1)) by rw [encDto_some HXX.out (by decide) HD.out]; exact h1)
              clear h1 y0 y1 y6 huv
              go_wp2_with fail
              go_roundw
              case rel => exact ⟨i + 1, by omega, by go_num, by rw [HS.out]; go_num, HY2.out⟩
              case measure => exact measN n i hil
            · subst s
              have hok := ok_facts (goodTo_at HGT.out HIL.out)
              rw [getD_of HXX.out, ← HK.out] at hok
              obtain ⟨g2, off2, dv, e, _, hd, _, y1⟩ := int_at HTY.out.r2 (k := K) (by omega)
              subst e
              have HD := bx (show h.ds[nz (h.st.take i)]? = some dv by rw [← HK.out]; exact hd)
              have hrng : -32768 ≤ dv ∧ dv ≤ 32767 := by
                rcases hok.2.2 with e | e
                · omega
                · rw [getD_of hd] at e; exact (dok_iff.1 e.2).1
              have HKD := bx (show K < h.ds.length by omega)
              obtain ⟨md, hmd⟩ : ∃ md, md = h.ds.length := ⟨_, rfl⟩
              have y6 := HTY.out.c6
              rw [← hmd] at y6
              have hKd : (K : Int) < (md : Int) := by have := HKD.out; omega
              have HMD := bx hmd
              obtain ⟨uv, huv⟩ : ∃ uv, IntKind.u32.wrap dv = uv := ⟨_, rfl⟩
              have hub : 0 ≤ uv ∧ uv < 4294967296 := by rw [← huv, wrap_u32]; omega
              obtain ⟨ub0, ub1⟩ := hub
              have HUV := bx (show bitsOf uv 16 = bitsOf dv 16 by rw [← huv]; exact wrap_bits dv 16 (by omega))
              have HS := bx (show nz (h.st.take (i + 1)) = K + 1 by rw [nz_take HXX.out, if_neg (by decide), ← HK.out])
              have HFT := bx (encDto_fit HGT.out (show i ≤ h.st.length by have := HIL.out; omega) (by have := HN.out; omega))
              obtain ⟨r1, r2⟩ := hrng
              clear hok hd hmd
              go_wp2_with fail
              go_still_tail 12, (by kernel_rfl)
              go_wp2_with fail
              refine (WX.rput (HY.out.run ((Kept.refl (fun _ => False) Y).drew)) (by rw [List.length_append]; have := HFT.out; have := HLB.out; omega) (by omega) (by omega) 16).mono ?_
              rintro e Y2 ⟨rfl, h1⟩
              rw [show (16 : Int) = ((16 : Nat) : Int) from rfl, puts_fit (by omega) (by rw [List.length_append]; have := HFT.out; have := HLB.out; omega), HUV.out, List.append_assoc] at h1
              have HY2 := bx (show WX 74 V Y2 p (old V) (L ++ encDto h.st h.ds (i + 1)) by rw [encDto_some HXX.out (by decide) HD.out]; exact h1)
              clear h1 y0 y1 y6 huv
              go_wp2_with fail
              go_roundw
              case rel => exact ⟨i + 1, by omega, by go_num, by rw [HS.out]; go_num, HY2.out⟩
              case measure => exact measN n i hil
          · have hin : i = n := by omega
            have HF := bx (show WX 74 V Y p (old V) (encA h) by
              have h1 := HY.out
              rw [← HL.out, hin, HN.out] at h1
              exact h1)
            have q2 : decide ((i : Int) < (n : Int)) = false := decide_eq_false hil
            have q2' : decide (i < n) = false := decide_eq_false (by omega)
            clear hi hin hil
            go_wp2_with fail
            refine (WX.ralign HF.out (by have := HBD.out; omega) 32).mono ?_
            rintro e Y2 ⟨rfl, h1⟩
            rw [show (32 : Int) = ((32 : Nat) : Int) from rfl, aligns_fit (by omega) (by omega) (by have := HBD.out; have := pad_lt (encA h).length 32 (by omega); omega)] at h1
            have HG := bx h1
            clear h1
            go_wp2_with fail
            refine (WX.rtext HG.out).mono ?_
            rintro e Y3 ⟨rfl, rfl⟩
            go_wp2_with fail
            go_ret2
            exact ⟨by rw [encR_good HGD.out]; rfl, (tx_old HV.out HG.out).bw⟩
end Go.Proofs.Ytmedlplgeeeodaa.Tw
