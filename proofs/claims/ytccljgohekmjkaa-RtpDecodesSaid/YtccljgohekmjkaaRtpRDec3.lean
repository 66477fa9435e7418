/- The document's extensions: the walk; no condition but the ranges in each. -/
import Derived.Test.YtccljgohekmjkaaRtpRDec2
import Derived.Test.YtccljgohekmjkaaRtpGood2
namespace Go.Proofs.Ytccljgohekmjkaa.Rtp
open Go.RowKit Go.Proofs.Ytccljgohekmjkaa.Plain Go.Proofs.Ytccljgohekmjkaa.Heap Go.Proofs.Ytccljgohekmjkaa.Open Go.Proofs.Ytccljgohekmjkaa.Rows Go.Proofs.Ytccljgohekmjkaa.Bits Go.Proofs.Ytccljgohekmjkaa.Tail
set_option linter.unusedSimpArgs false in
set_option maxRecDepth 10000 in
set_option maxHeartbeats 8000000 in
theorem rexts_any (s : ByteArray) (p0 : Nat) (mb : Bool) (vt vq vi vs : Int) (sA : Option Addr) (sn sc : Nat) (w : World) (hs : s.size ≤ 1099511627776) (hp : p0 ≤ s.size) :
    Calls Try.prog 35 #[.string s, .agg (dcs mb vt vq vi vs (.slice sA sn sc) (.slice none 0 0)), .int .i64 (p0 : Int)] w (RExtPost s p0 mb vt vq vi vs (.slice sA sn sc) w) := by
  have HS := Lib.hid hs
  have HP0 := Lib.hid hp
  obtain ⟨Z, hZ⟩ : ∃ Z : Int, Z = (s.size : Int) := ⟨_, rfl⟩
  have hsz : (s.size : Int) = Z := hZ.symm
  have hz1 : Z ≤ 1099511627776 := by omega
  have hpz : (p0 : Int) ≤ Z := by omega
  have HZ := Lib.hid hZ
  clear hs hp hZ
  obtain ⟨b0, hb0⟩ : ∃ b0, b0 = w.heap.size := ⟨_, rfl⟩
  obtain ⟨W0, hW0⟩ : ∃ W0, W0 = w.alloc (.cells (dcs mb vt vq vi vs (.slice sA sn sc) (.slice none 0 0)) 26) := ⟨_, rfl⟩
  obtain ⟨g, hg⟩ : ∃ g, g = b0 + 1 := ⟨_, rfl⟩
  have hgs : g = W0.heap.size := by rw [hg, hW0, hb0]; simp
  obtain ⟨W, hW⟩ : ∃ W, W = W0.alloc (.cells zgs 39) := ⟨_, rfl⟩
  have hk1 : Kept (fun _ => False) W0 W := by rw [hW]; exact (Kept.refl _ W0).alloc _
  have hb00 : W0.heap[b0]? = some (.cells (dcs mb vt vq vi vs (.slice sA sn sc) (.slice none 0 0)) 26 (0, 0)) := by rw [hW0, hb0]; exact heap_alloc_new w _
  have HB := Lib.hid ((hk1.block b0 (Array.getElem?_eq_some_iff.1 hb00).1 id).trans hb00)
  have HG := Lib.hid (show W.heap[g]? = some (.cells zgs 39 (0, 0)) by rw [hW, hgs]; exact heap_alloc_new W0 _)
  have HBW := Lib.hid (show Below w.heap.size w W by rw [hW, hW0]; exact ((Below.refl _ w).alloc (Nat.le_refl _) _).alloc (by simp) _)
  have HE := Lib.hid hb0
  have HE0 := Lib.hid hW0
  have HEG := Lib.hid hg
  have HEW := Lib.hid hW
  have HGW := Lib.hid (show w.heap.size ≤ b0 by rw [hb0]; exact Nat.le_refl _)
  clear hb0 hW0 hg hgs hW hk1 hb00
  go_enter Try.func35, Try.ntmps35
  go_upto_region 1 with fail
  rw [← HE0.out, ← HE.out, ← HEW.out, ← HEG.out]
  have hcb := HG.out
  obtain ⟨z0, z1, z2, z3, z4, z5, z6, z7⟩ := cells8 hcb
  have e0 := frozen_of hcb 0
  have e1 := frozen_of hcb 1
  have e2 := frozen_of hcb 2
  have e3 := frozen_of hcb 3
  have e4 := frozen_of hcb 4
  have e5 := frozen_of hcb 5
  have e6 := frozen_of hcb 6
  have e7 := frozen_of hcb 7
  clear hcb
  by_cases c2 : Z < (p0 : Int) + 2
  · -- too short for the mark
    have HD := Lib.hid (show decE s p0 = .error 60 by unfold decE; rw [if_pos (by omega)])
    have c4 : Z < (p0 : Int) + 4 := by omega
    go_wp2_with fail
    refine ret_ext (u := .int .i64 60) (stored8 HG.out) rfl rfl rfl rfl ?_
    exact rext_err HD.out ((kept_store8 (S := fun k => w.heap.size ≤ k) (Kept.of_below HBW.out) (.inl (by have := HEG.out; have := HGW.out; omega)) _ _ _ _ _ _ _ _).below (Nat.le_refl _) (fun _ h => h))
  · have i0 := run_byte s p0 (by omega)
    have i1 := run_byte s (p0 + 1) (by omega)
    obtain ⟨x0, hx0⟩ : ∃ x, x = by8 s p0 := ⟨_, rfl⟩
    obtain ⟨x1, hx1⟩ : ∃ x, x = by8 s (p0 + 1) := ⟨_, rfl⟩
    rw [← hx0] at i0
    rw [← hx1] at i1
    rw [show ((p0 + 1 : Nat) : Int) = (p0 : Int) + 1 by omega] at i1
    have HX := Lib.hid (show val s (8 * p0) 16 = (x0 : Int) * 256 + (x1 : Int) by rw [hx0, hx1]; exact by_two s p0)
    have l0 := by8_lt s p0
    have l1 := by8_lt s (p0 + 1)
    have l0' : (x0 : Int) < 256 := by omega
    have l1' : (x1 : Int) < 256 := by omega
    clear hx0 hx1 l0 l1
    by_cases hmk : ¬ ((x0 : Int) = 190 ∧ (x1 : Int) = 222)
    · have HD := Lib.hid (show decE s p0 = .error 71 by unfold decE; rw [if_neg (by omega), if_pos (by rw [HX.out]; omega)])
      have hways : ((x0 : Int) == 190) = false ∨ (((x0 : Int) == 190) = true ∧ ((x1 : Int) == 222) = false) := by
        by_cases a : (x0 : Int) = 190
        · exact .inr ⟨by rw [beq_iff_eq]; exact a, by rw [beq_eq_false_iff_ne]; exact fun e => hmk ⟨a, e⟩⟩
        · exact .inl (by rw [beq_eq_false_iff_ne]; exact a)
      have hne : ∀ a b : Int, (a == b) = false → (a != b) = true := fun a b h => by unfold bne; rw [h]; rfl
      clear hmk
      rcases hways with a | ⟨a, b⟩
      · have a' := hne _ _ a
        clear hne
        go_wp2_with fail
        refine ret_ext (u := .int .i64 71) (stored8 HG.out) rfl rfl rfl rfl ?_
        exact rext_err HD.out ((kept_store8 (S := fun k => w.heap.size ≤ k) (Kept.of_below HBW.out) (.inl (by have := HEG.out; have := HGW.out; omega)) _ _ _ _ _ _ _ _).below (Nat.le_refl _) (fun _ h => h))
      · have b' := hne _ _ b
        have a2 : (x0 : Int) = 190 := beq_iff_eq.1 a
        clear hne a
        go_wp2_with fail
        refine ret_ext (u := .int .i64 71) (stored8 HG.out) rfl rfl rfl rfl ?_
        exact rext_err HD.out ((kept_store8 (S := fun k => w.heap.size ≤ k) (Kept.of_below HBW.out) (.inl (by have := HEG.out; have := HGW.out; omega)) _ _ _ _ _ _ _ _).below (Nat.le_refl _) (fun _ h => h))
    · obtain ⟨a, b⟩ := Classical.not_not.1 hmk
      have HMK := Lib.hid (show val s (8 * p0) 16 = 48862 by rw [HX.out]; omega)
      clear hmk
      by_cases c4 : Z < (p0 : Int) + 4
      · have HD := Lib.hid (show decE s p0 = .error 60 by unfold decE; rw [if_neg (by omega), if_neg (fun e => e HMK.out), if_pos (by omega)])
        go_wp2_with fail
        refine ret_ext (u := .int .i64 60) (stored8 HG.out) rfl rfl rfl rfl ?_
        exact rext_err HD.out ((kept_store8 (S := fun k => w.heap.size ≤ k) (Kept.of_below HBW.out) (.inl (by have := HEG.out; have := HGW.out; omega)) _ _ _ _ _ _ _ _).below (Nat.le_refl _) (fun _ h => h))
      · have HD := Lib.hid (show decE s p0 = decX s (extN s p0 + 1) (p0 + 4) (extN s p0) [] by unfold decE; rw [if_neg (by omega), if_neg (fun e => e HMK.out), if_neg (by omega)])
        have i2 := run_byte s (p0 + 2) (by omega)
        have i3 := run_byte s (p0 + 3) (by omega)
        obtain ⟨x2, hx2⟩ : ∃ x, x = by8 s (p0 + 2) := ⟨_, rfl⟩
        obtain ⟨x3, hx3⟩ : ∃ x, x = by8 s (p0 + 3) := ⟨_, rfl⟩
        rw [← hx2, show ((p0 + 2 : Nat) : Int) = (p0 : Int) + 2 by omega] at i2
        rw [← hx3, show ((p0 + 3 : Nat) : Int) = (p0 : Int) + 3 by omega] at i3
        have l2 := by8_lt s (p0 + 2)
        have l3 := by8_lt s (p0 + 3)
        have l2' : (x2 : Int) < 256 := by omega
        have l3' : (x3 : Int) < 256 := by omega
        have HEN := Lib.hid (show extN s p0 = 4 * (x2 * 256 + x3) by
          unfold extN
          rw [show 8 * p0 + 16 = 8 * (p0 + 2) by omega, by_two, ← hx2, ← hx3]
          omega)
        clear hx2 hx3 l2 l3
        go_upto_region 5 with fail
        go_quiet (fail)
        go_upto_region 6 with fail
        obtain ⟨E, hE⟩ : ∃ E : Nat, (p0 : Int) + 4 + 4 * ((x2 : Int) * 256 + (x3 : Int)) = (E : Int) := ⟨p0 + 4 + 4 * (x2 * 256 + x3), by omega⟩
        rw [hE]
        have HEE := Lib.hid (show p0 + 4 + extN s p0 = E by have := HEN.out; omega)
        have hEb : (E : Int) ≤ 1099512000000 := by omega
        have hkn : Kept (fun _ => False) W (W.drewN nq) := (Kept.refl _ W).drewN nq
        have HB1 := Lib.hid ((hkn.block b0 (Array.getElem?_eq_some_iff.1 HB.out).1 id).trans HB.out)
        have HG1 := Lib.hid ((hkn.block g (Array.getElem?_eq_some_iff.1 HG.out).1 id).trans HG.out)
        have HW1 := Lib.hid (below_then HBW.out HBW.out.size (hkn.below (Nat.le_refl _) (fun _ e => e.elim)))
        obtain ⟨V, hV⟩ : ∃ V, V = W.drewN nq := ⟨_, rfl⟩
        rw [← hV] at HB1 HG1 HW1 ⊢
        have HGG := Lib.hid (show w.heap.size ≤ g by have := HEG.out; have := HGW.out; omega)
        have HGB := Lib.hid (show g ≠ b0 by have := HEG.out; omega)
        have hp4 : (p0 : Int) + 4 ≤ Z := by omega
        clear hV hkn hE z0 z1 z2 z3 z4 z5 z6 z7 e0 e1 e2 e3 e4 e5 e6 e7 i0 i1 i2 i3 a b c2 c4 l0' l1' l2' l3'
        go_wp2_with fail
        go_loopw [2] (fun av wx => ∃ (q left f : Nat) (l : List X2) (lx : Value), av = .int .i64 (q : Int) ∧ (q : Int) ≤ Z ∧ q + left = E ∧ left < f ∧ decE s p0 = decX s f q left l ∧ goodTo l l.length = true ∧ wx.heap[b0]? = some (.cells (dcs mb vt vq vi vs (.slice sA sn sc) lx) 26 (0, 0)) ∧ wx.heap[g]? = some (.cells zgs 39 (0, 0)) ∧ RW wx 2 lx l.length (flatX l) ∧ (∀ k, isAt lx k → w.heap.size ≤ k ∧ k ≠ b0 ∧ k ≠ g) ∧ Below w.heap.size w wx) (fun av _ => ((E : Int) - intOf av).toNat)
        case atStart => exact ⟨p0 + 4, extN s p0, extN s p0 + 1, [], .slice none 0 0, by congr 1, by omega, HEE.out, Nat.lt_succ_self _, HD.out, rfl, HB1.out, HG1.out, RW.nil _ _, (by rintro k ⟨o, m, c, e⟩; cases e), HW1.out⟩
        case round =>
          obtain ⟨q, left, f, l, lx, rfl, hqz, hql, hlf, hdec, hgt, hbx, hgx, hrw, hat, hbw⟩ := hrel
          obtain ⟨f', rfl⟩ : ∃ f', f = f' + 1 := ⟨f - 1, by omega⟩
          obtain ⟨n, hn⟩ : ∃ n, n = l.length := ⟨_, rfl⟩
          obtain ⟨lA, lc, rfl⟩ : ∃ lA lc, lx = .slice lA n lc := by rw [hn]; exact hrw.shape
          rename World => X
          have HN := Lib.hid hn
          have HQL := Lib.hid hql
          have HLF := Lib.hid hlf
          have HDX := Lib.hid hdec
          have HGT := Lib.hid hgt
          have HBX := Lib.hid hbx
          have HGX := Lib.hid hgx
          have HRX := Lib.hid hrw
          have HAT := Lib.hid hat
          have HBWX := Lib.hid hbw
          have hn14 : (n : Int) ≤ 14 := by have := goodTo_14 hgt; omega
          clear hn hql hlf hdec hgt hbx hgx hrw hat hbw
          by_cases hqe : (q : Int) < (E : Int)
          · have HL0 := Lib.hid (show ¬ left = 0 by have := HQL.out; omega)
            by_cases hsh : Z ≤ (q : Int)
            · have HDS := Lib.hid (show decE s p0 = .error 60 by rw [HDX.out, decX_short HL0.out (by omega)])
              have hcb := HGX.out
              obtain ⟨z0, z1, z2, z3, z4, z5, z6, z7⟩ := cells8 hcb
              have e0 := frozen_of hcb 0
              have e1 := frozen_of hcb 1
              have e2 := frozen_of hcb 2
              have e3 := frozen_of hcb 3
              have e4 := frozen_of hcb 4
              have e5 := frozen_of hcb 5
              have e6 := frozen_of hcb 6
              have e7 := frozen_of hcb 7
              clear hcb
              go_wp2_with fail
              refine ret_ext (u := .int .i64 60) (stored8 HGX.out) rfl rfl rfl rfl ?_
              exact rext_err HDS.out ((kept_store8 (S := fun k => w.heap.size ≤ k) (Kept.of_below HBWX.out) (.inl HGG.out) _ _ _ _ _ _ _ _).below (Nat.le_refl _) (fun _ h => h))
            · have HSH := Lib.hid (show ¬ s.size ≤ q by omega)
              have i0 := run_byte s q (by omega)
              have hlt := by8_lt s q
              have hid := id_of s q
              have hnn := n_of s q
              obtain ⟨x, hx⟩ : ∃ x, x = by8 s q := ⟨_, rfl⟩
              rw [← hx] at i0 hlt hid hnn
              have hlt' : (x : Int) < 256 := by omega
              have HID := Lib.hid hid
              have HNN := Lib.hid hnn
              have HXB := Lib.hid hx
              clear hx hlt hid hnn
              go_upto_region 10 with fail
              go_quiet (fail)
              go_upto_region 11 with fail
              obtain ⟨ID, hID⟩ : ∃ ID : Int, (x : Int) / 16 = ID := ⟨_, rfl⟩
              obtain ⟨Nn, hNn⟩ : ∃ Nn : Nat, (x : Int) % 16 + 1 = (Nn : Int) := ⟨x % 16 + 1, by omega⟩
              rw [hID, hNn]
              have HI := Lib.hid (show xId s q = ID by rw [HID.out]; omega)
              have HNx := Lib.hid (show xN s q = Nn by rw [HNN.out]; omega)
              have HXI := Lib.hid (show (x : Int) = ID * 16 + ((Nn : Int) - 1) by omega)
              have d1 : 0 ≤ ID := by omega
              have d2 : ID ≤ 15 := by omega
              have d3 : 1 ≤ (Nn : Int) := by omega
              have d4 : (Nn : Int) ≤ 16 := by omega
              have hkn : Kept (fun _ => False) X (X.drewN nq) := (Kept.refl _ X).drewN nq
              have HBV := Lib.hid ((hkn.block b0 (Array.getElem?_eq_some_iff.1 HBX.out).1 id).trans HBX.out)
              have HGV := Lib.hid ((hkn.block g (Array.getElem?_eq_some_iff.1 HGX.out).1 id).trans HGX.out)
              have HRV := Lib.hid (HRX.out.kept hkn (fun _ _ => id))
              have HWV := Lib.hid (below_then HBWX.out HBWX.out.size (hkn.below (Nat.le_refl _) (fun _ e => e.elim)))
              obtain ⟨V2, hV2⟩ : ∃ V2, V2 = X.drewN nq := ⟨_, rfl⟩
              rw [← hV2] at HBV HGV HRV HWV ⊢
              clear hV2 hkn hID hNn hlt'
              by_cases hx0 : (x : Int) = 0
              · have hpd : ID = 0 ∧ Nn = 1 := by have := HXI.out; omega
                have HPD := Lib.hid (decX_pad (f := f') (l := l) HL0.out HSH.out ⟨by rw [HI.out]; exact hpd.1, by rw [HNx.out]; exact hpd.2⟩)
                clear hpd
                rw [hx0] at i0
                go_wp2_with fail
                go_roundw
                case rel =>
                  refine ⟨q + 1, left - 1, f', l, .slice lA n lc, by go_num, by have := HSH.out; omega, by have := HQL.out; have := HL0.out; omega, by have := HLF.out; have := HL0.out; omega, by rw [HDX.out, HPD.out], HGT.out, HBV.out, HGV.out, HRV.out, HAT.out, HWV.out⟩
                case measure => simp [intOf]; omega
              · have hx0' : ((x : Int) == 0) = false := by rw [beq_eq_false_iff_ne]; exact hx0
                have HNP := Lib.hid (show ¬ (xId s q = 0 ∧ xN s q = 1) by rw [HI.out, HNx.out]; have := HXI.out; omega)
                have t6 : V2.cell? ⟨b0, 6, none⟩ = some (.slice lA n lc) := (cells7 HBV.out).2.2.2.2.2.2
                clear hx0
                have hbad : ID = 0 ∨ (¬ ID = 0 ∧ ID = 15) ∨ (¬ ID = 0 ∧ ¬ ID = 15 ∧ (n : Int) = 14) ∨ (¬ ID = 0 ∧ ¬ ID = 15 ∧ ¬ (n : Int) = 14 ∧ (E : Int) - (q : Int) - 1 < (Nn : Int)) ∨ (¬ ID = 0 ∧ ¬ ID = 15 ∧ ¬ (n : Int) = 14 ∧ ¬ (E : Int) - (q : Int) - 1 < (Nn : Int)) := by omega
                have HBAD := Lib.hid (show (ID = 0 ∨ ID = 15 ∨ hasId l ID = true ∨ left - 1 < Nn) → decE s p0 = .error 71 from fun hb => by
                  rw [HDX.out, decX_bad HL0.out HSH.out HNP.out (by rw [HI.out, HNx.out]; exact hb)])
                rcases hbad with b | ⟨b, b2⟩ | ⟨b, b2, b3⟩ | ⟨b, b2, b3, b4⟩ | ⟨b, b2, b3, b4⟩
                · have HDB := Lib.hid (HBAD.out (.inl b))
                  subst b
                  have hcb := HGV.out
                  obtain ⟨z0, z1, z2, z3, z4, z5, z6, z7⟩ := cells8 hcb
                  have e0 := frozen_of hcb 0
                  have e1 := frozen_of hcb 1
                  have e2 := frozen_of hcb 2
                  have e3 := frozen_of hcb 3
                  have e4 := frozen_of hcb 4
                  have e5 := frozen_of hcb 5
                  have e6 := frozen_of hcb 6
                  have e7 := frozen_of hcb 7
                  clear hcb
                  go_wp2_with fail
                  refine ret_ext (u := .int .i64 71) (stored8 HGV.out) rfl rfl rfl rfl ?_
                  exact rext_err HDB.out ((kept_store8 (S := fun k => w.heap.size ≤ k) (Kept.of_below HWV.out) (.inl HGG.out) _ _ _ _ _ _ _ _).below (Nat.le_refl _) (fun _ h => h))
                · have HDB := Lib.hid (HBAD.out (.inr (.inl b2)))
                  subst b2
                  have hcb := HGV.out
                  obtain ⟨z0, z1, z2, z3, z4, z5, z6, z7⟩ := cells8 hcb
                  have e0 := frozen_of hcb 0
                  have e1 := frozen_of hcb 1
                  have e2 := frozen_of hcb 2
                  have e3 := frozen_of hcb 3
                  have e4 := frozen_of hcb 4
                  have e5 := frozen_of hcb 5
                  have e6 := frozen_of hcb 6
                  have e7 := frozen_of hcb 7
                  clear hcb
                  go_wp2_with fail
                  refine ret_ext (u := .int .i64 71) (stored8 HGV.out) rfl rfl rfl rfl ?_
                  exact rext_err HDB.out ((kept_store8 (S := fun k => w.heap.size ≤ k) (Kept.of_below HWV.out) (.inl HGG.out) _ _ _ _ _ _ _ _).below (Nat.le_refl _) (fun _ h => h))
                · have HDB := Lib.hid (HBAD.out (.inr (.inr (.inl (hit_14 HGT.out (by have := HN.out; omega) (by omega) (by omega))))))
                  have b' : (ID == 0) = false := by rw [beq_eq_false_iff_ne]; exact b
                  have b2' : (ID == 15) = false := by rw [beq_eq_false_iff_ne]; exact b2
                  have b3' : ((n : Int) == 14) = true := by rw [beq_iff_eq]; exact b3
                  have hcb := HGV.out
                  obtain ⟨z0, z1, z2, z3, z4, z5, z6, z7⟩ := cells8 hcb
                  have e0 := frozen_of hcb 0
                  have e1 := frozen_of hcb 1
                  have e2 := frozen_of hcb 2
                  have e3 := frozen_of hcb 3
                  have e4 := frozen_of hcb 4
                  have e5 := frozen_of hcb 5
                  have e6 := frozen_of hcb 6
                  have e7 := frozen_of hcb 7
                  clear hcb
                  go_wp2_with fail
                  refine ret_ext (u := .int .i64 71) (stored8 HGV.out) rfl rfl rfl rfl ?_
                  exact rext_err HDB.out ((kept_store8 (S := fun k => w.heap.size ≤ k) (Kept.of_below HWV.out) (.inl HGG.out) _ _ _ _ _ _ _ _).below (Nat.le_refl _) (fun _ h => h))
                · have HDB := Lib.hid (HBAD.out (.inr (.inr (.inr (by have := HQL.out; have := HL0.out; omega)))))
                  have b' : (ID == 0) = false := by rw [beq_eq_false_iff_ne]; exact b
                  have b2' : (ID == 15) = false := by rw [beq_eq_false_iff_ne]; exact b2
                  have b3' : ((n : Int) == 14) = false := by rw [beq_eq_false_iff_ne]; exact b3
                  have hcb := HGV.out
                  obtain ⟨z0, z1, z2, z3, z4, z5, z6, z7⟩ := cells8 hcb
                  have e0 := frozen_of hcb 0
                  have e1 := frozen_of hcb 1
                  have e2 := frozen_of hcb 2
                  have e3 := frozen_of hcb 3
                  have e4 := frozen_of hcb 4
                  have e5 := frozen_of hcb 5
                  have e6 := frozen_of hcb 6
                  have e7 := frozen_of hcb 7
                  clear hcb
                  go_wp2_with fail
                  refine ret_ext (u := .int .i64 71) (stored8 HGV.out) rfl rfl rfl rfl ?_
                  exact rext_err HDB.out ((kept_store8 (S := fun k => w.heap.size ≤ k) (Kept.of_below HWV.out) (.inl HGG.out) _ _ _ _ _ _ _ _).below (Nat.le_refl _) (fun _ h => h))
                · have b' : (ID == 0) = false := by rw [beq_eq_false_iff_ne]; exact b
                  have b2' : (ID == 15) = false := by rw [beq_eq_false_iff_ne]; exact b2
                  have b3' : ((n : Int) == 14) = false := by rw [beq_eq_false_iff_ne]; exact b3
                  have HBB := Lib.hid (And.intro b (And.intro b2 b4))
                  clear b b2 b3
                  go_wp2_with fail
                  go_loopw [11] (fun jv wx => ∃ j : Nat, (j : Int) ≤ (n : Int) ∧ jv = .int .i64 (j : Int) ∧ hasId (l.take j) ID = false ∧ wx = V2) (fun jv _ => ((n : Int) - intOf jv).toNat)
                  case atStart => exact ⟨0, by omega, rfl, rfl, rfl⟩
                  case round =>
                    obtain ⟨j, hj, rfl, hh, rfl⟩ := hrel
                    have HH := Lib.hid hh
                    clear hh
                    by_cases hjl : (j : Int) < (n : Int)
                    · have hrd : Rd wr 2 lA n (flatX l) := by
                        have h := HRV.out
                        rw [← HN.out] at h
                        exact h.rd
                      obtain ⟨g', off', x', e', hg', hx', hxm', y0', y1'⟩ := ext_at hrd (k := j) (by omega)
                      clear hrd
                      subst e'
                      obtain ⟨id', dt'⟩ := x'
                      simp only at y0' y1'
                      have HX' := Lib.hid hx'
                      clear hx' hxm' y1'
                      by_cases hii : id' = ID
                      · subst hii
                        have HDB := Lib.hid (HBAD.out (.inr (.inr (.inl (by have h := hasId_hit HX'.out rfl (i := l.length) (by have := HN.out; omega); rwa [List.take_length] at h)))))
                        have hcb := HGV.out
                        obtain ⟨z0, z1, z2, z3, z4, z5, z6, z7⟩ := cells8 hcb
                        have e0 := frozen_of hcb 0
                        have e1 := frozen_of hcb 1
                        have e2 := frozen_of hcb 2
                        have e3 := frozen_of hcb 3
                        have e4 := frozen_of hcb 4
                        have e5 := frozen_of hcb 5
                        have e6 := frozen_of hcb 6
                        have e7 := frozen_of hcb 7
                        clear hcb
                        go_wp2_with fail
                        refine ret_ext (u := .int .i64 71) (stored8 HGV.out) rfl rfl rfl rfl ?_
                        exact rext_err HDB.out ((kept_store8 (S := fun k => w.heap.size ≤ k) (Kept.of_below HWV.out) (.inl HGG.out) _ _ _ _ _ _ _ _).below (Nat.le_refl _) (fun _ h => h))
                      · have hii' : (id' == ID) = false := by rw [beq_eq_false_iff_ne]; exact hii
                        have HJ := Lib.hid (hasId_take (i := n) HX'.out HH.out hii (by omega))
                        clear hii
                        go_wp2_with fail
                        go_roundw
                        case rel => exact ⟨j + 1, by omega, by go_num, HJ.out, trivial⟩
                        case measure => exact measN n j hjl
                    · have HNH := Lib.hid (show hasId l ID = false by have h := HH.out; rwa [show j = l.length by have := HN.out; omega, List.take_length] at h)
                      have HNB := Lib.hid (show ¬ (xId s q = 0 ∨ xId s q = 15 ∨ hasId l (xId s q) = true ∨ left - 1 < xN s q) by
                        rw [HI.out, HNx.out, HNH.out]
                        have := HBB.out
                        have := HQL.out
                        have := HL0.out
                        intro e
                        rcases e with e | e | e | e
                        · exact HBB.out.1 e
                        · exact HBB.out.2.1 e
                        · cases e
                        · omega)
                      by_cases hlk : Z < (q : Int) + 1 + (Nn : Int)
                      · have HDB := Lib.hid (show decE s p0 = .error 60 by rw [HDX.out, decX_lack HL0.out HSH.out HNP.out HNB.out (by rw [HNx.out]; omega)])
                        have hcb := HGV.out
                        obtain ⟨z0, z1, z2, z3, z4, z5, z6, z7⟩ := cells8 hcb
                        have e0 := frozen_of hcb 0
                        have e1 := frozen_of hcb 1
                        have e2 := frozen_of hcb 2
                        have e3 := frozen_of hcb 3
                        have e4 := frozen_of hcb 4
                        have e5 := frozen_of hcb 5
                        have e6 := frozen_of hcb 6
                        have e7 := frozen_of hcb 7
                        clear hcb
                        go_wp2_with fail
                        refine ret_ext (u := .int .i64 60) (stored8 HGV.out) rfl rfl rfl rfl ?_
                        exact rext_err HDB.out ((kept_store8 (S := fun k => w.heap.size ≤ k) (Kept.of_below HWV.out) (.inl HGG.out) _ _ _ _ _ _ _ _).below (Nat.le_refl _) (fun _ h => h))
                      · have HNX := Lib.hid (decX_next (f := f') (l := l) HL0.out HSH.out HNP.out HNB.out (by rw [HNx.out]; omega))
                        obtain ⟨D, hD⟩ : ∃ D, D = sub s (q + 1) Nn := ⟨_, rfl⟩
                        have HDD := Lib.hid hD
                        have hsl : ∀ wx, (Instr.slice 9 (.string s) (some (.int .i64 (IntKind.i64.wrap ((q : Int) + 1)))) (some (.int .i64 (IntKind.i64.wrap (IntKind.i64.wrap ((q : Int) + 1) + (Nn : Int))))) none).run Try.prog wx = .ok (.string D) wx := fun wx => by
                          rw [IntWalk.i64_in ((q : Int) + 1) (by omega), IntWalk.i64_in ((q : Int) + 1 + (Nn : Int)) (by omega), run_slice_string wx 9 s .i64 .i64 _ _ Try.underlying9 (by omega) (by omega) (by omega), hD]
                          unfold sub
                          congr 3 <;> omega
                        have HNQ := Lib.hid (show ¬ isAt (.slice lA n lc) b0 from fun e => (HAT.out b0 e).2.1 rfl)
                        have HRK := Lib.hid (show RW (wr.alloc (.cells #[.int .i64 ID, .string D] 47)).drew 2 (.slice lA n lc) n (flatX l) from by have h := HRV.out.kept ((Kept.refl (fun _ => False) wr).alloc (.cells #[.int .i64 ID, .string D] 47)).drew (fun _ _ => id); rw [← HN.out] at h; exact h)
                        have HRD := Lib.hid ((rd_blk2 wr 47 (.int .i64 ID) (.string D)).kept (Kept.refl (fun _ => False) _).drew (fun _ _ _ => id))
                        clear hD
                        go_upto_region 22 with fail
                        have HS : wr.drew.cell? ⟨b0, 6, none⟩ = some (.slice lA n lc) := (cells7 HBV.out).2.2.2.2.2.2
                        refine Tail.start 15 (fun w' => w'.cell? ⟨b0, 6, none⟩ = some (.slice lA n lc)) (by kernel_rfl) ?_
                        refine Tail.take 0 rfl (by kernel_rfl) (fun _ _ _ h => h) (by rfl) HS (fun w hSw => by (try dsimp only at hSw); go_simp; (try with_reducible rfl)) ?_
                        try simp only [Act.put, List.setIfInBounds_toArray, List.set_cons_zero, List.set_cons_succ]
                        refine Tail.take 1 rfl (by kernel_rfl) (fun _ _ _ h => h) (by rfl) HS (fun w hSw => by (try dsimp only at hSw); go_simp; (try with_reducible rfl)) ?_
                        try simp only [Act.put, List.setIfInBounds_toArray, List.set_cons_zero, List.set_cons_succ]
                        refine Tail.take 2 rfl (by kernel_rfl) (fun _ _ _ h => h) (by rfl) HS (fun w hSw => by (try dsimp only at hSw); go_simp; (try with_reducible rfl)) ?_
                        try simp only [Act.put, List.setIfInBounds_toArray, List.set_cons_zero, List.set_cons_succ]
                        refine Tail.take 3 rfl (by kernel_rfl) (fun _ _ _ h => h) (by rfl) HS (fun w hSw => by (try dsimp only at hSw); go_simp; (try with_reducible rfl)) ?_
                        try simp only [Act.put, List.setIfInBounds_toArray, List.set_cons_zero, List.set_cons_succ]
                        refine Tail.take 4 rfl (by kernel_rfl) (fun _ _ _ h => h) (by rfl) HS (fun w hSw => by (try dsimp only at hSw); go_simp; (try with_reducible rfl)) ?_
                        try simp only [Act.put, List.setIfInBounds_toArray, List.set_cons_zero, List.set_cons_succ]
                        refine Tail.take 5 rfl (by kernel_rfl) (fun _ _ _ h => h) (by rfl) HS (fun w hSw => by (try dsimp only at hSw); go_simp; (try with_reducible rfl)) ?_
                        try simp only [Act.put, List.setIfInBounds_toArray, List.set_cons_zero, List.set_cons_succ]
                        refine Tail.take 6 rfl (by kernel_rfl) (fun _ _ _ h => h) (by rfl) HS (fun w hSw => by (try dsimp only at hSw); go_simp; (try with_reducible rfl)) ?_
                        try simp only [Act.put, List.setIfInBounds_toArray, List.set_cons_zero, List.set_cons_succ]
                        refine Tail.take 7 rfl (by kernel_rfl) (fun _ _ _ h => h) (by rfl) HS (fun w hSw => by (try dsimp only at hSw); go_simp; (try with_reducible rfl)) ?_
                        try simp only [Act.put, List.setIfInBounds_toArray, List.set_cons_zero, List.set_cons_succ]
                        refine Tail.take 8 rfl (by kernel_rfl) (fun _ _ _ h => h) (by rfl) HS (fun w hSw => by (try dsimp only at hSw); go_simp; (try with_reducible rfl)) ?_
                        try simp only [Act.put, List.setIfInBounds_toArray, List.set_cons_zero, List.set_cons_succ]
                        refine Tail.take 9 rfl (by kernel_rfl) (fun _ _ _ h => h) (by rfl) HS (fun w hSw => by (try dsimp only at hSw); go_simp; (try with_reducible rfl)) ?_
                        try simp only [Act.put, List.setIfInBounds_toArray, List.set_cons_zero, List.set_cons_succ]
                        refine Tail.take 10 rfl (by kernel_rfl) (fun _ _ _ h => h) (by rfl) HS (fun w hSw => by (try dsimp only at hSw); go_simp; (try with_reducible rfl)) ?_
                        try simp only [Act.put, List.setIfInBounds_toArray, List.set_cons_zero, List.set_cons_succ]
                        refine Tail.take 11 rfl (by kernel_rfl) (fun _ _ _ h => h) (by rfl) HS (fun w hSw => by (try dsimp only at hSw); go_simp; (try with_reducible rfl)) ?_
                        try simp only [Act.put, List.setIfInBounds_toArray, List.set_cons_zero, List.set_cons_succ]
                        -- 12: eff buildSlice
                        refine Tail.one 12 rfl (by kernel_rfl) (fun K hK => ?_)
                        go_simp
                        have HS : (wr.alloc (.cells #[.int .i64 ID, .string D] 47)).drew.cell? ⟨b0, 6, none⟩ = some (.slice lA n lc) := ck (show Kept (fun _ => False) wr (wr.alloc (.cells #[.int .i64 ID, .string D] 47)).drew from ((Kept.refl (fun _ => False) wr).alloc _).drew) HS id
                        refine hK.out _ _ HS ?_
                        clear hK K
                        try simp only [Act.put, List.setIfInBounds_toArray, List.set_cons_zero, List.set_cons_succ]
                        -- 13: call call { callee := Callee.builtin Builtin.append, args := #[Operand.tmp 126, Operand.tmp 137
                        refine Tail.one 13 rfl (by kernel_rfl) (fun K hK => ?_)
                        refine step_row rfl (.tmp 126) (.tmp 137) 24 rfl 47 (.agg #[.int .i64 0, .string ByteArray.empty]) 2 24 Try.underlying24 info_ext rfl (by omega) (.slice lA n lc) n (flatX l) rfl HRK.out _ _ (flatX [(ID, D)]) rfl HRD.out (flatX_one _) (by omega) ?_
                        intro v5 w5 hr5 hk5 hn5
                        obtain ⟨A5, c5, rfl⟩ := hr5.shape
                        have HS : w5.cell? ⟨b0, 6, none⟩ = some (.slice lA n lc) := ck hk5 HS HNQ.out
                        have HR5 := Lib.hid hr5
                        have HN5 := Lib.hid hn5
                        have HK5 := Lib.hid (show Kept (isAt (.slice lA n lc)) wr w5 from Kept.trans (S := isAt (.slice lA n lc)) ((Kept.refl (isAt (.slice lA n lc)) wr).alloc _).drew hk5 (fun _ _ h => h))
                        clear hr5 hk5 hn5
                        refine hK.out _ _ HS ?_
                        clear hK K
                        try simp only [Act.put, List.setIfInBounds_toArray, List.set_cons_zero, List.set_cons_succ]
                        refine Tail.take 14 rfl (by kernel_rfl) (fun _ _ _ h => h) (by rfl) HS (fun w hSw => by (try dsimp only at hSw); go_simp; (try with_reducible rfl)) ?_
                        try simp only [Act.put, List.setIfInBounds_toArray, List.set_cons_zero, List.set_cons_succ]
                        refine Tail.tail 15 rfl (by kernel_rfl) ?_
                        simp only [List.drop_succ_cons, List.drop_zero]
                        clear HS
                        simp only [List.getElem_toArray, List.getElem_cons_succ, List.getElem_cons_zero, List.setIfInBounds_toArray, List.set_cons_zero, List.set_cons_succ]
                        have HB5 := Lib.hid ((HK5.out.block b0 (Array.getElem?_eq_some_iff.1 HBV.out).1 HNQ.out).trans HBV.out)
                        have HG5 := Lib.hid ((HK5.out.block g (Array.getElem?_eq_some_iff.1 HGV.out).1 (fun e => (HAT.out g e).2.2 rfl)).trans HGV.out)
                        have y6 := (cells7 HB5.out).2.2.2.2.2.2
                        have f6 := frozen_of HB5.out 6
                        have HLK := Lib.hid hlk
                        clear hlk hsl
                        go_wp2_with fail
                        obtain ⟨w6, hw6⟩ : ∃ w6, w6 = w5.setCell ⟨b0, 6, none⟩ (.slice A5 (n + 1) c5) := ⟨_, rfl⟩
                        rw [← hw6]
                        have HK6 := Lib.hid (show Kept (fun k => k = b0) w5 w6 by rw [hw6]; exact (Kept.refl (fun k => k = b0) w5).setCell (p := ⟨b0, 6, none⟩) (.inl rfl) _)
                        have HB6 := Lib.hid (show w6.heap[b0]? = some (.cells (dcs mb vt vq vi vs (.slice sA sn sc) (.slice A5 (n + 1) c5)) 26 (0, 0)) by rw [hw6]; simp [World.setCell, Array.getElem?_modify, HB5.out])
                        clear hw6 y6 f6
                        go_wp2_with fail
                        go_roundw
                        case rel =>
                          have hat5 : ∀ k, isAt (.slice A5 (n + 1) c5) k → w.heap.size ≤ k ∧ k ≠ b0 ∧ k ≠ g := fun k hk => by
                            rcases HN5.out k hk with h | h
                            · exact HAT.out k h
                            · have h3 : (wr.alloc (.cells #[.int .i64 ID, .string D] 47)).drew.heap.size = wr.heap.size + 1 := by simp
                              have h1 := (Array.getElem?_eq_some_iff.1 HBV.out).1
                              have h2 := (Array.getElem?_eq_some_iff.1 HGV.out).1
                              have h4 := HGG.out
                              rw [h3] at h
                              omega
                          refine ⟨q + 1 + Nn, left - 1 - Nn, f', l ++ [(ID, D)], .slice A5 (n + 1) c5, by congr 1; omega, by have := HLK.out; omega, by have := HQL.out; have := HBB.out; omega, by have := HLF.out; have := HQL.out; have := HBB.out; omega, ?_, ?_, HB6.out, ?_, ?_, hat5, ?_⟩
                          · rw [HDX.out, HNX.out, HI.out, HNx.out, HDD.out]
                          · rw [List.length_append, List.length_singleton]
                            exact goodTo_push HGT.out (goodX_mk (by have := HBB.out; omega) (by have := HBB.out; omega) (by show 1 ≤ D.size; rw [HDD.out, sub_size (by have := HLK.out; omega)]; omega) (by show D.size ≤ 16; rw [HDD.out, sub_size (by have := HLK.out; omega)]; omega)) HNH.out
                          · exact (HK6.out.block g (Array.getElem?_eq_some_iff.1 HG5.out).1 HGB.out).trans HG5.out
                          · have h := HR5.out.kept HK6.out (fun k hk e => (hat5 k hk).2.1 e)
                            rw [← flatX_append] at h
                            rw [List.length_append, List.length_singleton, ← HN.out]
                            exact h
                          · exact (Kept.trans (S := fun k => w.heap.size ≤ k) (Kept.trans (S := fun k => w.heap.size ≤ k) (Kept.of_below HWV.out) HK5.out (fun k _ h => (HAT.out k h).1)) HK6.out (fun k _ e => by have := HGW.out; omega)).below (Nat.le_refl _) (fun _ h => h)
                        case measure => simp [intOf]; omega
          · have hqE : q = E := by have := HQL.out; omega
            have hl0 : left = 0 := by have := HQL.out; omega
            have HDE := Lib.hid (show decE s p0 = .ok (l, E) by rw [HDX.out, hl0, decX_end, hqE])
            obtain ⟨y0, y1, y2, y3, y4, y5, y6⟩ := cells7 HBX.out
            have hcb := HGX.out
            obtain ⟨z0, z1, z2, z3, z4, z5, z6, z7⟩ := cells8 hcb
            have e0 := frozen_of hcb 0
            have e1 := frozen_of hcb 1
            have e2 := frozen_of hcb 2
            have e3 := frozen_of hcb 3
            have e4 := frozen_of hcb 4
            have e5 := frozen_of hcb 5
            have e6 := frozen_of hcb 6
            have e7 := frozen_of hcb 7
            clear hcb
            go_wp2_with fail
            refine ret_ext (u := .int .i64 0) (stored8 HGX.out) rfl rfl rfl rfl ?_
            unfold RExtPost
            rw [HDE.out]
            have hks := kept_store8 (S := fun k => k = g) (Kept.refl _ X) (.inl rfl) (.bool mb) (.int .i64 vt) (.int .i64 vq) (.int .u32 vi) (.int .u32 vs) (.slice sA sn sc) (.slice lA n lc) (.int .i64 (E : Int))
            refine ⟨lA, lc, ?_, ?_, ?_, ?_⟩
            · rw [← HN.out]
            · have h1 := HRX.out.kept hks (fun k hk e => (HAT.out k hk).2.2 e)
              rw [← HN.out] at h1 ⊢
              exact h1
            · intro k hk
              rw [← HN.out] at hk
              exact (HAT.out k hk).1
            · exact (Kept.trans (S := fun k => w.heap.size ≤ k) (Kept.of_below HBWX.out) hks (fun k _ e => by have := HGG.out; omega)).below (Nat.le_refl _) (fun _ h => h)
end Go.Proofs.Ytccljgohekmjkaa.Rtp
