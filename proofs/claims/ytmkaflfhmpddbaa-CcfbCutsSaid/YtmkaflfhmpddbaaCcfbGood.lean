/- What Good tells: the program's and the document's; no condition but the ranges in each. -/
import Derived.Test.YtmkaflfhmpddbaaCcfbRep
namespace Go.Proofs.Ytmkaflfhmpddbaa.Ccfb
open Go.RowKit Go.Proofs.Ytmkaflfhmpddbaa.Plain Go.Proofs.Ytmkaflfhmpddbaa.Heap Go.Proofs.Ytmkaflfhmpddbaa.Open Go.Proofs.Ytmkaflfhmpddbaa.Rows Go.Proofs.Ytmkaflfhmpddbaa.Bits

theorem cells3 {w : World} {b : Nat} {x y z : Value} {t : TypeId} (h : w.heap[b]? = some (.cells #[x, y, z] t (0, 0))) : w.cell? ⟨b, 0, none⟩ = some x ∧ w.cell? ⟨b, 1, none⟩ = some y ∧ w.cell? ⟨b, 2, none⟩ = some z :=
  ⟨by simp [World.cell?, h], by simp [World.cell?, h], by simp [World.cell?, h]⟩
theorem measN (n k : Nat) (h : (k : Int) < (n : Int)) : ((n : Int) - (intOf (.int .i64 ((k : Int) + 1)))).toNat < ((n : Int) - intOf (.int .i64 (k : Int))).toNat := by simp [intOf]; omega
set_option maxRecDepth 10000 in
set_option maxHeartbeats 4000000 in
theorem good_any (v : Value) (r : Rep) (w : World) (h : CR w v r) :
    Calls Try.prog 13 #[v] w fun e w' => e = .returned (.bool (goodC r)) ∧ Below w.heap.size w w' := by
  obtain ⟨A, c, rfl, hbl⟩ := h
  obtain ⟨sn, bs, st⟩ := r
  have hlen := hbl.1
  simp only at hbl hlen
  obtain ⟨n, hn⟩ : ∃ n, n = bs.length := ⟨_, rfl⟩
  simp only [← hn] at hbl
  have HB := Lib.hid hbl
  have HN := Lib.hid hn
  simp only [← hn]
  clear hbl hlen hn
  by_cases hm : 16 < (n : Int)
  · have e : goodC (sn, bs, st) = false := by
      unfold goodC
      rw [decide_eq_false (by have := HN.out; show ¬ bs.length ≤ 16; omega)]
      rfl
    rw [e]
    go_enter Try.func13, Try.ntmps13
    go_wp2_with fail
    go_ret
    exact ⟨rfl, (Below.refl _ w).alloc (Nat.le_refl _) _⟩
  · have e : goodC (sn, bs, st) = bs.all goodB := by
      unfold goodC
      rw [decide_eq_true (by have := HN.out; show bs.length ≤ 16; omega)]
      rfl
    rw [e]
    clear e
    go_enter Try.func13, Try.ntmps13
    go_wp2_with fail
    have hbw : Below w.heap.size w (w.alloc (.cells #[.int .u32 sn, .slice A n c, .int .u32 st] 25)) := (Below.refl _ w).alloc (Nat.le_refl _) _
    have HW0 := Lib.hid hbw
    clear hbw
    go_loopw [14] (fun iv wx => ∃ i : Nat, (i : Int) ≤ (n : Int) ∧ iv = .int .i64 (i : Int) ∧ (bs.take i).all goodB = true ∧ w.heap.size ≤ wx.heap.size ∧ Below w.heap.size w wx) (fun iv _ => ((n : Int) - intOf iv).toNat)
    case atStart => exact ⟨0, by omega, rfl, rfl, HW0.out.size, HW0.out⟩
    case round =>
      obtain ⟨i, hi, rfl, hall, hsz, hbw⟩ := hrel
      have HA := Lib.hid hall
      have HW := Lib.hid hbw
      clear hall hbw HW0
      by_cases hil : (i : Int) < (n : Int)
      · obtain ⟨g, off, x, rfl, hg, hx, hxm, y0, y1, MA, mc, y2, hrd⟩ := (HB.out.below HW.out).at (i := i) (by omega)
        obtain ⟨ss, fi, ms⟩ := x
        simp only at y0 y1 y2 hrd
        obtain ⟨m, hm2⟩ : ∃ m, m = ms.length := ⟨_, rfl⟩
        rw [← hm2] at y2
        have HM := Lib.hid hm2
        have HX := Lib.hid hx
        have HXM := Lib.hid hxm
        have HRD := Lib.hid hrd
        clear hm2 hx hxm hrd
        go_upto_region 6 with fail
        obtain ⟨q, hq⟩ : ∃ q, q = wr.heap.size := ⟨_, rfl⟩
        rw [← hq]
        generalize hW : World.alloc wr _ = W
        have hwW : Below wr.heap.size wr W := by rw [← hW]; exact (Below.refl _ wr).alloc (Nat.le_refl _) _
        have hqc : W.heap[q]? = some (.cells #[.int .u32 ss, .int .i64 fi, .slice MA m mc] 44 (0, 0)) := by rw [← hW, hq]; exact heap_alloc_new wr _
        obtain ⟨z0, z1, z2⟩ := cells3 hqc
        have HRW := Lib.hid (HRD.out.below hwW)
        have hszW : w.heap.size ≤ W.heap.size := Nat.le_trans hsz hwW.size
        have HWb := Lib.hid (below_then HW.out hsz hwW)
        clear hW hwW hqc hq y0 y1 y2
        by_cases hb : fi < 0 ∨ 65535 < fi ∨ 4096 < (m : Int)
        · have hno : bs.all goodB = false := all_no HXM.out (by
            unfold goodB
            have h1 := HM.out
            simp
            omega)
          have hb' : fi < 0 ∨ (¬ fi < 0 ∧ 65535 < fi) ∨ (¬ fi < 0 ∧ ¬ 65535 < fi ∧ 4096 < (m : Int)) := by omega
          have HNO := Lib.hid hno
          clear hb hno
          rcases hb' with hb | ⟨hb, hb2⟩ | ⟨hb, hb2, hb3⟩
          all_goals
            go_wp2_with fail
            go_ret
            exact ⟨ret_bool HNO.out.symm, HWb.out⟩
        · have f0 : ¬ fi < 0 := by omega
          have f1 : ¬ 65535 < fi := by omega
          have f2 : ¬ 4096 < (m : Int) := by omega
          clear hb
          go_wp2_with fail
          go_loopw [35] (fun kv wy => ∃ k : Nat, (k : Int) ≤ (m : Int) ∧ kv = .int .i64 (k : Int) ∧ (ms.take k).all goodM = true ∧ w.heap.size ≤ wy.heap.size ∧ Below W.heap.size W wy) (fun kv _ => ((m : Int) - intOf kv).toNat)
          case atStart => exact ⟨0, by omega, rfl, rfl, HWb.out.size, Below.refl _ _⟩
          case round =>
            obtain ⟨k, hk, rfl, hall, hsz2, hbw⟩ := hrel
            have HAk := Lib.hid hall
            have HY := Lib.hid hbw
            have HYw := Lib.hid (below_then HWb.out hszW hbw)
            clear hall hbw
            by_cases hkl : (k : Int) < (m : Int)
            · obtain ⟨g2, off2, y, rfl, hg2, hy, hym, x0, x1, x2⟩ := met_at (HRW.out.below HY.out) (k := k) (by have := HM.out; omega)
              have HYX := Lib.hid hy
              have HYM := Lib.hid hym
              obtain ⟨gt, ec, ag⟩ := y
              simp only at x0 x1 x2
              clear hy hym
              go_upto_region 11 with fail
              obtain ⟨q2, hq2⟩ : ∃ q2, q2 = wr.heap.size := ⟨_, rfl⟩
              rw [← hq2]
              generalize hV : World.alloc wr _ = V
              have hwV : Below wr.heap.size wr V := by rw [← hV]; exact (Below.refl _ wr).alloc (Nat.le_refl _) _
              have hqv : V.heap[q2]? = some (.cells #[.bool gt, .int .i64 ec, .int .i64 ag] 47 (0, 0)) := by rw [← hV, hq2]; exact heap_alloc_new wr _
              obtain ⟨v0, v1, v2⟩ := cells3 hqv
              have HVw := Lib.hid (below_then HYw.out hsz2 hwV)
              have HVW := Lib.hid (below_then HY.out HY.out.size hwV)
              have hszV := Nat.le_trans hsz2 hwV.size
              clear hV hwV hqv hq2 x0 x1 x2
              cases hgm : goodM (gt, ec, ag) with
              | false =>
                have HNO := Lib.hid (show bs.all goodB = false from all_no HXM.out (by
                  have h1 := all_no HYM.out hgm
                  unfold goodB
                  simp only [h1, Bool.and_false]))
                have hno := goodM_no hgm
                simp only at hno
                clear hgm
                rcases hno with h1 | ⟨h1, h2⟩ | ⟨h1, h2, h3⟩ | ⟨h1, h2, h3, h4⟩ | ⟨h1, h2, h3, h4, rfl, h6⟩ | ⟨rfl, h3, h4, rfl, h6⟩
                all_goals
                  go_wp2_with fail
                  go_ret
                  exact ⟨ret_bool HNO.out.symm, HVw.out⟩
              | true =>
                have HGM := Lib.hid hgm
                obtain ⟨h1, h2, h3, h4, h5⟩ := goodM_yes hgm
                simp only at h1 h2 h3 h4 h5
                clear hgm
                rcases h5 with rfl | ⟨rfl, rfl, rfl⟩
                all_goals
                  go_wp2_with fail
                  go_roundw
                  case rel => exact ⟨k + 1, by omega, by go_num, all_take HYX.out HAk.out HGM.out, hszV, HVW.out⟩
                  case measure => exact measN m k hkl
            · have hkm : k = m := by omega
              have HBG := Lib.hid (show goodB (ss, fi, ms) = true by
                have e : ms.take k = ms := by rw [hkm, HM.out]; exact List.take_length
                have h1 := HAk.out
                rw [e] at h1
                have h2 := HM.out
                unfold goodB
                simp only [h1, Bool.and_true]
                simp
                omega)
              go_wp2_with fail
              go_roundw
              case rel => exact ⟨i + 1, by omega, by go_num, all_take HX.out HA.out HBG.out, hsz2, HYw.out⟩
              case measure => exact measN n i hil
      · have hin : i = n := by omega
        go_wp2_with fail
        go_ret
        have e : bs.take i = bs := by rw [hin, HN.out]; exact List.take_length
        have h1 := HA.out
        rw [e] at h1
        exact ⟨ret_bool h1.symm, HW.out⟩
set_option maxRecDepth 10000 in
set_option maxHeartbeats 4000000 in
theorem rgood_any (v : Value) (r : Rep) (w : World) (h : CR w v r) :
    Calls Try.prog 14 #[v] w fun e w' => e = .returned (.bool (goodC r)) ∧ Below w.heap.size w w' := by
  obtain ⟨A, c, rfl, hbl⟩ := h
  obtain ⟨sn, bs, st⟩ := r
  have hlen := hbl.1
  simp only at hbl hlen
  obtain ⟨n, hn⟩ : ∃ n, n = bs.length := ⟨_, rfl⟩
  simp only [← hn] at hbl
  have HB := Lib.hid hbl
  have HN := Lib.hid hn
  simp only [← hn]
  clear hbl hlen hn
  by_cases hm : 16 < (n : Int)
  · have e : goodC (sn, bs, st) = false := by
      unfold goodC
      rw [decide_eq_false (by have := HN.out; show ¬ bs.length ≤ 16; omega)]
      rfl
    rw [e]
    go_enter Try.func14, Try.ntmps14
    go_wp2_with fail
    go_ret
    exact ⟨rfl, (Below.refl _ w).alloc (Nat.le_refl _) _⟩
  · have e : goodC (sn, bs, st) = bs.all goodB := by
      unfold goodC
      rw [decide_eq_true (by have := HN.out; show bs.length ≤ 16; omega)]
      rfl
    rw [e]
    clear e
    go_enter Try.func14, Try.ntmps14
    go_wp2_with fail
    have hbw : Below w.heap.size w (w.alloc (.cells #[.int .u32 sn, .slice A n c, .int .u32 st] 25)) := (Below.refl _ w).alloc (Nat.le_refl _) _
    have HW0 := Lib.hid hbw
    obtain ⟨b0, hb0⟩ : ∃ b0, b0 = w.heap.size := ⟨_, rfl⟩
    rw [← hb0]
    generalize hW0 : World.alloc w _ = W0
    rw [hW0] at HW0
    have hbx := heap_alloc_new w (.cells #[.int .u32 sn, .slice A n c, .int .u32 st] 25)
    rw [hW0, ← hb0] at hbx
    have hsz0 : w.heap.size ≤ W0.heap.size := HW0.out.size
    obtain ⟨_, bx1, _⟩ := cells3 hbx
    have BX1 := Lib.hid bx1
    have hb0l : b0 < W0.heap.size := World.block_lt_of_cell? _ _ bx1
    clear hbw hW0 hbx bx1 hb0
    go_loopw [3] (fun iv wx => ∃ i : Nat, (i : Int) ≤ (n : Int) ∧ iv = .int .i64 (i : Int) ∧ (bs.take i).all goodB = true ∧ Below W0.heap.size W0 wx) (fun iv _ => ((n : Int) - intOf iv).toNat)
    case atStart => exact ⟨0, by omega, rfl, rfl, Below.refl _ _⟩
    case round =>
      obtain ⟨i, hi, rfl, hall, hbw0⟩ := hrel
      have HA := Lib.hid hall
      have HW1 := Lib.hid hbw0
      have hbw := below_then HW0.out hsz0 hbw0
      have hsz : w.heap.size ≤ wr.heap.size := hbw.size
      have HW := Lib.hid hbw
      have t1 := (hbw0.cell (p := ⟨b0, 1, none⟩) hb0l).trans BX1.out
      clear hall hbw hbw0
      by_cases hil : (i : Int) < (n : Int)
      · obtain ⟨g, off, x, rfl, hg, hx, hxm, y0, y1, MA, mc, y2, hrd⟩ := (HB.out.below HW.out).at (i := i) (by omega)
        obtain ⟨ss, fi, ms⟩ := x
        simp only at y0 y1 y2 hrd
        obtain ⟨m, hm2⟩ : ∃ m, m = ms.length := ⟨_, rfl⟩
        rw [← hm2] at y2
        have HM := Lib.hid hm2
        have HX := Lib.hid hx
        have HXM := Lib.hid hxm
        have HRD := Lib.hid hrd
        clear hm2 hx hxm hrd
        go_upto_region 7 with fail
        obtain ⟨q, hq⟩ : ∃ q, q = wr.heap.size := ⟨_, rfl⟩
        rw [← hq]
        generalize hW : World.alloc wr _ = W
        have hwW : Below wr.heap.size wr W := by rw [← hW]; exact (Below.refl _ wr).alloc (Nat.le_refl _) _
        have hqc : W.heap[q]? = some (.cells #[.int .u32 ss, .int .i64 fi, .slice MA m mc] 44 (0, 0)) := by rw [← hW, hq]; exact heap_alloc_new wr _
        obtain ⟨z0, z1, z2⟩ := cells3 hqc
        have HRW := Lib.hid (HRD.out.below hwW)
        have hszW : w.heap.size ≤ W.heap.size := Nat.le_trans hsz hwW.size
        have HWb := Lib.hid (below_then HW.out hsz hwW)
        have HWb0 := Lib.hid (below_then HW1.out HW1.out.size hwW)
        have hqW : q < W.heap.size := (Array.getElem?_eq_some_iff.1 hqc).1
        have hsz0W := Nat.le_trans HW1.out.size hwW.size
        clear hW hwW hqc hq y0 y1 y2
        by_cases hb : fi < 0 ∨ 65535 < fi ∨ 4096 < (m : Int)
        · have hno : bs.all goodB = false := all_no HXM.out (by
            unfold goodB
            have h1 := HM.out
            simp
            omega)
          have hb' : fi < 0 ∨ (¬ fi < 0 ∧ 65535 < fi) ∨ (¬ fi < 0 ∧ ¬ 65535 < fi ∧ 4096 < (m : Int)) := by omega
          have HNO := Lib.hid hno
          clear hb hno
          rcases hb' with hb | ⟨hb, hb2⟩ | ⟨hb, hb2, hb3⟩
          all_goals
            go_wp2_with fail
            go_ret
            exact ⟨ret_bool HNO.out.symm, HWb.out⟩
        · have f0 : ¬ fi < 0 := by omega
          have f1 : ¬ 65535 < fi := by omega
          have f2 : ¬ 4096 < (m : Int) := by omega
          clear hb
          go_wp2_with fail
          go_loopw [5] (fun kv wy => ∃ k : Nat, (k : Int) ≤ (m : Int) ∧ kv = .int .i64 (k : Int) ∧ (ms.take k).all goodM = true ∧ w.heap.size ≤ wy.heap.size ∧ Below W.heap.size W wy) (fun kv _ => ((m : Int) - intOf kv).toNat)
          case atStart => exact ⟨0, by omega, rfl, rfl, HWb.out.size, Below.refl _ _⟩
          case round =>
            obtain ⟨k, hk, rfl, hall, hsz2, hbw⟩ := hrel
            have HAk := Lib.hid hall
            have t2 := (hbw.cell (p := ⟨q, 2, none⟩) hqW).trans z2
            have HY := Lib.hid hbw
            have HYw := Lib.hid (below_then HWb.out hszW hbw)
            clear hall hbw
            by_cases hkl : (k : Int) < (m : Int)
            · obtain ⟨g2, off2, y, rfl, hg2, hy, hym, x0, x1, x2⟩ := met_at (HRW.out.below HY.out) (k := k) (by have := HM.out; omega)
              have HYX := Lib.hid hy
              have HYM := Lib.hid hym
              obtain ⟨gt, ec, ag⟩ := y
              simp only at x0 x1 x2
              clear hy hym
              go_upto_region 13 with fail
              obtain ⟨q2, hq2⟩ : ∃ q2, q2 = wr.heap.size := ⟨_, rfl⟩
              rw [← hq2]
              generalize hV : World.alloc wr _ = V
              have hwV : Below wr.heap.size wr V := by rw [← hV]; exact (Below.refl _ wr).alloc (Nat.le_refl _) _
              have hqv : V.heap[q2]? = some (.cells #[.bool gt, .int .i64 ec, .int .i64 ag] 47 (0, 0)) := by rw [← hV, hq2]; exact heap_alloc_new wr _
              obtain ⟨v0, v1, v2⟩ := cells3 hqv
              have HVw := Lib.hid (below_then HYw.out hsz2 hwV)
              have HVW := Lib.hid (below_then HY.out HY.out.size hwV)
              have hszV := Nat.le_trans hsz2 hwV.size
              clear hV hwV hqv hq2 x0 x1 x2
              cases hgm : goodM (gt, ec, ag) with
              | false =>
                have HNO := Lib.hid (show bs.all goodB = false from all_no HXM.out (by
                  have h1 := all_no HYM.out hgm
                  unfold goodB
                  simp only [h1, Bool.and_false]))
                have hno := goodM_no hgm
                simp only at hno
                clear hgm
                rcases hno with h1 | ⟨h1, h2⟩ | ⟨h1, h2, h3⟩ | ⟨h1, h2, h3, h4⟩ | ⟨h1, h2, h3, h4, rfl, h6⟩ | ⟨rfl, h3, h4, rfl, h6⟩
                all_goals
                  go_wp2_with fail
                  go_ret
                  exact ⟨ret_bool HNO.out.symm, HVw.out⟩
              | true =>
                have HGM := Lib.hid hgm
                obtain ⟨h1, h2, h3, h4, h5⟩ := goodM_yes hgm
                simp only at h1 h2 h3 h4 h5
                clear hgm
                rcases h5 with rfl | ⟨rfl, rfl, rfl⟩
                all_goals
                  go_wp2_with fail
                  go_roundw
                  case rel => exact ⟨k + 1, by omega, by go_num, all_take HYX.out HAk.out HGM.out, hszV, HVW.out⟩
                  case measure => exact measN m k hkl
            · have hkm : k = m := by omega
              have HBG := Lib.hid (show goodB (ss, fi, ms) = true by
                have e : ms.take k = ms := by rw [hkm, HM.out]; exact List.take_length
                have h1 := HAk.out
                rw [e] at h1
                have h2 := HM.out
                unfold goodB
                simp only [h1, Bool.and_true]
                simp
                omega)
              go_wp2_with fail
              go_roundw
              case rel => exact ⟨i + 1, by omega, by go_num, all_take HX.out HA.out HBG.out, below_then HWb0.out hsz0W HY.out⟩
              case measure => exact measN n i hil
      · have hin : i = n := by omega
        go_wp2_with fail
        go_ret
        have e : bs.take i = bs := by rw [hin, HN.out]; exact List.take_length
        have h1 := HA.out
        rw [e] at h1
        exact ⟨ret_bool h1.symm, HW.out⟩
end Go.Proofs.Ytmkaflfhmpddbaa.Ccfb
