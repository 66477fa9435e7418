/- HistoryNumbers: what it comes to; no condition but what data there is. -/
import Derived.Test.YtfemmbipglpalaaHistLaw
namespace Go.Proofs.Ytfemmbipglpalaa.History
open Go.RowKit Go.Proofs.Ytfemmbipglpalaa.Plain Go.Proofs.Ytfemmbipglpalaa.Heap Go.Proofs.Ytfemmbipglpalaa.Maps Go.Proofs.Ytfemmbipglpalaa.Open

/-- A step at a place of a slice: its size and its time. -/
theorem step_at {α : Type} {R : Rel α} {w : World} {A : Option Addr} {n : Nat} {zs : List (Int × Int × Int × α)} (h : Els 4 (rTwo (rInt .i64) (rTwo (rInt .i64) (rTwo (rInt .i64) R))) w A n zs) {k : Nat} (hk : k < n) :
    ∃ b off, A = some ⟨b, off, none⟩ ∧ b < w.heap.size ∧ ∃ x, zs[k]? = some x ∧ (Lit.int .i64 x.1).wf = true ∧ (Lit.int .i64 x.2.1).wf = true ∧ (Lit.int .i64 x.2.2.1).wf = true ∧ w.cell? ⟨b, off + k * 4, none⟩ = some (.int .i64 x.1) ∧ w.cell? ⟨b, off + k * 4 + 1, none⟩ = some (.int .i64 x.2.1) ∧ w.cell? ⟨b, off + k * 4 + 2, none⟩ = some (.int .i64 x.2.2.1) := by
  obtain ⟨hl, _, h3⟩ := h
  obtain ⟨b, off, rfl, hb, hc⟩ := h3 (by omega)
  obtain ⟨x, hx⟩ : ∃ x, zs[k]? = some x := ⟨_, List.getElem?_eq_getElem (by omega)⟩
  obtain ⟨c, hc1, hc2, c1, c2, hc, ⟨h1, g1⟩, d1, d2, hd, ⟨h2, g2⟩, e1, e2, he, ⟨h3, g3⟩, _⟩ := hc k x hx
  subst h1 h2 h3 he hd hc
  exact ⟨b, off, rfl, hb (by omega), x, hx, g1, g2, g3, hc2 0 _ rfl, hc2 1 _ rfl, hc2 2 _ rfl⟩
theorem meas3 (m k : Nat) (h : (k : Int) < m) : m - (intOf (.int .i64 ((k : Int) + 1))).toNat < m - (intOf (.int .i64 (k : Int))).toNat := by
  simp [intOf]
  omega
/-- What Send does of a history that never forgot. -/
theorem send_kinds {h : HS} {size at_ : Int} (hl : 0 ≤ h.last) (hlen : h.l.length < 1024) (hn : 0 ≤ h.next) (hn2 : h.next < 65536) :
    (¬ size < 0 ∧ ¬ 1500 < size ∧ ¬ at_ < h.last ∧ ¬ 1125899906842624 < at_ ∧ hsend h size at_ = ({ h with next := h.next + 1, last := at_, flying := h.flying + size, l := h.l ++ [(h.next, size, at_)] }, h.next, 0)) ∨
    (∃ F : Int, (F == 0) = false ∧ hsend h size at_ = (h, 0, F) ∧ (size < 0 ∨ (¬ size < 0 ∧ 1500 < size) ∨ (¬ size < 0 ∧ ¬ 1500 < size ∧ at_ < h.last) ∨ (¬ size < 0 ∧ ¬ 1500 < size ∧ ¬ at_ < h.last ∧ 1125899906842624 < at_))) := by
  unfold hsend
  by_cases hb : sendBad size at_
  · rw [if_pos hb]
    unfold sendBad at hb
    exact .inr ⟨1, rfl, rfl, by omega⟩
  · rw [if_neg hb]
    unfold sendBad at hb
    by_cases he : at_ < h.last
    · rw [if_pos he]
      exact .inr ⟨130, rfl, rfl, by omega⟩
    · rw [if_neg he, if_neg (by omega), show h.next % 65536 = h.next by omega]
      exact .inl ⟨by omega, by omega, he, by omega, rfl⟩
set_option maxRecDepth 10000 in
set_option maxHeartbeats 2000000 in
theorem HistoryNumbers_any {R : Rel (List (Int × Bool × Int × Bool × Bool))} (A : Option Addr) (n c : Nat) (zs : List (Int × Int × Int × List (Int × Bool × Int × Bool × Bool))) (w : World) (h1 : Els 4 (rTwo (rInt .i64) (rTwo (rInt .i64) (rTwo (rInt .i64) R))) w A n zs) :
    Calls Try.prog 4 #[.slice A n c] w fun e w' => e = .returned (.bool true) ∧ Below w.heap.size w w' := by
  have R1 := Lib.hid h1
  clear h1
  go_enter Try.func4, Try.ntmps4
  go_wp2_with fail
  refine (new_hb 1125899906842624 _ (by decide) (by decide)).mono ?_
  rintro e w1 ⟨p, r, rfl, h1⟩
  have H1 := Lib.hid h1
  clear h1
  go_wp2_with fail
  go_loopw [5, 6, 7, 8] (fun nv lv sv iv wr => ∃ (k : Nat) (h : HS), k ≤ 300 ∧ iv = .int .i64 (k : Int) ∧ nv = .int .i64 h.next ∧ lv = .int .i64 h.last ∧ sv = .int .i64 h.flying ∧ okH h ∧ h.next = (h.l.length : Int) ∧ h.l.length ≤ k ∧ 0 ≤ h.last ∧ HB w.heap.size w wr p r h) (fun _ _ _ iv _ => 300 - (intOf iv).toNat)
  case atStart => exact ⟨0, _, by omega, rfl, rfl, rfl, rfl, fresh_ok _, rfl, by simp, by simp, H1.out⟩
  case round =>
    obtain ⟨k, h, hk, rfl, rfl, rfl, rfl, ok, hnl, hlk, hl0, hb⟩ := hrel
    have OK := Lib.hid ok
    have HBr := Lib.hid hb
    have HNL := Lib.hid hnl
    clear ok hb hnl H1
    by_cases hlt : k < n
    · by_cases hlt3 : (k : Int) < 300
      · have hk1 : k + 1 ≤ 300 := by omega
        obtain ⟨b, off, rfl, hbl, x, hx, _, _, _, _, q1, q2⟩ := step_at R1.out hlt
        obtain ⟨_, xs, xa, _⟩ := x
        simp only at q1 q2
        have x1 : wr.cell? ⟨b, off + k * 4 + 1, none⟩ = some (.int .i64 xs) := (HBr.out.below.cell (p := ⟨b, off + k * 4 + 1, none⟩) hbl).trans q1
        have x2 : wr.cell? ⟨b, off + k * 4 + 2, none⟩ = some (.int .i64 xa) := (HBr.out.below.cell (p := ⟨b, off + k * 4 + 2, none⟩) hbl).trans q2
        have Q1 := Lib.hid q1
        have Q2 := Lib.hid q2
        have hf := OK.out.fly
        have hnb : 0 ≤ h.next ∧ h.next ≤ 300 := by have := HNL.out; omega
        have HKinds := Lib.hid (send_kinds (h := h) (size := xs) (at_ := xa) hl0 (by omega) hnb.1 (by omega))
        have OK2 := Lib.hid (send_ok OK.out xs xa (by omega))
        clear hx q1 q2
        go_wp2_with fail
        go_region_held3 (fun w' => w'.cell? ⟨b, off + k * 4 + 1, none⟩ = some (.int .i64 xs) ∧ w'.cell? ⟨b, off + k * 4 + 2, none⟩ = some (.int .i64 xa)) (first | exact ⟨x1, x2⟩ | exact Y3)
          (first
            | (go_at_call 12
               refine ((HBr.out.run (below_drewN (Below.refl _ _) 1)).send OK.out xs xa).mono ?_
               rintro e w3 ⟨rfl, h3⟩
               have Y3 : w3.cell? ⟨b, off + k * 4 + 1, none⟩ = some (.int .i64 xs) ∧ w3.cell? ⟨b, off + k * 4 + 2, none⟩ = some (.int .i64 xa) := ⟨(h3.below.cell (p := ⟨b, off + k * 4 + 1, none⟩) hbl).trans Q1.out, (h3.below.cell (p := ⟨b, off + k * 4 + 2, none⟩) hbl).trans Q2.out⟩
               have H3 := Lib.hid h3
               clear h3))
        obtain ⟨y1, y2⟩ := Y3
        rcases HKinds.out with ⟨k1, k2, k3, k4, ke⟩ | ⟨F, hF, ke, kk⟩
        · rw [ke] at H3 OK2 ⊢
          simp only
          have t1 : wrap64 (h.next + 1) = h.next + 1 := w64 (by omega) (by omega)
          have t2 : wrap64 (h.flying + xs) = h.flying + xs := w64 (by omega) (by omega)
          have HC2 := Lib.hid (show (((h.l ++ [(h.next, xs, xa)]).length : Nat) : Int) = h.next + 1 by have := HNL.out; simp; omega)
          clear ke
          go_upto_region 13 with fail
          go_region
          go_wp2_with fail
          refine ((H3.out.run (below_drewN (Below.refl _ _) 1)).next).mono ?_
          rintro e w4 ⟨rfl, h4⟩
          have H4 := Lib.hid h4
          clear h4
          go_wp2_with fail
          refine (H4.out.count).mono ?_
          rintro e w5 ⟨rfl, h5⟩
          simp only
          rw [HC2.out]
          have H5 := Lib.hid h5
          clear h5
          go_wp2_with fail
          refine (H5.out.flying).mono ?_
          rintro e w6 ⟨rfl, h6⟩
          have H6 := Lib.hid h6
          clear h6
          go_wp2_with fail
          go_roundw
          case rel => exact ⟨k + 1, _, hk1, by go_num, rfl, rfl, rfl, OK2.out, HC2.out.symm, by simp; omega, by show 0 ≤ xa; omega, H6.out⟩
          case measure => exact meas3 300 k hlt3
        · rw [ke] at H3 OK2 ⊢
          simp only
          clear ke OK2
          rcases kk with k1 | ⟨k1, k2⟩ | ⟨k1, k2, k3⟩ | ⟨k1, k2, k3, k4⟩
          all_goals
            go_wp2_with fail
            refine (H3.out.next).mono ?_
            rintro e w4 ⟨rfl, h4⟩
            have H4 := Lib.hid h4
            clear h4
            go_wp2_with fail
            refine (H4.out.count).mono ?_
            rintro e w5 ⟨rfl, h5⟩
            simp only
            rw [← HNL.out]
            have H5 := Lib.hid h5
            clear h5
            go_wp2_with fail
            refine (H5.out.flying).mono ?_
            rintro e w6 ⟨rfl, h6⟩
            have H6 := Lib.hid h6
            clear h6
            go_wp2_with fail
            go_roundw
            case rel => exact ⟨k + 1, h, hk1, by go_num, rfl, rfl, rfl, OK.out, HNL.out, by omega, hl0, H6.out⟩
            case measure => exact meas3 300 k hlt3
      · go_wp2_with fail
        refine (wakes_any _).mono ?_
        rintro e w3 ⟨rfl, hb⟩
        go_wp2
        go_ret
        exact ⟨rfl, below_then HBr.out.below HBr.out.sz hb⟩
    · go_wp2_with fail
      refine (wakes_any _).mono ?_
      rintro e w3 ⟨rfl, hb⟩
      go_wp2
      go_ret
      exact ⟨rfl, below_then HBr.out.below HBr.out.sz hb⟩
end Go.Proofs.Ytfemmbipglpalaa.History
