/- wakes, HistoryNone: what each comes to; no condition but what data there is. -/
import Derived.Test.YtfemmbipglpalaaHistHear2
import Derived.Test.YtfemmbipglpalaaOpen
namespace Go.Proofs.Ytfemmbipglpalaa.History
open Go.RowKit Go.Proofs.Ytfemmbipglpalaa.Plain Go.Proofs.Ytfemmbipglpalaa.Heap Go.Proofs.Ytfemmbipglpalaa.Maps Go.Proofs.Ytfemmbipglpalaa.Open

instance (a b : Int) : Decidable (sendBad a b) := by unfold sendBad; infer_instance
/-- Send, told plainly. -/
def hsend (h : HS) (size at_ : Int) : HS × Int × Int :=
  if sendBad size at_ then (h, 0, 1) else if at_ < h.last then (h, 0, 130) else if h.l.length = 1024 then (h, 0, 250)
  else ({ h with next := h.next + 1, last := at_, flying := h.flying + size, l := h.l ++ [(h.next, size, at_)] }, h.next % 65536, 0)
theorem send_any (size at_ : Int) (p r : Nat) (w : World) (h : HS) (hr : HR w p r h) (ok : okH h) : Calls Try.prog 12 #[.pointer (some ⟨p, 0, none⟩), .int .i64 size, .int .i64 at_] w
    fun e w' => e = .returned (.tuple #[.int .i64 (hsend h size at_).2.1, .int .i64 (hsend h size at_).2.2]) ∧ HR w' p r (hsend h size at_).1 ∧ Kept (fun g => g = p ∨ g = r) w w' := by
  unfold hsend
  by_cases hb : sendBad size at_
  · rw [if_pos hb]
    exact (send_bad size at_ p w hb).mono fun _ _ ⟨h1, h2⟩ => ⟨h1, h2 ▸ hr, h2 ▸ Kept.refl _ _⟩
  · rw [if_neg hb]
    by_cases hl : at_ < h.last
    · rw [if_pos hl]
      exact (send_early size at_ p r w h hr hb hl).mono fun _ _ ⟨h1, h2⟩ => ⟨h1, h2 ▸ hr, h2 ▸ Kept.refl _ _⟩
    · rw [if_neg hl]
      by_cases hn : h.l.length = 1024
      · rw [if_pos hn]
        exact (send_full size at_ p r w h hr hb hl hn).mono fun _ _ ⟨h1, h2⟩ => ⟨h1, h2 ▸ hr, h2 ▸ Kept.refl _ _⟩
      · rw [if_neg hn]
        have hf := ok.fly
        have h1 := ok.next1
        exact send_good size at_ p r w h hr hb hl hn (fun x hx => (ok.lt x hx).2) ok.next0 (by omega) hf.1 (by omega)
theorem sumS_append (l : List E3) (x : E3) : sumS (l ++ [x]) = sumS l + x.2.1 := by simp [sumS]
theorem send_ok {h : HS} (ok : okH h) (size at_ : Int) (hn : h.next < 1000000000) : okH (hsend h size at_).1 := by
  unfold hsend
  split
  · exact ok
  · rename_i hb
    split
    · exact ok
    · split
      · exact ok
      · rename_i hl
        have h0 := ok.next0
        have hlen := ok.len
        unfold sendBad at hb
        refine ⟨by simp only; omega, by simp only; omega, fun x hx => ?_, fun x hx => ?_, by simp only [List.length_append, List.length_cons, List.length_nil]; omega, by simp only; rw [sumS_append, ok.sum]⟩
        · simp only
          rcases List.mem_append.1 hx with hx | hx
          · have := ok.lt x hx; omega
          · simp at hx; rw [hx]; simp only; omega
        · rcases List.mem_append.1 hx with hx | hx
          · exact ok.size x hx
          · simp at hx; rw [hx]; simp only; omega
theorem fresh_ok (t : Int) : okH ⟨t, 0, 0, 0, 0, []⟩ := ⟨by simp, by simp, nofun, nofun, by simp, rfl⟩
/-- A history of the call's own, from block B on. -/
structure HB (B : Nat) (w0 w : World) (p r : Nat) (h : HS) : Prop where
  hr : HR w p r h
  bp : B ≤ p
  br : B ≤ r
  sz : B ≤ w.heap.size
  below : Below B w0 w
section
variable {B : Nat} {w0 w w' : World} {p r : Nat} {h h' : HS}
theorem HB.run (hb : HB B w0 w p r h) (hw : Below w.heap.size w w') : HB B w0 w' p r h :=
  ⟨hb.hr.kept (Kept.of_below (S := fun _ => False) hw) id id, hb.bp, hb.br, Nat.le_trans hb.sz hw.size, below_then hb.below hb.sz hw⟩
theorem HB.to (hb : HB B w0 w p r h) (hr : HR w' p r h') (hk : Kept (fun g => g = p ∨ g = r) w w') : HB B w0 w' p r h' :=
  ⟨hr, hb.bp, hb.br, Nat.le_trans hb.sz hk.size, hb.below.trans (hk.below hb.sz (fun i hi => by have h1 := hb.bp; have h2 := hb.br; rcases hi with hi | hi <;> omega))⟩
theorem HB.send (hb : HB B w0 w p r h) (ok : okH h) (size at_ : Int) : Calls Try.prog 12 #[.pointer (some ⟨p, 0, none⟩), .int .i64 size, .int .i64 at_] w
    fun e w' => e = .returned (.tuple #[.int .i64 (hsend h size at_).2.1, .int .i64 (hsend h size at_).2.2]) ∧ HB B w0 w' p r (hsend h size at_).1 :=
  (send_any size at_ p r w h hb.hr ok).mono fun _ _ ⟨h1, h2, h3⟩ => ⟨h1, hb.to h2 h3⟩
theorem HB.flying (hb : HB B w0 w p r h) : Calls Try.prog 16 #[.pointer (some ⟨p, 0, none⟩)] w fun e w' => e = .returned (.int .i64 h.flying) ∧ HB B w0 w' p r h :=
  (flying_any p r w h hb.hr).mono fun _ _ ⟨h1, h2⟩ => ⟨h1, h2 ▸ hb⟩
theorem HB.next (hb : HB B w0 w p r h) : Calls Try.prog 17 #[.pointer (some ⟨p, 0, none⟩)] w fun e w' => e = .returned (.int .i64 h.next) ∧ HB B w0 w' p r h :=
  (next_any p r w h hb.hr).mono fun _ _ ⟨h1, h2⟩ => ⟨h1, h2 ▸ hb⟩
theorem HB.count (hb : HB B w0 w p r h) : Calls Try.prog 15 #[.pointer (some ⟨p, 0, none⟩)] w fun e w' => e = .returned (.int .i64 (h.l.length : Int)) ∧ HB B w0 w' p r h :=
  (count_any p r w h hb.hr).mono fun _ _ ⟨h1, h2⟩ => ⟨h1, h2 ▸ hb⟩
/-- Hear: what was got, what was lost; the caller's own memory stays. -/
theorem HB.hear (hb : HB B w0 w p r h) (ok : okH h) (hn : 0 < h.next) (A : Option Addr) (n c : Nat) (rs : List R5) (now : Int) (hrd : Rd w 5 A n (flat5 rs)) (hlen : rs.length = n) (hn1 : n ≤ 1000000) (hA : ∀ b off, A = some ⟨b, off, none⟩ → b ≠ p ∧ b ≠ r) :
    Calls Try.prog 14 #[.pointer (some ⟨p, 0, none⟩), .slice A n c, .int .i64 now] w
      fun e w' => ∃ gv lv mg ml, e = .returned (.tuple #[gv, lv]) ∧ HB B w0 w' p r (hearL h rs).1 ∧ HH w w' p r w.heap.size (hearL h rs) gv lv mg ml :=
  (hear_any p r h A n c rs now w hb.hr ok hn hrd hlen hn1 hA).mono fun _ _ ⟨gv, lv, mg, ml, h1, h2⟩ => ⟨gv, lv, mg, ml, h1,
    ⟨h2.hr, hb.bp, hb.br, Nat.le_trans hb.sz h2.kp.size, hb.below.trans (h2.kp.below hb.sz (fun i hi => by have h1 := hb.bp; have h2 := hb.br; have h3 := hb.sz; rcases hi with hi | hi | hi <;> omega))⟩, h2⟩
end
theorem new_hb (t : Int) (w : World) (h : ¬ t < 1) (h2 : ¬ 1125899906842624 < t) : Calls Try.prog 10 #[.int .i64 t] w
    fun e w' => ∃ p r, e = .returned (.tuple #[.pointer (some ⟨p, 0, none⟩), .int .i64 0]) ∧ HB w.heap.size w w' p r ⟨t, 0, 0, 0, 0, []⟩ :=
  (new_walk t w h h2).mono fun _ _ ⟨p, r, h1, h2, h3, h4, h5⟩ => ⟨p, r, h1, h2, h3, h4, h5.size, h5⟩
set_option maxRecDepth 10000 in
set_option maxHeartbeats 1000000 in
theorem wakes_any (w : World) : Calls Try.prog 13 #[] w fun e w' => e = .returned (.bool true) ∧ Below w.heap.size w w' := by
  go_enter Try.func13, Try.ntmps13
  go_wp2_with fail
  refine (new_hb 1000 _ (by decide) (by decide)).mono ?_
  rintro e w1 ⟨p, r, rfl, h1⟩
  have H1 := Lib.hid h1
  clear h1
  go_wp2_with fail
  refine (H1.out.send (fresh_ok 1000) 100 5).mono ?_
  rintro e w2 ⟨rfl, h2⟩
  have es : hsend ⟨1000, 0, 0, 0, 0, []⟩ 100 5 = (⟨1000, 1, 0, 5, 100, [(0, 100, 5)]⟩, 0, 0) := by kernel_rfl
  have ok2 := Lib.hid (send_ok (fresh_ok 1000) 100 5 (by decide))
  rw [es] at h2 ok2 ⊢
  have H2 := Lib.hid h2
  clear h2 es
  go_wp2_with fail
  generalize hW : World.alloc w2 _ = W2
  have HW := Lib.hid (show HB w.heap.size w W2 p r ⟨1000, 1, 0, 5, 100, [(0, 100, 5)]⟩ by rw [← hW]; exact H2.out.run ((Below.refl _ _).alloc (Nat.le_refl _) _))
  have hrd : Rd W2 5 (some ⟨w2.heap.size, 0, none⟩) 1 (flat5 [(0, false, 0, false, false)]) := by
    rw [← hW]
    exact Rd.block (cs := #[.int .i64 0, .bool false, .int .i64 0, .bool false, .bool false]) (heap_alloc_new w2 _) rfl
  have hlt := H2.out.hr.cells.2.2.2.2.2.2.2
  refine (HW.out.hear ok2.out (by decide) (some ⟨w2.heap.size, 0, none⟩) 1 1 [(0, false, 0, false, false)] 9 hrd rfl (by decide) (fun b off e => by injection e with e; injection e with e; omega)).mono ?_
  rintro e w3 ⟨gv, lv, mg, ml, rfl, h3, h4⟩
  have eh : hearL ⟨1000, 1, 0, 5, 100, [(0, 100, 5)]⟩ [(0, false, 0, false, false)] = (⟨1000, 1, 0, 5, 0, []⟩, [], [(0, 100, 5)]) := by kernel_rfl
  rw [eh] at h3 h4
  obtain ⟨A1, c1, rfl⟩ : ∃ A c, gv = .slice A mg c := by
    rcases h4.og.2 with ⟨rfl, rfl⟩ | ⟨g, cap, cur, rfl, _⟩
    · exact ⟨_, _, rfl⟩
    · exact ⟨_, _, rfl⟩
  obtain ⟨A2, c2, rfl⟩ : ∃ A c, lv = .slice A ml c := by
    rcases h4.ol.2 with ⟨rfl, rfl⟩ | ⟨g, cap, cur, rfl, _⟩
    · exact ⟨_, _, rfl⟩
    · exact ⟨_, _, rfl⟩
  obtain rfl : mg = 0 := h4.lg
  obtain rfl : ml = 1 := h4.ll
  have H3 := Lib.hid h3
  clear h3 h4 eh hrd hW
  go_wp2_with fail
  refine (H3.out.flying).mono ?_
  rintro e w4 ⟨rfl, h4⟩
  have H4 := Lib.hid h4
  clear h4
  go_wp2_with fail
  refine (H4.out.next).mono ?_
  rintro e w5 ⟨rfl, h5⟩
  have H5 := Lib.hid h5
  clear h5
  go_wp2_with fail
  go_ret
  exact ⟨rfl, H5.out.below⟩
set_option maxHeartbeats 400000 in
theorem expire_nil (now : Int) (w : World) : Calls Try.prog 18 #[.pointer none, .int .i64 now] w fun e w' => e = .returned (.slice none 0 0) ∧ w = w' := by
  go_enter Try.func18, Try.ntmps18
  go_wp2
  go_ret
  exact ⟨rfl, rfl⟩
set_option maxRecDepth 10000 in
set_option maxHeartbeats 1000000 in
theorem HistoryNone_any (size at_ : Int) (w : World) (_ : (Lit.int .i64 size).wf = true) (_ : (Lit.int .i64 at_).wf = true) : Calls Try.prog 8 #[.int .i64 size, .int .i64 at_] w fun e w' => e = .returned (.bool true) ∧ Below w.heap.size w w' := by
  go_enter Try.func8, Try.ntmps8
  go_wp2_with fail
  refine (send_nil size at_ _).mono ?_
  rintro e w1 ⟨rfl, rfl⟩
  go_wp2_with fail
  refine (hear_nil _ at_ _).mono ?_
  rintro e w2 ⟨rfl, rfl⟩
  go_wp2_with fail
  refine (expire_nil at_ _).mono ?_
  rintro e w3 ⟨rfl, rfl⟩
  go_wp2_with fail
  refine ((nil_calls _).1).mono ?_
  rintro e w4 ⟨rfl, rfl⟩
  go_wp2_with fail
  refine ((nil_calls _).2.2).mono ?_
  rintro e w5 ⟨rfl, rfl⟩
  go_wp2_with fail
  refine ((nil_calls _).2.1).mono ?_
  rintro e w6 ⟨rfl, rfl⟩
  go_wp2_with fail
  refine (wakes_any _).mono ?_
  rintro e w7 ⟨rfl, hb⟩
  go_wp2
  go_ret
  exact ⟨rfl, below_then ((Below.refl _ _).alloc (Nat.le_refl _) _) (by simp) hb⟩
end Go.Proofs.Ytfemmbipglpalaa.History
