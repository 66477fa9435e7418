/- The laws of bits: wakes, BitsNone, BitsReads, BitsJoin; no condition but that the arguments are of their kinds. -/
import Derived.Test.YtlbpoenkdnampaaBitsR2
import Derived.Test.YtlbpoenkdnampaaBitsW3
import Derived.Test.YtlbpoenkdnampaaOpen
namespace Go.Proofs.Ytlbpoenkdnampaa.Bits
open Go.RowKit Go.Proofs.Ytlbpoenkdnampaa.Plain Go.Proofs.Ytlbpoenkdnampaa.Heap Go.Proofs.Ytlbpoenkdnampaa.Open

theorem WR.kept {S : Nat → Prop} {t : TypeId} {w w' : World} {p : Nat} {g : Option Nat} {L : List Int} (h : WR t w p g L) (hk : Kept S w w') (hp : ¬ S p) (hg : ∀ k, g = some k → ¬ S k) : WR t w' p g L := by
  obtain ⟨h1, h2, v, h3, h4, h5⟩ := h
  exact ⟨h1, h2, v, h3, (hk.block p (Array.getElem?_eq_some_iff.1 h4).1 hp).trans h4, hk.own h5 (fun k hk => hg k (by rw [← h3, hk]))⟩
theorem WR.lt {t : TypeId} {w : World} {p : Nat} {g : Option Nat} {L : List Int} (h : WR t w p g L) : p < w.heap.size ∧ ∀ k, g = some k → k < w.heap.size := by
  obtain ⟨h1, h2, v, h3, h4, h5⟩ := h
  exact ⟨(Array.getElem?_eq_some_iff.1 h4).1, fun k hk => (h5.lt k (by rw [h3, hk])).2⟩
theorem RR.lt {t : TypeId} {w : World} {p : Nat} {s : ByteArray} {a : Nat} {bad : Bool} (h : RR t w p s a bad) : p < w.heap.size := (Array.getElem?_eq_some_iff.1 h).1
theorem Fr.below {B : Nat} {w0 w w' : World} {p : Nat} {g g' : Option Nat} (h : Fr w w' p g g') (h0 : Below B w0 w) (hB : B ≤ w.heap.size) (hp : B ≤ p) (hg : ∀ k, g = some k → B ≤ k) : Below B w0 w' ∧ ∀ k, g' = some k → B ≤ k := by
  refine ⟨h0.trans (h.1.below hB (fun i hi => ?_)), fun k hk => ?_⟩
  · rcases hi with rfl | hi
    · exact hp
    · exact hg i hi
  · rcases h.2 with h2 | ⟨j, h2, h3⟩
    · exact hg k (h2 ▸ hk)
    · rw [h2] at hk; injection hk with hk; omega
/-- A writer of the call's own, from block B on; what was below is as it was. -/
def WB (t : TypeId) (B : Nat) (w0 w : World) (p : Nat) (L : List Int) : Prop := B ≤ p ∧ B ≤ w.heap.size ∧ Below B w0 w ∧ ∃ g, (∀ k, g = some k → B ≤ k) ∧ WR t w p g L
theorem WB.fr {t : TypeId} {B : Nat} {w0 w w' : World} {p : Nat} {L' : List Int} {g g' : Option Nat} (hp : B ≤ p) (hB : B ≤ w.heap.size) (h0 : Below B w0 w) (hg : ∀ k, g = some k → B ≤ k) (hw : WR t w' p g' L') (hf : Fr w w' p g g') : WB t B w0 w' p L' := by
  obtain ⟨h1, h2⟩ := hf.below h0 hB hp hg
  exact ⟨hp, Nat.le_trans hB hf.1.size, h1, g', h2, hw⟩
theorem put_wb (B : Nat) (w0 w : World) (L : List Int) (v n : Int) (p : Nat) (h : WB 53 B w0 w p L) (hL : L.length ≤ 524288) (hv : 0 ≤ v) (hv' : v < 4294967296) :
    Calls Try.prog 19 #[.pointer (some ⟨p, 0, none⟩), .int .u32 v, .int .i64 n] w fun e w' => e = .returned (.tuple #[]) ∧ WB 53 B w0 w' p (puts L v n) := by
  obtain ⟨hp, hB, h0, g, hg, hw⟩ := h
  exact (put_any L v n p g w hw hL hv hv').mono fun e w' ⟨h1, g', h2, h3⟩ => ⟨h1, WB.fr hp hB h0 hg h2 h3⟩
theorem text_wb (B : Nat) (w0 w : World) (L : List Int) (p : Nat) (h : WB 53 B w0 w p L) :
    Calls Try.prog 20 #[.pointer (some ⟨p, 0, none⟩)] w fun e w' => e = .returned (.string (txt L)) ∧ w = w' := by
  obtain ⟨hp, hB, h0, g, hg, hw⟩ := h
  exact text_any L p g w hw
theorem write_wb (w : World) : Calls Try.prog 18 #[] w fun e w' => e = .returned (.pointer (some ⟨w.heap.size, 0, none⟩)) ∧ WB 53 w.heap.size w w' w.heap.size [] :=
  (write_any w).mono fun e w' ⟨h1, h2⟩ => by
    subst h2
    exact ⟨h1, Nat.le_refl _, by simp, (Below.refl _ _).alloc (Nat.le_refl _) _, none, (fun k hk => by cases hk), WR.new _ _⟩
/-- A reader of the call's own, likewise. -/
def RB (t : TypeId) (B : Nat) (w0 w : World) (p : Nat) (s : ByteArray) (x : Nat × Bool) : Prop := B ≤ p ∧ B ≤ w.heap.size ∧ Below B w0 w ∧ x.1 ≤ 8 * s.size ∧ RR t w p s x.1 x.2
theorem get_rb (B : Nat) (w0 w : World) (s : ByteArray) (x : Nat × Bool) (n : Int) (p : Nat) (h : RB 48 B w0 w p s x) (hs : s.size ≤ 1099511627776) :
    Calls Try.prog 12 #[.pointer (some ⟨p, 0, none⟩), .int .i64 n] w fun e w' => e = .returned (.int .u32 (gets s x.1 x.2 n).1) ∧ RB 48 B w0 w' p s (gets s x.1 x.2 n).2 ∧ Kept (fun k => k = p) w w' := by
  obtain ⟨hp, hB, h0, hx, hw⟩ := h
  exact (get_any s x.1 p x.2 n w hw hs hx).mono fun e w' ⟨h1, h2, h3⟩ => ⟨h1, ⟨hp, Nat.le_trans hB h3.size, h0.trans (h3.below hB (fun i hi => by rw [hi]; exact hp)), gets_at s x.1 x.2 n hx, h2⟩, h3⟩
theorem left_rb (B : Nat) (w0 w : World) (s : ByteArray) (x : Nat × Bool) (p : Nat) (h : RB 48 B w0 w p s x) (hs : s.size ≤ 1099511627776) :
    Calls Try.prog 14 #[.pointer (some ⟨p, 0, none⟩)] w fun e w' => e = .returned (.int .i64 (left s x.1 x.2)) ∧ RB 48 B w0 w' p s x ∧ ∃ q, w' = w.drewN q := by
  obtain ⟨hp, hB, h0, hx, hw⟩ := h
  exact (left_any s x.1 p x.2 w hw hs hx).mono fun e w' ⟨h1, q, h2⟩ => by subst h2; exact ⟨h1, ⟨hp, hB, below_drewN h0 q, hx, hw⟩, q, rfl⟩
theorem bad_rb (B : Nat) (w0 w : World) (s : ByteArray) (x : Nat × Bool) (p : Nat) (h : RB 48 B w0 w p s x) :
    Calls Try.prog 16 #[.pointer (some ⟨p, 0, none⟩)] w fun e w' => e = .returned (.bool x.2) ∧ RB 48 B w0 w' p s x ∧ ∃ q, w' = w.drewN q := by
  obtain ⟨hp, hB, h0, hx, hw⟩ := h
  exact (bad_any s x.1 p x.2 w hw).mono fun e w' ⟨h1, q, h2⟩ => by subst h2; exact ⟨h1, ⟨hp, hB, below_drewN h0 q, hx, hw⟩, q, rfl⟩
theorem RB.new {tw : TypeId} (t : TypeId) (B : Nat) (w0 w w' : World) (p : Nat) (s : ByteArray) {L : List Int} (h : WB tw B w0 w p L) (h' : w' = w.alloc (.cells #[.string s, .int .i64 0, .bool false] t)) : RB t B w0 w' w.heap.size s (0, false) := by
  subst h'
  exact ⟨h.2.1, by simp; have := h.2.1; omega, h.2.2.1.alloc h.2.1 _, Nat.zero_le _, RR.new t s w⟩
theorem WB.alloc {t : TypeId} {B : Nat} {w0 w w' : World} {p : Nat} {L : List Int} (h : WB t B w0 w p L) (o : Obj) (h' : w' = w.alloc o) : WB t B w0 w' p L := by
  subst h'
  obtain ⟨h1, h2, h3, g, h4, h5⟩ := h
  exact ⟨h1, by simp; omega, h3.alloc h2 _, g, h4, h5.kept ((Kept.refl (fun _ => False) w).alloc o) id (fun _ _ => id)⟩
theorem wake_bits : puts [] 5 3 = [1, 0, 1] ∧ puts [1, 0, 1] 1 1 = [1, 0, 1, 1] := by decide
theorem wake_txt : txt [1, 0, 1, 1] = ⟨#[176]⟩ := by rfl
theorem wake_get : gets ⟨#[176]⟩ 0 false 3 = (5, 3, false) ∧ gets ⟨#[176]⟩ 3 false 1 = (1, 4, false) ∧ left ⟨#[176]⟩ 4 false = 4 ∧ gets ⟨#[176]⟩ 4 false 9 = (0, 4, true) := by decide
set_option maxHeartbeats 2000000 in
theorem wakes_any (w : World) : Calls Try.prog 9 #[] w fun e w' => e = .returned (.bool true) ∧ Below w.heap.size w w' := by
  obtain ⟨q1, q2⟩ := wake_bits
  obtain ⟨q3, q4, q5, q6⟩ := wake_get
  have Q1 := Lib.hid q1
  have Q2 := Lib.hid q2
  have Q3 := Lib.hid q3
  have Q4 := Lib.hid q4
  have Q5 := Lib.hid q5
  have Q6 := Lib.hid q6
  clear q1 q2 q3 q4 q5 q6
  go_enter Try.func9, Try.ntmps9
  go_wp2_with fail
  refine (write_wb w).mono ?_
  rintro e w1 ⟨rfl, h1⟩
  have H1 := Lib.hid h1; clear h1
  go_wp2_with fail
  refine (put_wb _ _ _ _ 5 3 _ H1.out (by decide) (by omega) (by omega)).mono ?_
  rintro e w2 ⟨rfl, h2⟩
  have H2 := Lib.hid h2; clear h2
  go_wp2_with fail
  refine (put_wb _ _ _ _ 1 1 _ H2.out (by rw [Q1.out]; decide) (by omega) (by omega)).mono ?_
  rintro e w3 ⟨rfl, h3⟩
  have H3 := Lib.hid h3; clear h3
  rw [Q1.out, Q2.out] at H3
  go_wp2_with fail
  refine (text_wb _ _ _ _ _ H3.out).mono ?_
  rintro e w' ⟨rfl, rfl⟩
  rw [wake_txt]
  go_wp2_with fail
  refine (read_any _ _).mono ?_
  rintro e w4 ⟨rfl, h4⟩
  have R4 := Lib.hid (RB.new _ _ _ _ _ _ _ H3.out h4)
  have W4 := Lib.hid (H3.out.alloc _ h4)
  clear h4
  go_wp2_with fail
  refine (text_wb _ _ _ _ _ W4.out).mono ?_
  rintro e w' ⟨rfl, rfl⟩
  rw [wake_txt]
  have S : (⟨#[176]⟩ : ByteArray).size ≤ 1099511627776 := by decide
  go_wp2_with fail
  refine (get_rb _ _ _ _ _ 3 _ R4.out S).mono ?_
  rintro e w5 ⟨rfl, h5, _⟩
  rw [Q3.out] at h5 ⊢
  have H5 := Lib.hid h5; clear h5
  go_wp2_with fail
  refine (get_rb _ _ _ _ _ 1 _ H5.out S).mono ?_
  rintro e w6 ⟨rfl, h6, _⟩
  rw [Q4.out] at h6 ⊢
  have H6 := Lib.hid h6; clear h6
  go_wp2_with fail
  refine (left_rb _ _ _ _ _ _ H6.out S).mono ?_
  rintro e w7 ⟨rfl, h7, _⟩
  rw [Q5.out]
  have H7 := Lib.hid h7; clear h7
  go_wp2_with fail
  refine (get_rb _ _ _ _ _ 9 _ H7.out S).mono ?_
  rintro e w8 ⟨rfl, h8, _⟩
  rw [Q6.out] at h8 ⊢
  have H8 := Lib.hid h8; clear h8
  go_wp2_with fail
  refine (bad_rb _ _ _ _ _ _ H8.out).mono ?_
  rintro e w9 ⟨rfl, h9, _⟩
  have H9 := Lib.hid h9; clear h9
  go_wp2
  go_ret
  exact ⟨rfl, H9.out.2.2.1⟩
set_option maxHeartbeats 1000000 in
theorem BitsNone_any (v n : Int) (w : World) : Calls Try.prog 8 #[.int .u32 v, .int .i64 n] w fun e w' => e = .returned (.bool true) ∧ Below w.heap.size w w' := by
  go_enter Try.func8, Try.ntmps8
  go_wp2_with (first
    | (go_at_call 19; refine (put_nil _ _ _).mono ?_; rintro e w1 ⟨rfl, rfl⟩)
    | (go_at_call 23; refine (align_nil _ _).mono ?_; rintro e w1 ⟨rfl, rfl⟩)
    | (go_at_call 20; refine (text_nil _).mono ?_; rintro e w1 ⟨rfl, rfl⟩)
    | (go_at_call 12; refine (get_nil _ _).mono ?_; rintro e w1 ⟨rfl, rfl⟩)
    | (go_at_call 14; refine (left_nil _).mono ?_; rintro e w1 ⟨rfl, rfl⟩)
    | (go_at_call 16; refine (bad_nil _).mono ?_; rintro e w1 ⟨rfl, rfl⟩)
    | (go_at_call 9; refine (wakes_any _).mono ?_; rintro e w1 ⟨rfl, hb⟩))
  go_ret
  exact ⟨rfl, hb⟩
end Go.Proofs.Ytlbpoenkdnampaa.Bits
