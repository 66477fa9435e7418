/- The laws of bits: wakes, BitsNone, BitsReads, BitsJoin; no condition but that the arguments are of their kinds. -/
import Derived.Test.YtmedlplgeeeodaaBitsR2
import Derived.Test.YtmedlplgeeeodaaBitsW3
import Derived.Test.YtmedlplgeeeodaaOpen
namespace Go.Proofs.Ytmedlplgeeeodaa.Bits
open Go.RowKit Go.Proofs.Ytmedlplgeeeodaa.Plain Go.Proofs.Ytmedlplgeeeodaa.Heap Go.Proofs.Ytmedlplgeeeodaa.Open

theorem WR.kept {S : Nat → Prop} {t : TypeId} {w w' : World} {p : Nat} {g : Option Nat} {L : List Int} (h : WR t w p g L) (hk : Kept S w w') (hp : ¬ S p) (hg : ∀ k, g = some k → ¬ S k) : WR t w' p g L := by
  obtain ⟨h1, h2, v, h3, h4, h5⟩ := h
  exact ⟨h1, h2, v, h3, (hk.block p (Array.getElem?_eq_some_iff.1 h4).1 hp).trans h4, hk.own h5 (fun k hk => hg k (by rw [← h3, hk]))⟩
theorem WR.lt {t : TypeId} {w : World} {p : Nat} {g : Option Nat} {L : List Int} (h : WR t w p g L) : p < w.heap.size ∧ ∀ k, g = some k → k < w.heap.size := by
  obtain ⟨h1, h2, v, h3, h4, h5⟩ := h
  exact ⟨(Array.getElem?_eq_some_iff.1 h4).1, fun k hk => (h5.lt k (by rw [h3, hk])).2⟩
theorem RR.lt {t : TypeId} {w : World} {p : Nat} {s : ByteArray} {a : Nat} {bad : Bool} (h : RR t w p s a bad) : p < w.heap.size := (Array.getElem?_eq_some_iff.1 h).1
theorem Fr.below {B : Nat} {w0 w w' : World} {p : Nat} {g g' : Option Nat} (h : Fr w w' p g g') (h0 : Below B w0 w) (hB : B ≤ w.heap.size) (hp : B ≤ p) (hg : ∀ k, g = some k → B ≤ k) : Below B w0 w' ∧ ∀ k, g' = some k → B ≤ k := by
  refine ⟨h0.trans (h.1.below hB (fun i hi => ?_)), fun k hk => ?_⟩
  · rcases hi with rfl | hi
    · exact hp
    · exact hg i hi
  · rcases h.2 with h2 | ⟨j, h2, h3⟩
    · exact hg k (h2 ▸ hk)
    · rw [h2] at hk; injection hk with hk; omega
/-- A writer of the call's own, from block B on; what was below is as it was. -/
def WB (t : TypeId) (B : Nat) (w0 w : World) (p : Nat) (L : List Int) : Prop := B ≤ p ∧ B ≤ w.heap.size ∧ Below B w0 w ∧ ∃ g, (∀ k, g = some k → B ≤ k) ∧ WR t w p g L
theorem WB.fr {t : TypeId} {B : Nat} {w0 w w' : World} {p : Nat} {L' : List Int} {g g' : Option Nat} (hp : B ≤ p) (hB : B ≤ w.heap.size) (h0 : Below B w0 w) (hg : ∀ k, g = some k → B ≤ k) (hw : WR t w' p g' L') (hf : Fr w w' p g g') : WB t B w0 w' p L' := by
  obtain ⟨h1, h2⟩ := hf.below h0 hB hp hg
  exact ⟨hp, Nat.le_trans hB hf.1.size, h1, g', h2, hw⟩
theorem put_wb (B : Nat) (w0 w : World) (L : List Int) (v n : Int) (p : Nat) (h : WB 70 B w0 w p L) (hL : L.length ≤ 524288) (hv : 0 ≤ v) (hv' : v < 4294967296) :
    Calls Try.prog 19 #[.pointer (some ⟨p, 0, none⟩), .int .u32 v, .int .i64 n] w fun e w' => e = .returned (.tuple #[]) ∧ WB 70 B w0 w' p (puts L v n) := by
  obtain ⟨hp, hB, h0, g, hg, hw⟩ := h
  exact (put_any L v n p g w hw hL hv hv').mono fun e w' ⟨h1, g', h2, h3⟩ => ⟨h1, WB.fr hp hB h0 hg h2 h3⟩
theorem text_wb (B : Nat) (w0 w : World) (L : List Int) (p : Nat) (h : WB 70 B w0 w p L) :
    Calls Try.prog 22 #[.pointer (some ⟨p, 0, none⟩)] w fun e w' => e = .returned (.string (txt L)) ∧ w = w' := by
  obtain ⟨hp, hB, h0, g, hg, hw⟩ := h
  exact text_any L p g w hw
theorem write_wb (w : World) : Calls Try.prog 18 #[] w fun e w' => e = .returned (.pointer (some ⟨w.heap.size, 0, none⟩)) ∧ WB 70 w.heap.size w w' w.heap.size [] :=
  (write_any w).mono fun e w' ⟨h1, h2⟩ => by
    subst h2
    exact ⟨h1, Nat.le_refl _, by simp, (Below.refl _ _).alloc (Nat.le_refl _) _, none, (fun k hk => by cases hk), WR.new _ _⟩
/-- A reader of the call's own, likewise. -/
def RB (t : TypeId) (B : Nat) (w0 w : World) (p : Nat) (s : ByteArray) (x : Nat × Bool) : Prop := B ≤ p ∧ B ≤ w.heap.size ∧ Below B w0 w ∧ x.1 ≤ 8 * s.size ∧ RR t w p s x.1 x.2
theorem get_rb (B : Nat) (w0 w : World) (s : ByteArray) (x : Nat × Bool) (n : Int) (p : Nat) (h : RB 77 B w0 w p s x) (hs : s.size ≤ 1099511627776) :
    Calls Try.prog 31 #[.pointer (some ⟨p, 0, none⟩), .int .i64 n] w fun e w' => e = .returned (.int .u32 (gets s x.1 x.2 n).1) ∧ RB 77 B w0 w' p s (gets s x.1 x.2 n).2 ∧ Kept (fun k => k = p) w w' := by
  obtain ⟨hp, hB, h0, hx, hw⟩ := h
  exact (get_any s x.1 p x.2 n w hw hs hx).mono fun e w' ⟨h1, h2, h3⟩ => ⟨h1, ⟨hp, Nat.le_trans hB h3.size, h0.trans (h3.below hB (fun i hi => by rw [hi]; exact hp)), gets_at s x.1 x.2 n hx, h2⟩, h3⟩
theorem left_rb (B : Nat) (w0 w : World) (s : ByteArray) (x : Nat × Bool) (p : Nat) (h : RB 77 B w0 w p s x) (hs : s.size ≤ 1099511627776) :
    Calls Try.prog 35 #[.pointer (some ⟨p, 0, none⟩)] w fun e w' => e = .returned (.int .i64 (left s x.1 x.2)) ∧ RB 77 B w0 w' p s x ∧ ∃ q, w' = w.drewN q := by
  obtain ⟨hp, hB, h0, hx, hw⟩ := h
  exact (left_any s x.1 p x.2 w hw hs hx).mono fun e w' ⟨h1, q, h2⟩ => by subst h2; exact ⟨h1, ⟨hp, hB, below_drewN h0 q, hx, hw⟩, q, rfl⟩
theorem bad_rb (B : Nat) (w0 w : World) (s : ByteArray) (x : Nat × Bool) (p : Nat) (h : RB 77 B w0 w p s x) :
    Calls Try.prog 34 #[.pointer (some ⟨p, 0, none⟩)] w fun e w' => e = .returned (.bool x.2) ∧ RB 77 B w0 w' p s x ∧ ∃ q, w' = w.drewN q := by
  obtain ⟨hp, hB, h0, hx, hw⟩ := h
  exact (bad_any s x.1 p x.2 w hw).mono fun e w' ⟨h1, q, h2⟩ => by subst h2; exact ⟨h1, ⟨hp, hB, below_drewN h0 q, hx, hw⟩, q, rfl⟩
theorem RB.new {tw : TypeId} (t : TypeId) (B : Nat) (w0 w w' : World) (p : Nat) (s : ByteArray) {L : List Int} (h : WB tw B w0 w p L) (h' : w' = w.alloc (.cells #[.string s, .int .i64 0, .bool false] t)) : RB t B w0 w' w.heap.size s (0, false) := by
  subst h'
  exact ⟨h.2.1, by simp; have := h.2.1; omega, h.2.2.1.alloc h.2.1 _, Nat.zero_le _, RR.new t s w⟩
theorem WB.alloc {t : TypeId} {B : Nat} {w0 w w' : World} {p : Nat} {L : List Int} (h : WB t B w0 w p L) (o : Obj) (h' : w' = w.alloc o) : WB t B w0 w' p L := by
  subst h'
  obtain ⟨h1, h2, h3, g, h4, h5⟩ := h
  exact ⟨h1, by simp; omega, h3.alloc h2 _, g, h4, h5.kept ((Kept.refl (fun _ => False) w).alloc o) id (fun _ _ => id)⟩
theorem wake_bits : puts [] 5 3 = [1, 0, 1] ∧ puts [1, 0, 1] 1 1 = [1, 0, 1, 1] := by decide
theorem wake_txt : txt [1, 0, 1, 1] = ⟨#[176]⟩ := by rfl
theorem wake_get : gets ⟨#[176]⟩ 0 false 3 = (5, 3, false) ∧ gets ⟨#[176]⟩ 3 false 1 = (1, 4, false) ∧ left ⟨#[176]⟩ 4 false = 4 ∧ gets ⟨#[176]⟩ 4 false 9 = (0, 4, true) := by decide
end Go.Proofs.Ytmedlplgeeeodaa.Bits
