/- Base's calls as steps of a plain state; no condition but the ranges in each. -/
import Derived.Test.YtlidofldkomdbaaBaseFn2
namespace Go.Proofs.Ytlidofldkomdbaa.Base
open Go.RowKit Go.Proofs.Ytlidofldkomdbaa.Plain Go.Proofs.Ytlidofldkomdbaa.Heap

/-- A sample as a step of the plain base, and what is told. -/
def bstep (s : BS) (at_ delay : Int) : BS × Int :=
  if hold at_ 0 1125899906842624 / s.width ≤ (up s (hold at_ 0 1125899906842624 / s.width)).newest - s.rows then (up s (hold at_ 0 1125899906842624 / s.width), 0)
  else
    let n := hold at_ 0 1125899906842624 / s.width
    let D := hold delay (-1125899906842624) 1125899906842624
    let s3 := putRow (up s n) (n % s.rows).toNat (rowOf ((up s n).ring (n % s.rows).toNat) n D)
    ({ s3 with queue := D - (lst s3 s.rows.toNat).1 }, D - (lst s3 s.rows.toNat).1)
/-- A base in its ranges. -/
structure okB (s : BS) : Prop where
  width : 1 ≤ s.width
  rows0 : 1 ≤ s.rows
  rows1 : s.rows ≤ 64
  new0 : 0 ≤ s.newest
  new1 : s.newest ≤ 1125899906842624
  least : ∀ i, -1125899906842624 ≤ (s.ring i).2.1 ∧ (s.ring i).2.1 ≤ 1125899906842624
theorem lst_bd {s : BS} (h : ∀ i, -1125899906842624 ≤ (s.ring i).2.1 ∧ (s.ring i).2.1 ≤ 1125899906842624) (k : Nat) : -1125899906842624 ≤ (lst s k).1 ∧ (lst s k).1 ≤ 1125899906842624 := by
  induction k with
  | zero => unfold lst; omega
  | succ k ih =>
    unfold lst
    split
    · exact h k
    · exact ih
theorem hold_bd (a : Int) {lo hi : Int} (h : lo ≤ hi) : lo ≤ hold a lo hi ∧ hold a lo hi ≤ hi := by unfold hold; split <;> (try split) <;> omega
theorem row_bd {s : BS} (h : okB s) (at_ : Int) : 0 ≤ hold at_ 0 1125899906842624 / s.width ∧ hold at_ 0 1125899906842624 / s.width ≤ 1125899906842624 := by
  have h0 := hold_bd at_ (show (0 : Int) ≤ 1125899906842624 by omega)
  have := h.width
  exact ⟨Int.ediv_nonneg h0.1 (by omega), Int.le_trans (Int.ediv_le_self _ h0.1) h0.2⟩
theorem up_ok {s : BS} (h : okB s) {n : Int} (h0 : 0 ≤ n) (h1 : n ≤ 1125899906842624) : okB (up s n) := by
  unfold up
  split
  · exact ⟨h.width, h.rows0, h.rows1, h0, h1, h.least⟩
  · exact ⟨h.width, h.rows0, h.rows1, h.new0, h.new1, h.least⟩
theorem put_ok {s : BS} (h : okB s) (j : Nat) {r : Row3} (h0 : -1125899906842624 ≤ r.2.1 ∧ r.2.1 ≤ 1125899906842624) : okB (putRow s j r) :=
  ⟨h.width, h.rows0, h.rows1, h.new0, h.new1, fun i => by
    unfold putRow
    by_cases e : i = j
    · simp only [e, if_pos]; exact h0
    · simp only [if_neg e]; exact h.least i⟩
theorem mn_bd {a b lo hi : Int} (h : lo ≤ a ∧ a ≤ hi) (h' : lo ≤ b ∧ b ≤ hi) : lo ≤ mn a b ∧ mn a b ≤ hi := by unfold mn; split <;> omega
theorem rowOf_bd {r : Row3} {n D : Int} (h : -1125899906842624 ≤ r.2.1 ∧ r.2.1 ≤ 1125899906842624) (h' : -1125899906842624 ≤ D ∧ D ≤ 1125899906842624) : -1125899906842624 ≤ (rowOf r n D).2.1 ∧ (rowOf r n D).2.1 ≤ 1125899906842624 := by
  unfold rowOf
  split
  · exact mn_bd h' h'
  · exact mn_bd h h'
theorem s3_ok {s : BS} (h : okB s) (at_ delay : Int) (j : Nat) : okB (putRow (up s (hold at_ 0 1125899906842624 / s.width)) j (rowOf ((up s (hold at_ 0 1125899906842624 / s.width)).ring j) (hold at_ 0 1125899906842624 / s.width) (hold delay (-1125899906842624) 1125899906842624))) := by
  have hr := row_bd h at_
  have hu := up_ok h hr.1 hr.2
  exact put_ok hu _ (rowOf_bd (hu.least _) (hold_bd delay (by omega)))
theorem bstep_ok {s : BS} (h : okB s) (at_ delay : Int) : okB (bstep s at_ delay).1 := by
  have hr := row_bd h at_
  unfold bstep
  split
  · exact up_ok h hr.1 hr.2
  · have := s3_ok h at_ delay ((hold at_ 0 1125899906842624 / s.width) % s.rows).toNat
    exact ⟨this.width, this.rows0, this.rows1, this.new0, this.new1, this.least⟩
/-- A base of the call's own, from block B on. -/
def BB (B : Nat) (w0 w : World) (p : Nat) (s : BS) : Prop := B ≤ p ∧ B ≤ w.heap.size ∧ Below B w0 w ∧ BR w p s
theorem BB.kept {B : Nat} {w0 w w' : World} {p : Nat} {s s' : BS} (h : BB B w0 w p s) (hb : BR w' p s') (hk : Kept (fun k => k = p) w w') : BB B w0 w' p s' :=
  ⟨h.1, Nat.le_trans h.2.1 hk.size, h.2.2.1.trans (hk.below h.2.1 (fun i hi => by rw [hi]; exact h.1)), hb⟩
theorem BB.run {B : Nat} {w0 w w' : World} {p : Nat} {s : BS} (h : BB B w0 w p s) (hb : Below w.heap.size w w') : BB B w0 w' p s :=
  h.kept (h.2.2.2.kept (Kept.of_below (S := fun _ => False) hb) id) (Kept.of_below hb)
theorem add_any (B : Nat) (w0 : World) (at_ delay : Int) (p : Nat) (w : World) (s : BS) (h : BB B w0 w p s) (ok : okB s) : Calls Try.prog 10 #[.pointer (some ⟨p, 0, none⟩), .int .i64 at_, .int .i64 delay] w
    fun e w' => e = .returned (.int .i64 (bstep s at_ delay).2) ∧ BB B w0 w' p (bstep s at_ delay).1 := by
  have hr := row_bd ok at_
  have h3 := s3_ok ok at_ delay ((hold at_ 0 1125899906842624 / s.width) % s.rows).toNat
  have hl := lst_bd h3.least s.rows.toNat
  have e0 := ok.rows0
  have e1 := ok.rows1
  have hj0 := Int.emod_nonneg (hold at_ 0 1125899906842624 / s.width) (show s.rows ≠ 0 by omega)
  by_cases hle : hold at_ 0 1125899906842624 / s.width ≤ (up s (hold at_ 0 1125899906842624 / s.width)).newest - s.rows
  · have hs : bstep s at_ delay = (up s (hold at_ 0 1125899906842624 / s.width), 0) := by unfold bstep; exact if_pos hle
    rw [hs]
    have hu : ¬ (s.any = false ∨ s.newest < hold at_ 0 1125899906842624 / s.width) := by
      intro hu
      unfold up at hle
      rw [if_pos hu] at hle
      simp only at hle
      omega
    have hup : up s (hold at_ 0 1125899906842624 / s.width) = { s with queue := 0 } := by unfold up; rw [if_neg hu]
    rw [hup] at hle ⊢
    have ha : s.any = true := by
      cases h : s.any with
      | false => exact absurd (.inl h) hu
      | true => rfl
    exact (add_old at_ delay p w s h.2.2.2 s.rows.toNat (by omega) (by omega) (by omega) ok.width ok.new0 ok.new1 _ rfl ha hle).mono fun e w' ⟨h1, h2, h3⟩ => ⟨h1, h.kept h2 h3⟩
  · unfold bstep
    simp only [if_neg hle]
    exact (add_new at_ delay p w s h.2.2.2 s.rows.toNat (by omega) (by omega) (by omega) ok.width ok.new0 ok.new1 _ _ rfl rfl _ (by omega) _ rfl hl hle).mono fun e w' ⟨h1, h2, h3⟩ => ⟨h1, h.kept h2 h3⟩
theorem least_bb (B : Nat) (w0 : World) (p : Nat) (w : World) (s : BS) (h : BB B w0 w p s) (ok : okB s) : Calls Try.prog 11 #[.pointer (some ⟨p, 0, none⟩)] w
    fun e w' => e = .returned (.tuple #[.int .i64 (lst s s.rows.toNat).1, .bool (lst s s.rows.toNat).2]) ∧ BB B w0 w' p s := by
  have e0 := ok.rows0
  have e1 := ok.rows1
  have e2 := ok.new0
  have e3 := ok.new1
  exact (least_any p w s h.2.2.2 s.rows.toNat (by omega) (by omega) (by omega) (IntWalk.i64_in _ (by omega))).mono fun e w' ⟨h1, h2⟩ => ⟨h1, h.run h2⟩
theorem queue_bb (B : Nat) (w0 : World) (p : Nat) (w : World) (s : BS) (h : BB B w0 w p s) : Calls Try.prog 16 #[.pointer (some ⟨p, 0, none⟩)] w
    fun e w' => e = .returned (.int .i64 s.queue) ∧ BB B w0 w' p s :=
  (queue_any p w s h.2.2.2).mono fun _ _ ⟨h1, h2⟩ => ⟨h1, h2 ▸ h⟩
def fresh (width rows : Int) : BS := ⟨width, rows, fun _ => (0, 0, false), 0, false, 0⟩
theorem fresh_ok {width rows : Int} (h : 1 ≤ width) (h0 : 1 ≤ rows) (h1 : rows ≤ 64) : okB (fresh width rows) := ⟨h, h0, h1, by simp [fresh], by simp [fresh], fun i => by simp [fresh]⟩
theorem new_bb (width rows : Int) (w : World) (h : ¬ width < 1) (h2 : ¬ 1125899906842624 < width) (h3 : ¬ rows < 1) (h4 : ¬ 64 < rows) : Calls Try.prog 9 #[.int .i64 width, .int .i64 rows] w
    fun e w' => e = .returned (.tuple #[.pointer (some ⟨w.heap.size, 0, none⟩), .int .i64 0]) ∧ BB w.heap.size w w' w.heap.size (fresh width rows) ∧ Below w.heap.size w w' :=
  (new_walk width rows w h h2 h3 h4).mono fun _ _ ⟨h1, h2, h3⟩ => ⟨h1, ⟨Nat.le_refl _, h3.size, h3, h2⟩, h3⟩
end Go.Proofs.Ytlidofldkomdbaa.Base
