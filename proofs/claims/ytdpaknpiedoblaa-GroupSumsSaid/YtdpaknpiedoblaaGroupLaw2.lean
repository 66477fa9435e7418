/- New, Open, one, Mod as contracts; wakes; GroupNone. No condition but the ranges in each. -/
import Derived.Test.YtdpaknpiedoblaaGroupLaw
namespace Go.Proofs.Ytdpaknpiedoblaa.Group
open Go.RowKit Go.Proofs.Ytdpaknpiedoblaa.Plain Go.Proofs.Ytdpaknpiedoblaa.Heap

def oval (o : Option G4) : Value := match o with
  | none => .tuple #[.int .i64 0, .int .i64 0, .int .i64 0, .int .i64 0, .bool false]
  | some (f, l, c, s) => .tuple #[.int .i64 f, .int .i64 l, .int .i64 c, .int .i64 s, .bool true]
theorem open_gb (B : Nat) (w0 : World) (p : Nat) (w : World) (b : Int) (st : St) (h : GB B w0 w p b st) :
    Calls Try.prog 14 #[.pointer (some ⟨p, 0, none⟩)] w fun e w' => e = .returned (oval st.1) ∧ GB B w0 w' p b st := by
  have h' := h
  obtain ⟨h1, h2, h3, f, l, c, s, d, hg, he, hd⟩ := h
  refine (open_any p w f l c s _ d b hg).mono fun e w' ⟨k1, q, k2⟩ => ⟨?_, ?_⟩
  · rw [k1]
    cases hst : st.1 with
    | none => rfl
    | some g =>
      obtain rfl := he g hst
      rfl
  · subst k2
    exact h'.kept ((Kept.refl _ w).drewN q)
set_option maxHeartbeats 400000 in
theorem open_nil (w : World) : Calls Try.prog 14 #[.pointer none] w fun e w' => e = .returned (oval none) ∧ w = w' := by
  go_enter Try.func14, Try.ntmps14
  go_wp2
  refine bodyPost_ret (v := .tuple #[.int .i64 0, .int .i64 0, .int .i64 0, .int .i64 0, .bool false]) (by simp [results, Try.results14, go_sem]) rfl ⟨rfl, rfl⟩
set_option maxHeartbeats 400000 in
theorem new_walk (b : Int) (w : World) (h0 : ¬ b < 0) (h1 : ¬ 1125899906842624 < b) : Calls Try.prog 8 #[.int .i64 b] w fun e w' => e = .returned (.tuple #[.pointer (some ⟨w.heap.size, 0, none⟩), .int .i64 0]) ∧
    w' = w.alloc (.cells #[.int .i64 0, .int .i64 0, .int .i64 0, .int .i64 0, .bool false, .pointer none, .int .i64 b] 65) := by
  go_enter Try.func8, Try.ntmps8
  go_wp2
  go_ret2
  exact ⟨rfl, rfl⟩
theorem new_any (b : Int) (w : World) (h0 : ¬ b < 0) (h1 : ¬ 1125899906842624 < b) : Calls Try.prog 8 #[.int .i64 b] w fun e w' => e = .returned (.tuple #[.pointer (some ⟨w.heap.size, 0, none⟩), .int .i64 0]) ∧ GB w.heap.size w w' w.heap.size b (none, none) :=
  (new_walk b w h0 h1).mono fun e w' ⟨k1, k2⟩ => by
    subst k2
    exact ⟨k1, Nat.le_refl _, by simp, (Below.refl _ _).alloc (Nat.le_refl _) _, 0, 0, 0, 0, none, heap_alloc_new w _, (fun g hg => by cases hg), .inl ⟨rfl, rfl⟩⟩
set_option maxHeartbeats 400000 in
theorem one_any (sent came size : Int) (w : World) : Calls Try.prog 10 #[.int .i64 sent, .int .i64 came, .int .i64 size] w fun e w' => e = .returned (ack 0 size sent came false false) ∧ Below w.heap.size w w' := by
  unfold ack
  go_enter Try.func10, Try.ntmps10
  go_wp2
  refine bodyPost_ret (v := .agg #[.int .i64 0, .int .i64 size, .int .i64 sent, .int .i64 came, .bool false, .bool false]) (by simp [results, Try.results10, go_sem]) rfl ⟨rfl, (Below.refl _ _).alloc (Nat.le_refl _) _⟩
theorem GB.run {B : Nat} {w0 w w' : World} {p : Nat} {b : Int} {st : St} (h : GB B w0 w p b st) (hb : Below w.heap.size w w') : GB B w0 w' p b st := h.kept (Kept.of_below hb)
theorem wake_step : (gstep 5000 (gstep 5000 (gstep 5000 (gstep 5000 (none, none) 100 0 10 false).1 100 1000 20 false).1 100 20000 30 false).1 100 40000 40 false).2 = (19000, 10, -100, true) := by decide
end Go.Proofs.Ytdpaknpiedoblaa.Group
