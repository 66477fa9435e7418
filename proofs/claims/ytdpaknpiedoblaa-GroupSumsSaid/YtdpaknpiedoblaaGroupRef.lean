/- What the reference's grouper comes to; no condition but the ranges in each. -/
import Derived.Test.YtdpaknpiedoblaaGroupLaw5
import Derived.Test.YtdpaknpiedoblaaSatRef
namespace Go.Proofs.Ytdpaknpiedoblaa.Group
open Go.RowKit Go.Proofs.Ytdpaknpiedoblaa.Plain Go.Proofs.Ytdpaknpiedoblaa.Heap

/-- The reference's grouper at block p. -/
def QR (w : World) (p : Nat) (b : Int) (so sd : Value) : Prop := w.heap[p]? = some (.cells #[.int .i64 b, so, sd] 69 (0, 0))
/-- A slice of one group, or of none. -/
def SL (w : World) (p : Nat) (v : Value) (o : Option G4) : Prop := (o = none ∧ v = .slice none 0 0) ∨ ∃ f l c s k t, o = some (f, l, c, s) ∧ v = .slice (some ⟨k, 0, none⟩) 1 1 ∧ k ≠ p ∧ w.heap[k]? = some (.cells #[.int .i64 f, .int .i64 l, .int .i64 c, .int .i64 s] t (0, 0))
def gval (o : Option G4) : Value := match o with
  | none => .tuple #[.agg #[.int .i64 0, .int .i64 0, .int .i64 0, .int .i64 0], .bool false]
  | some (f, l, c, s) => .tuple #[.agg #[.int .i64 f, .int .i64 l, .int .i64 c, .int .i64 s], .bool true]
set_option maxHeartbeats 400000 in
theorem new_bad (b : Int) (w : World) (h : b < 0 ∨ 1125899906842624 < b) : Calls Try.prog 8 #[.int .i64 b] w fun e w' => e = .returned (.tuple #[.pointer none, .int .i64 1]) ∧ w' = w := by
  have h' : b < 0 ∨ (¬ b < 0 ∧ 1125899906842624 < b) := by omega
  clear h
  rcases h' with h | ⟨h, h2⟩
  all_goals
    go_enter Try.func8, Try.ntmps8
    go_wp2
    go_ret2
    exact ⟨rfl, rfl⟩
set_option maxHeartbeats 400000 in
theorem ref_new_bad (b : Int) (w : World) (h : b < 0 ∨ 1125899906842624 < b) : Calls Try.prog 12 #[.int .i64 b] w fun e w' => e = .returned (.tuple #[.pointer none, .int .i64 1]) ∧ w' = w := by
  have h' : b < 0 ∨ (¬ b < 0 ∧ 1125899906842624 < b) := by omega
  clear h
  rcases h' with h | ⟨h, h2⟩
  all_goals
    go_enter Try.func12, Try.ntmps12
    go_wp2
    go_ret2
    exact ⟨rfl, rfl⟩
set_option maxHeartbeats 400000 in
theorem ref_new (b : Int) (w : World) (h0 : ¬ b < 0) (h1 : ¬ 1125899906842624 < b) : Calls Try.prog 12 #[.int .i64 b] w fun e w' => e = .returned (.tuple #[.pointer (some ⟨w.heap.size, 0, none⟩), .int .i64 0]) ∧
    w' = w.alloc (.cells #[.int .i64 b, .slice none 0 0, .slice none 0 0] 69) := by
  go_enter Try.func12, Try.ntmps12
  go_wp2
  go_ret2
  exact ⟨rfl, rfl⟩
theorem QR.cells {w : World} {p : Nat} {b : Int} {so sd : Value} (h : QR w p b so sd) :
    w.cell? ⟨p, 0, none⟩ = some (.int .i64 b) ∧ w.cell? ⟨p, 1, none⟩ = some so ∧ w.cell? ⟨p, 2, none⟩ = some sd ∧ (∀ i, w.frozen? ⟨p, i, none⟩ = false) ∧ p < w.heap.size := by
  unfold QR at h
  exact ⟨by simp [World.cell?, h], by simp [World.cell?, h], by simp [World.cell?, h], fun i => by simp [World.frozen?, h], (Array.getElem?_eq_some_iff.1 h).1⟩
set_option maxHeartbeats 1000000 in
set_option maxRecDepth 10000 in
theorem ref_open (p : Nat) (w : World) (b : Int) (so sd : Value) (o : Option G4) (h : QR w p b so sd) (hs : SL w p so o) : Calls Try.prog 15 #[.pointer (some ⟨p, 0, none⟩)] w fun e w' => e = .returned (gval o) ∧ Below w.heap.size w w' := by
  obtain ⟨c0, c1, c2, hf, hp⟩ := h.cells
  clear hf
  rcases hs with ⟨rfl, rfl⟩ | ⟨f, l, c, s, k, t, rfl, rfl, hk, hc⟩
  · go_enter Try.func15, Try.ntmps15
    go_wp2
    refine bodyPost_ret (v := .tuple #[.agg #[.int .i64 0, .int .i64 0, .int .i64 0, .int .i64 0], .bool false]) (by simp [results, Try.results15, go_sem]) rfl ⟨rfl, (Below.refl _ _).alloc (Nat.le_refl _) _⟩
  · obtain ⟨x0, x1, x2, x3⟩ := block4 hc
    have hkl : k < w.heap.size := (Array.getElem?_eq_some_iff.1 hc).1
    have y0 : ∀ x, (w.alloc x).cell? ⟨k, 0, none⟩ = some (.int .i64 f) := fun x => ((Kept.refl (fun _ => False) w).alloc x).cell (p := ⟨k, 0, none⟩) hkl id |>.trans x0
    have y1 : ∀ x, (w.alloc x).cell? ⟨k, 1, none⟩ = some (.int .i64 l) := fun x => ((Kept.refl (fun _ => False) w).alloc x).cell (p := ⟨k, 1, none⟩) hkl id |>.trans x1
    have y2 : ∀ x, (w.alloc x).cell? ⟨k, 2, none⟩ = some (.int .i64 c) := fun x => ((Kept.refl (fun _ => False) w).alloc x).cell (p := ⟨k, 2, none⟩) hkl id |>.trans x2
    have y3 : ∀ x, (w.alloc x).cell? ⟨k, 3, none⟩ = some (.int .i64 s) := fun x => ((Kept.refl (fun _ => False) w).alloc x).cell (p := ⟨k, 3, none⟩) hkl id |>.trans x3
    go_enter Try.func15, Try.ntmps15
    go_wp2
    refine bodyPost_ret (v := .tuple #[.agg #[.int .i64 f, .int .i64 l, .int .i64 c, .int .i64 s], .bool true]) (by simp [results, Try.results15, go_sem, *]) rfl ⟨rfl, (Below.refl _ _).alloc (Nat.le_refl _) _⟩
theorem cell3 {w : World} {a : Addr} {v : Value} (h : w.cell? a = some v) (hp : a.block < w.heap.size) (x y z : Obj) : (((w.alloc x).alloc y).alloc z).cell? a = some v :=
  ((((Kept.refl (fun _ => False) w).alloc x).alloc y).alloc z).cell hp id |>.trans h
theorem froz3 {w : World} {a : Addr} {b : Bool} (h : w.frozen? a = b) (hp : a.block < w.heap.size) (x y z : Obj) : (((w.alloc x).alloc y).alloc z).frozen? a = b :=
  ((((Kept.refl (fun _ => False) w).alloc x).alloc y).alloc z).frozen hp id |>.trans h
theorem cell4 {w : World} {a : Addr} {v : Value} (h : w.cell? a = some v) (hp : a.block < w.heap.size) (x y z u : Obj) : ((((w.alloc x).alloc y).alloc z).alloc u).cell? a = some v :=
  (((((Kept.refl (fun _ => False) w).alloc x).alloc y).alloc z).alloc u).cell hp id |>.trans h
theorem froz4 {w : World} {a : Addr} {b : Bool} (h : w.frozen? a = b) (hp : a.block < w.heap.size) (x y z u : Obj) : ((((w.alloc x).alloc y).alloc z).alloc u).frozen? a = b :=
  (((((Kept.refl (fun _ => False) w).alloc x).alloc y).alloc z).alloc u).frozen hp id |>.trans h
/-- Four stores into a block of the call's own. -/
theorem tail4 {S : Nat → Prop} {a w : World} {k : Nat} (h : Kept S a w) (hk : a.heap.size ≤ k) (x y z u : Value) : Kept S a ((((w.setCell ⟨k, 0, none⟩ x).setCell ⟨k, 1, none⟩ y).setCell ⟨k, 2, none⟩ z).setCell ⟨k, 3, none⟩ u) :=
  (((h.setCell (p := ⟨k, 0, none⟩) (.inr hk) x).setCell (p := ⟨k, 1, none⟩) (.inr hk) y).setCell (p := ⟨k, 2, none⟩) (.inr hk) z).setCell (p := ⟨k, 3, none⟩) (.inr hk) u
set_option maxRecDepth 10000 in
set_option maxHeartbeats 1000000 in
theorem ref_add_bad (seq size sent came : Int) (late ecn : Bool) (p : Nat) (w : World) (h : badA size sent came late) :
    Calls Try.prog 13 #[.pointer (some ⟨p, 0, none⟩), ack seq size sent came late ecn] w fun e w' => e = .returned (.tuple #[noDelta, .bool false]) ∧ Below w.heap.size w w' := by
  unfold ack noDelta
  have h' : late = true ∨ (late = false ∧ size < 0) ∨ (late = false ∧ ¬ size < 0 ∧ 1500 < size) ∨ (late = false ∧ ¬ size < 0 ∧ ¬ 1500 < size ∧ sent < 0) ∨ (late = false ∧ ¬ size < 0 ∧ ¬ 1500 < size ∧ ¬ sent < 0 ∧ 1125899906842624 < sent) ∨
      (late = false ∧ ¬ size < 0 ∧ ¬ 1500 < size ∧ ¬ sent < 0 ∧ ¬ 1125899906842624 < sent ∧ came < -1125899906842624) ∨ (late = false ∧ ¬ size < 0 ∧ ¬ 1500 < size ∧ ¬ sent < 0 ∧ ¬ 1125899906842624 < sent ∧ ¬ came < -1125899906842624 ∧ 1125899906842624 < came) := by
    unfold badA at h
    cases late
    · simp only [Bool.false_eq_true, false_or] at h
      simp only [Bool.false_eq_true, false_or, true_and]
      omega
    · exact .inl rfl
  clear h
  rcases h' with rfl | ⟨rfl, h1⟩ | ⟨rfl, h1, h2⟩ | ⟨rfl, h1, h2, h3⟩ | ⟨rfl, h1, h2, h3, h4⟩ | ⟨rfl, h1, h2, h3, h4, h5⟩ | ⟨rfl, h1, h2, h3, h4, h5, h6⟩
  all_goals
    go_enter Try.func13, Try.ntmps13
    go_wp2
    refine bodyPost_ret (v := .tuple #[.agg #[.int .i64 0, .int .i64 0, .int .i64 0], .bool false]) (by simp [results, Try.results13, go_sem]) rfl ⟨rfl, ?_⟩
    exact ((Below.refl _ _).alloc (Nat.le_refl _) _).alloc (by simp) _
/-- What is put at place 1 of the grouper, and the result's zeros. -/
theorem ref_put {w : World} {p : Nat} {b : Int} {so sd : Value} (h : QR w p b so sd) (hp : p < w.heap.size) (A D G : Obj) (t : TypeId) (f l c s : Int) (x y z : Value) :
    ∃ so', QR ((((((((w.alloc A).alloc D).alloc G).alloc (.cells #[.int .i64 f, .int .i64 l, .int .i64 c, .int .i64 s] t)).setCell ⟨p, 1, none⟩ (.slice (some ⟨w.heap.size + 1 + 1 + 1, 0, none⟩) 1 1)).setCell ⟨w.heap.size + 1, 0, none⟩ x).setCell ⟨w.heap.size + 1, 1, none⟩ y).setCell ⟨w.heap.size + 1, 2, none⟩ z) p b so' sd ∧
      SL ((((((((w.alloc A).alloc D).alloc G).alloc (.cells #[.int .i64 f, .int .i64 l, .int .i64 c, .int .i64 s] t)).setCell ⟨p, 1, none⟩ (.slice (some ⟨w.heap.size + 1 + 1 + 1, 0, none⟩) 1 1)).setCell ⟨w.heap.size + 1, 0, none⟩ x).setCell ⟨w.heap.size + 1, 1, none⟩ y).setCell ⟨w.heap.size + 1, 2, none⟩ z) p so' (some (f, l, c, s)) ∧
      Kept (fun k => k = p) w ((((((((w.alloc A).alloc D).alloc G).alloc (.cells #[.int .i64 f, .int .i64 l, .int .i64 c, .int .i64 s] t)).setCell ⟨p, 1, none⟩ (.slice (some ⟨w.heap.size + 1 + 1 + 1, 0, none⟩) 1 1)).setCell ⟨w.heap.size + 1, 0, none⟩ x).setCell ⟨w.heap.size + 1, 1, none⟩ y).setCell ⟨w.heap.size + 1, 2, none⟩ z) := by
  have K3 : Kept (fun _ => False) w (((w.alloc A).alloc D).alloc G) := (((Kept.refl _ w).alloc A).alloc D).alloc G
  have K4 := K3.alloc (.cells #[.int .i64 f, .int .i64 l, .int .i64 c, .int .i64 s] t)
  have hs3 : (((w.alloc A).alloc D).alloc G).heap.size = w.heap.size + 1 + 1 + 1 := by simp
  have hN := heap_alloc_new (((w.alloc A).alloc D).alloc G) (.cells #[.int .i64 f, .int .i64 l, .int .i64 c, .int .i64 s] t)
  rw [hs3] at hN
  generalize ((w.alloc A).alloc D).alloc G = W3 at *
  generalize W3.alloc (.cells #[.int .i64 f, .int .i64 l, .int .i64 c, .int .i64 s] t) = W4 at *
  have hq : QR W4 p b so sd := (K4.block p hp id).trans h
  have K5 : Kept (fun k => k = p) W4 (W4.setCell ⟨p, 1, none⟩ (.slice (some ⟨w.heap.size + 1 + 1 + 1, 0, none⟩) 1 1)) := (Kept.refl (fun k => k = p) W4).setCell (p := ⟨p, 1, none⟩) (.inl rfl) _
  have hq5 : QR (W4.setCell ⟨p, 1, none⟩ (.slice (some ⟨w.heap.size + 1 + 1 + 1, 0, none⟩) 1 1)) p b (.slice (some ⟨w.heap.size + 1 + 1 + 1, 0, none⟩) 1 1) sd := by
    unfold QR at hq ⊢
    simp [World.setCell, Array.getElem?_modify, hq]
  have hlt : w.heap.size + 1 + 1 + 1 < W4.heap.size := (Array.getElem?_eq_some_iff.1 hN).1
  have hN5 := (K5.block (w.heap.size + 1 + 1 + 1) hlt (by omega)).trans hN
  have hlt5 : W4.heap.size ≤ (W4.setCell ⟨p, 1, none⟩ (.slice (some ⟨w.heap.size + 1 + 1 + 1, 0, none⟩) 1 1)).heap.size := K5.size
  generalize W4.setCell ⟨p, 1, none⟩ (.slice (some ⟨w.heap.size + 1 + 1 + 1, 0, none⟩) 1 1) = W5 at *
  have T := tail3' W5 (w.heap.size + 1) x y z
  refine ⟨_, (T.block p (by omega) (by omega)).trans hq5, .inr ⟨f, l, c, s, w.heap.size + 1 + 1 + 1, t, rfl, rfl, by omega, (T.block _ (by omega) (by omega)).trans hN5⟩, ?_⟩
  exact tail3 ((K4.mono (fun _ _ h => h.elim) : Kept (fun k => k = p) w W4).trans K5 (fun _ _ h => h)) (by omega) x y z
set_option maxRecDepth 10000 in
set_option maxHeartbeats 1000000 in
theorem ref_add_first (seq size sent came : Int) (ecn : Bool) (p : Nat) (w : World) (b : Int) (sd : Value) (h : QR w p b (.slice none 0 0) sd)
    (h1 : ¬ size < 0) (h2 : ¬ 1500 < size) (h3 : ¬ sent < 0) (h4 : ¬ 1125899906842624 < sent) (h5 : ¬ came < -1125899906842624) (h6 : ¬ 1125899906842624 < came) :
    Calls Try.prog 13 #[.pointer (some ⟨p, 0, none⟩), ack seq size sent came false ecn] w fun e w' => e = .returned (.tuple #[noDelta, .bool false]) ∧
      ∃ so, QR w' p b so sd ∧ SL w' p so (some (sent, sent, came, size)) ∧ Kept (fun k => k = p) w w' := by
  unfold ack noDelta
  obtain ⟨c0, c1, c2, hf, hp⟩ := h.cells
  have f1 := hf 1
  have f2 := hf 2
  have H := Lib.hid h
  clear h hf
  have z1 := cell3 c1 hp
  have z2 := froz3 f1 hp
  have z3 := cell4 c1 hp
  have z4 := froz4 f1 hp
  have n1 : p ≠ w.heap.size + 1 := by omega
  have n2 : w.heap.size + 1 ≠ p := by omega
  clear f1 f2 c2 c0
  go_enter Try.func13, Try.ntmps13
  go_wp2
  refine bodyPost_ret (v := .tuple #[.agg #[.int .i64 0, .int .i64 0, .int .i64 0], .bool false]) (by simp [results, Try.results13, go_sem, *]) rfl ⟨rfl, ?_⟩
  exact ref_put H.out hp _ _ _ _ _ _ _ _ _ _ _
set_option maxRecDepth 10000 in
set_option maxHeartbeats 1000000 in
theorem ref_add_early (seq size sent came : Int) (ecn : Bool) (p : Nat) (w : World) (b : Int) (sd : Value) (f l c s : Int) (k : Nat) (t : TypeId) (h : QR w p b (.slice (some ⟨k, 0, none⟩) 1 1) sd) (hk : w.heap[k]? = some (.cells #[.int .i64 f, .int .i64 l, .int .i64 c, .int .i64 s] t (0, 0)))
    (h1 : ¬ size < 0) (h2 : ¬ 1500 < size) (h3 : ¬ sent < 0) (h4 : ¬ 1125899906842624 < sent) (h5 : ¬ came < -1125899906842624) (h6 : ¬ 1125899906842624 < came) (h7 : sent < f) :
    Calls Try.prog 13 #[.pointer (some ⟨p, 0, none⟩), ack seq size sent came false ecn] w fun e w' => e = .returned (.tuple #[noDelta, .bool false]) ∧ Kept (fun _ => False) w w' := by
  unfold ack noDelta
  obtain ⟨c0, c1, c2, hf, hp⟩ := h.cells
  obtain ⟨x0, x1, x2, x3⟩ := block4 hk
  have hkl : k < w.heap.size := (Array.getElem?_eq_some_iff.1 hk).1
  have H := Lib.hid h
  have z1 := cell3 c1 hp
  have y0 := cell3 x0 hkl
  have y1 := cell3 x1 hkl
  have y2 := cell3 x2 hkl
  have y3 := cell3 x3 hkl
  have n1 : p ≠ w.heap.size + 1 := by omega
  have n2 : w.heap.size + 1 ≠ p := by omega
  clear h hf c0 c2 x0 x1 x2 x3 hk
  go_enter Try.func13, Try.ntmps13
  go_wp2
  refine bodyPost_ret (v := .tuple #[.agg #[.int .i64 0, .int .i64 0, .int .i64 0], .bool false]) (by simp [results, Try.results13, go_sem, *]) rfl ⟨rfl, ?_⟩
  exact (((((Kept.refl _ _).alloc _).alloc _).alloc _).alloc _)
theorem frozen_block {w : World} {k : Nat} {cs : Array Value} {t : TypeId} (h : w.heap[k]? = some (.cells cs t (0, 0))) (i : Nat) : w.frozen? ⟨k, i, none⟩ = false := by simp [World.frozen?, h]
theorem alloc4_facts (w : World) (A D G O : Obj) (q : Nat) : Kept (fun _ => False) w (((((w.alloc A).alloc D).alloc G).alloc O).drewN q) ∧ (((((w.alloc A).alloc D).alloc G).alloc O).drewN q).heap.size = w.heap.size + 1 + 1 + 1 + 1 ∧
    (((((w.alloc A).alloc D).alloc G).alloc O).drewN q).heap[w.heap.size + 1 + 1 + 1]? = some O ∧ (((((w.alloc A).alloc D).alloc G).alloc O).drewN q).heap[w.heap.size + 1 + 1]? = some G ∧ (((((w.alloc A).alloc D).alloc G).alloc O).drewN q).heap[w.heap.size + 1]? = some D ∧ (((((w.alloc A).alloc D).alloc G).alloc O).drewN q).heap[w.heap.size]? = some A := by
  have hO := heap_alloc_new (((w.alloc A).alloc D).alloc G) O
  rw [show (((w.alloc A).alloc D).alloc G).heap.size = w.heap.size + 1 + 1 + 1 by simp] at hO
  have hG := heap_alloc_new ((w.alloc A).alloc D) G
  rw [show ((w.alloc A).alloc D).heap.size = w.heap.size + 1 + 1 by simp] at hG
  refine ⟨(((((Kept.refl _ w).alloc A).alloc D).alloc G).alloc O).drewN q, by simp, hO, ?_, ?_, ?_⟩
  · exact (heap_alloc_old _ _ (by simp)).trans hG
  · exact (heap_alloc_old _ _ (by simp)).trans ((heap_alloc_old _ _ (by simp)).trans (alloc2_block w A D))
  · exact (heap_alloc_old _ _ (by simp; omega)).trans ((heap_alloc_old _ _ (by simp; omega)).trans ((heap_alloc_old _ _ (by simp)).trans (heap_alloc_new w A)))
end Go.Proofs.Ytdpaknpiedoblaa.Group
