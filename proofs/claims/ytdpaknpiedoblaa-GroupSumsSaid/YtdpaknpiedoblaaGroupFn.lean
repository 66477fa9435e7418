/- What the grouper's calls come to; no condition but the ranges in each. -/
import Derived.Test.YtdpaknpiedoblaaProg
import Derived.Test.YtdpaknpiedoblaaPlain
import Derived.Test.YtdpaknpiedoblaaHeap
import Derived.Test.YtdpaknpiedoblaaSatFn
import Derived.Lib.Hide
import Derived.Deep.RegionHeld3
namespace Go.Proofs.Ytdpaknpiedoblaa.Group
open Go.RowKit Go.Proofs.Ytdpaknpiedoblaa.Plain Go.Proofs.Ytdpaknpiedoblaa.Heap

/-- A packet, as it is handed. -/
def ack (seq size sent came : Int) (late ecn : Bool) : Value := .agg #[.int .i64 seq, .int .i64 size, .int .i64 sent, .int .i64 came, .bool late, .bool ecn]
def noDelta : Value := .agg #[.int .i64 0, .int .i64 0, .int .i64 0]
/-- The grouper at block p. -/
def GR (w : World) (p : Nat) (f l c s : Int) (o : Bool) (d : Option Addr) (b : Int) : Prop :=
  w.heap[p]? = some (.cells #[.int .i64 f, .int .i64 l, .int .i64 c, .int .i64 s, .bool o, .pointer d, .int .i64 b] 65 (0, 0))
theorem GR.cells {w : World} {p : Nat} {f l c s : Int} {o : Bool} {d : Option Addr} {b : Int} (h : GR w p f l c s o d b) :
    w.cell? ⟨p, 0, none⟩ = some (.int .i64 f) ∧ w.cell? ⟨p, 1, none⟩ = some (.int .i64 l) ∧ w.cell? ⟨p, 2, none⟩ = some (.int .i64 c) ∧ w.cell? ⟨p, 3, none⟩ = some (.int .i64 s) ∧ w.cell? ⟨p, 4, none⟩ = some (.bool o) ∧ w.cell? ⟨p, 5, none⟩ = some (.pointer d) ∧ w.cell? ⟨p, 6, none⟩ = some (.int .i64 b) ∧ (∀ i, w.frozen? ⟨p, i, none⟩ = false) ∧ p < w.heap.size := by
  unfold GR at h
  refine ⟨by simp [World.cell?, h], by simp [World.cell?, h], by simp [World.cell?, h], by simp [World.cell?, h], by simp [World.cell?, h], by simp [World.cell?, h], by simp [World.cell?, h], fun i => by simp [World.frozen?, h], (Array.getElem?_eq_some_iff.1 h).1⟩
/-- What a call leaves: only blocks in S may have changed. -/
theorem kept_two (S : Nat → Prop) (w : World) (o o' : Obj) : Kept S w ((w.alloc o).alloc o') := ((Kept.refl S w).alloc o).alloc o'
theorem alloc2_block (w : World) (o o' : Obj) : ((w.alloc o).alloc o').heap[w.heap.size + 1]? = some o' := by
  have h := heap_alloc_new (w.alloc o) o'
  rwa [show (w.alloc o).heap.size = w.heap.size + 1 by simp] at h
theorem block3 {w : World} {k : Nat} {x y z : Value} {t : TypeId} (h : w.heap[k]? = some (.cells #[x, y, z] t (0, 0))) :
    w.cell? ⟨k, 0, none⟩ = some x ∧ w.cell? ⟨k, 1, none⟩ = some y ∧ w.cell? ⟨k, 2, none⟩ = some z ∧ w.frozen? ⟨k, 0, none⟩ = false ∧ w.frozen? ⟨k, 1, none⟩ = false ∧ w.frozen? ⟨k, 2, none⟩ = false := by
  refine ⟨by simp [World.cell?, h], by simp [World.cell?, h], by simp [World.cell?, h], by simp [World.frozen?, h], by simp [World.frozen?, h], by simp [World.frozen?, h]⟩
theorem block4 {w : World} {k : Nat} {x0 x1 x2 x3 : Value} {t : TypeId} (h : w.heap[k]? = some (.cells #[x0, x1, x2, x3] t (0, 0))) :
    w.cell? ⟨k, 0, none⟩ = some x0 ∧ w.cell? ⟨k, 1, none⟩ = some x1 ∧ w.cell? ⟨k, 2, none⟩ = some x2 ∧ w.cell? ⟨k, 3, none⟩ = some x3 := by
  refine ⟨by simp [World.cell?, h], by simp [World.cell?, h], by simp [World.cell?, h], by simp [World.cell?, h]⟩
theorem block6 {w : World} {k : Nat} {x0 x1 x2 x3 x4 x5 : Value} {t : TypeId} (h : w.heap[k]? = some (.cells #[x0, x1, x2, x3, x4, x5] t (0, 0))) :
    w.cell? ⟨k, 0, none⟩ = some x0 ∧ w.cell? ⟨k, 1, none⟩ = some x1 ∧ w.cell? ⟨k, 2, none⟩ = some x2 ∧ w.cell? ⟨k, 3, none⟩ = some x3 ∧ w.cell? ⟨k, 4, none⟩ = some x4 ∧ w.cell? ⟨k, 5, none⟩ = some x5 := by
  refine ⟨by simp [World.cell?, h], by simp [World.cell?, h], by simp [World.cell?, h], by simp [World.cell?, h], by simp [World.cell?, h], by simp [World.cell?, h]⟩
section
variable {w : World} {p : Nat} {f l c s : Int} {o : Bool} {d : Option Addr} {b : Int}
theorem GR.set0 (h : GR w p f l c s o d b) (f' : Int) : GR (w.setCell ⟨p, 0, none⟩ (.int .i64 f')) p f' l c s o d b := by
  unfold GR at h ⊢
  simp [World.setCell, Array.getElem?_modify, h]
theorem GR.set1 (h : GR w p f l c s o d b) (l' : Int) : GR (w.setCell ⟨p, 1, none⟩ (.int .i64 l')) p f l' c s o d b := by
  unfold GR at h ⊢
  simp [World.setCell, Array.getElem?_modify, h]
theorem GR.set2 (h : GR w p f l c s o d b) (c' : Int) : GR (w.setCell ⟨p, 2, none⟩ (.int .i64 c')) p f l c' s o d b := by
  unfold GR at h ⊢
  simp [World.setCell, Array.getElem?_modify, h]
theorem GR.set3 (h : GR w p f l c s o d b) (s' : Int) : GR (w.setCell ⟨p, 3, none⟩ (.int .i64 s')) p f l c s' o d b := by
  unfold GR at h ⊢
  simp [World.setCell, Array.getElem?_modify, h]
theorem GR.set4 (h : GR w p f l c s o d b) (o' : Bool) : GR (w.setCell ⟨p, 4, none⟩ (.bool o')) p f l c s o' d b := by
  unfold GR at h ⊢
  simp [World.setCell, Array.getElem?_modify, h]
theorem GR.set5 (h : GR w p f l c s o d b) (d' : Option Addr) : GR (w.setCell ⟨p, 5, none⟩ (.pointer d')) p f l c s o d' b := by
  unfold GR at h ⊢
  simp [World.setCell, Array.getElem?_modify, h]
theorem GR.kept {S : Nat → Prop} {w' : World} (h : GR w p f l c s o d b) (hk : Kept S w w') (hp : ¬ S p) : GR w' p f l c s o d b := (hk.block p (Array.getElem?_eq_some_iff.1 h).1 hp).trans h
theorem GR.alloc (h : GR w p f l c s o d b) (x : Obj) : GR (w.alloc x) p f l c s o d b := h.kept ((Kept.refl (fun _ => False) w).alloc x) id
theorem GR.drew (h : GR w p f l c s o d b) : GR w.drew p f l c s o d b := h
theorem GR.drewN (h : GR w p f l c s o d b) (k : Nat) : GR (w.drewN k) p f l c s o d b := h
end
theorem tail3 {S : Nat → Prop} {a w : World} {k : Nat} (h : Kept S a w) (hk : a.heap.size ≤ k) (x y z : Value) : Kept S a (((w.setCell ⟨k, 0, none⟩ x).setCell ⟨k, 1, none⟩ y).setCell ⟨k, 2, none⟩ z) :=
  ((h.setCell (p := ⟨k, 0, none⟩) (.inr hk) x).setCell (p := ⟨k, 1, none⟩) (.inr hk) y).setCell (p := ⟨k, 2, none⟩) (.inr hk) z
theorem tail3' (w : World) (k : Nat) (x y z : Value) : Kept (fun i => i = k) w (((w.setCell ⟨k, 0, none⟩ x).setCell ⟨k, 1, none⟩ y).setCell ⟨k, 2, none⟩ z) :=
  (((Kept.refl (fun i => i = k) w).setCell (p := ⟨k, 0, none⟩) (.inl rfl) x).setCell (p := ⟨k, 1, none⟩) (.inl rfl) y).setCell (p := ⟨k, 2, none⟩) (.inl rfl) z
theorem GR.fin {w w' : World} {p : Nat} {f l c s : Int} {o : Bool} {d : Option Addr} {b : Int} (h : GR w p f l c s o d b) (K : Kept (fun _ => False) w w') : GR w' p f l c s o d b ∧ Kept (fun k => k = p) w w' :=
  ⟨h.kept K id, K.mono (fun _ _ h => h.elim)⟩
theorem GR.in3 {w : World} {p : Nat} {f l c s : Int} {o : Bool} {d : Option Addr} {b : Int} (h : GR w p f l c s o d b) (hp : p < w.heap.size) (o1 o2 : Obj) (n : Nat) (l' c' s' : Int) (x y z : Value) :
    GR ((((((((((w.alloc o1).alloc o2).drewN n).setCell ⟨p, 1, none⟩ (.int .i64 l')).setCell ⟨p, 2, none⟩ (.int .i64 c')).setCell ⟨p, 3, none⟩ (.int .i64 s')).setCell ⟨w.heap.size + 1, 0, none⟩ x).setCell ⟨w.heap.size + 1, 1, none⟩ y).setCell ⟨w.heap.size + 1, 2, none⟩ z).drew) p f l' c' s' o d b ∧
    Kept (fun k => k = p) w ((((((((((w.alloc o1).alloc o2).drewN n).setCell ⟨p, 1, none⟩ (.int .i64 l')).setCell ⟨p, 2, none⟩ (.int .i64 c')).setCell ⟨p, 3, none⟩ (.int .i64 s')).setCell ⟨w.heap.size + 1, 0, none⟩ x).setCell ⟨w.heap.size + 1, 1, none⟩ y).setCell ⟨w.heap.size + 1, 2, none⟩ z).drew) := by
  have W3 := (((((h.alloc o1).alloc o2).drewN n).set1 l').set2 c').set3 s'
  have K3 := (((((kept_two (fun k => k = p) w o1 o2).drewN n).setCell (p := ⟨p, 1, none⟩) (.inl rfl) (.int .i64 l')).setCell (p := ⟨p, 2, none⟩) (.inl rfl) (.int .i64 c')).setCell (p := ⟨p, 3, none⟩) (.inl rfl) (.int .i64 s'))
  exact ⟨(W3.kept (tail3' _ (w.heap.size + 1) x y z) (by omega)).drew, (tail3 K3 (by simp) x y z).drew⟩
/-- Is a packet none that counts? -/
def badA (size sent came : Int) (late : Bool) : Prop := late = true ∨ size < 0 ∨ 1500 < size ∨ sent < 0 ∨ 1125899906842624 < sent ∨ came < -1125899906842624 ∨ 1125899906842624 < came
instance (size sent came : Int) (late : Bool) : Decidable (badA size sent came late) := by unfold badA; infer_instance
set_option maxRecDepth 10000 in
set_option maxHeartbeats 1000000 in
theorem add_nil (seq size sent came : Int) (late ecn : Bool) (w : World) :
    Calls Try.prog 9 #[.pointer none, ack seq size sent came late ecn] w fun e w' => e = .returned (.tuple #[noDelta, .bool false]) ∧ Below w.heap.size w w' := by
  unfold ack noDelta
  go_enter Try.func9, Try.ntmps9
  go_wp2
  refine bodyPost_ret (v := .tuple #[.agg #[.int .i64 0, .int .i64 0, .int .i64 0], .bool false]) (by simp [results, Try.results9, go_sem]) rfl ⟨rfl, ?_⟩
  exact ((Below.refl _ _).alloc (Nat.le_refl _) _).alloc (by simp) _
set_option maxRecDepth 10000 in
set_option maxHeartbeats 1000000 in
theorem add_bad (seq size sent came : Int) (late ecn : Bool) (p : Nat) (w : World) (h : badA size sent came late) :
    Calls Try.prog 9 #[.pointer (some ⟨p, 0, none⟩), ack seq size sent came late ecn] w fun e w' => e = .returned (.tuple #[noDelta, .bool false]) ∧ Below w.heap.size w w' := by
  unfold ack noDelta
  have h' : late = true ∨ (late = false ∧ size < 0) ∨ (late = false ∧ ¬ size < 0 ∧ 1500 < size) ∨ (late = false ∧ ¬ size < 0 ∧ ¬ 1500 < size ∧ sent < 0) ∨ (late = false ∧ ¬ size < 0 ∧ ¬ 1500 < size ∧ ¬ sent < 0 ∧ 1125899906842624 < sent) ∨
      (late = false ∧ ¬ size < 0 ∧ ¬ 1500 < size ∧ ¬ sent < 0 ∧ ¬ 1125899906842624 < sent ∧ came < -1125899906842624) ∨ (late = false ∧ ¬ size < 0 ∧ ¬ 1500 < size ∧ ¬ sent < 0 ∧ ¬ 1125899906842624 < sent ∧ ¬ came < -1125899906842624 ∧ 1125899906842624 < came) := by
    unfold badA at h
    cases late
    · simp only [Bool.false_eq_true, false_or] at h
      simp only [Bool.false_eq_true, false_or, true_and]
      omega
    · exact .inl rfl
  clear h
  rcases h' with rfl | ⟨rfl, h1⟩ | ⟨rfl, h1, h2⟩ | ⟨rfl, h1, h2, h3⟩ | ⟨rfl, h1, h2, h3, h4⟩ | ⟨rfl, h1, h2, h3, h4, h5⟩ | ⟨rfl, h1, h2, h3, h4, h5, h6⟩
  all_goals
    go_enter Try.func9, Try.ntmps9
    go_wp2
    refine bodyPost_ret (v := .tuple #[.agg #[.int .i64 0, .int .i64 0, .int .i64 0], .bool false]) (by simp [results, Try.results9, go_sem]) rfl ⟨rfl, ?_⟩
    exact ((Below.refl _ _).alloc (Nat.le_refl _) _).alloc (by simp) _
set_option maxHeartbeats 1000000 in
theorem begins_any (seq size sent came : Int) (late ecn : Bool) (p : Nat) (w : World) (f l c s : Int) (o : Bool) (d : Option Addr) (b : Int) (h : GR w p f l c s o d b) :
    Calls Try.prog 17 #[.pointer (some ⟨p, 0, none⟩), ack seq size sent came late ecn] w fun e w' => e = .returned (.tuple #[]) ∧ GR w' p sent sent came size true d b ∧ Kept (fun k => k = p) w w' := by
  unfold ack
  obtain ⟨c0, c1, c2, c3, c4, c5, c6, hf, hp⟩ := h.cells
  have f0 := hf 0
  have f1 := hf 1
  have f2 := hf 2
  have f3 := hf 3
  have f4 := hf 4
  have H := Lib.hid h
  clear h hf
  go_enter Try.func17, Try.ntmps17
  go_wp2
  refine bodyPost_end (results_none rfl _ _ _) rfl ⟨rfl, ?_⟩
  have h0 := H.out
  exact ⟨((((h0.set0 sent).set1 sent).set2 came).set3 size).set4 true |>.alloc _, ((((((Kept.refl _ w).setCell (S := fun k => k = p) (p := ⟨p, 0, none⟩) (.inl rfl) _).setCell (p := ⟨p, 1, none⟩) (.inl rfl) _).setCell (p := ⟨p, 2, none⟩) (.inl rfl) _).setCell (p := ⟨p, 3, none⟩) (.inl rfl) _).setCell (p := ⟨p, 4, none⟩) (.inl rfl) _).alloc _⟩
set_option maxRecDepth 10000 in
set_option maxHeartbeats 1000000 in
theorem add_first (seq size sent came : Int) (ecn : Bool) (p : Nat) (w : World) (f l c s : Int) (d : Option Addr) (b : Int) (h : GR w p f l c s false d b)
    (h1 : ¬ size < 0) (h2 : ¬ 1500 < size) (h3 : ¬ sent < 0) (h4 : ¬ 1125899906842624 < sent) (h5 : ¬ came < -1125899906842624) (h6 : ¬ 1125899906842624 < came) :
    Calls Try.prog 9 #[.pointer (some ⟨p, 0, none⟩), ack seq size sent came false ecn] w fun e w' => e = .returned (.tuple #[noDelta, .bool false]) ∧ GR w' p sent sent came size true d b ∧ Kept (fun k => k = p) w w' := by
  unfold ack noDelta
  obtain ⟨c0, c1, c2, c3, c4, c5, c6, hf, hp⟩ := h.cells
  have f1 := hf 1
  have f2 := hf 2
  have f3 := hf 3
  have f5 := hf 5
  have H := Lib.hid h
  clear h hf
  go_enter Try.func9, Try.ntmps9
  go_wp2_with fail
  refine (begins_any seq size sent came false ecn p _ f l c s false d b ((H.out.alloc _).alloc _)).mono ?_
  rintro e w1 ⟨rfl, hg, hk⟩
  have HG := Lib.hid hg
  have HK := Lib.hid hk
  obtain ⟨g0, g1, g2, g3, g4, g5⟩ := block3 ((hk.block (w.heap.size + 1) (by simp) (by omega)).trans (alloc2_block w _ _))
  clear hg hk
  go_wp2
  refine bodyPost_ret (v := .tuple #[.agg #[.int .i64 0, .int .i64 0, .int .i64 0], .bool false]) (by simp [results, Try.results9, go_sem, *]) rfl ⟨rfl, ?_⟩
  have K1 : Kept (fun k => k = p) w w1 := (kept_two _ w _ _).trans HK.out (fun i _ h => h)
  have hsz : w.heap.size + 2 ≤ w1.heap.size := by have := HK.out.size; simp at this; omega
  refine ⟨HG.out.kept (S := fun k => k = w.heap.size + 1) ((((Kept.refl (fun k => k = w.heap.size + 1) w1).setCell (p := ⟨w.heap.size + 1, 0, none⟩) (.inl rfl) _).setCell (p := ⟨w.heap.size + 1, 1, none⟩) (.inl rfl) _).setCell (p := ⟨w.heap.size + 1, 2, none⟩) (.inl rfl) _) (by omega), ?_⟩
  exact ((K1.setCell (p := ⟨w.heap.size + 1, 0, none⟩) (.inr (by simp)) _).setCell (p := ⟨w.heap.size + 1, 1, none⟩) (.inr (by simp)) _).setCell (p := ⟨w.heap.size + 1, 2, none⟩) (.inr (by simp)) _
set_option maxRecDepth 10000 in
set_option maxHeartbeats 1000000 in
theorem add_early (seq size sent came : Int) (ecn : Bool) (p : Nat) (w : World) (f l c s : Int) (d : Option Addr) (b : Int) (h : GR w p f l c s true d b)
    (h1 : ¬ size < 0) (h2 : ¬ 1500 < size) (h3 : ¬ sent < 0) (h4 : ¬ 1125899906842624 < sent) (h5 : ¬ came < -1125899906842624) (h6 : ¬ 1125899906842624 < came) (h7 : sent < f) :
    Calls Try.prog 9 #[.pointer (some ⟨p, 0, none⟩), ack seq size sent came false ecn] w fun e w' => e = .returned (.tuple #[noDelta, .bool false]) ∧ GR w' p f l c s true d b ∧ Kept (fun k => k = p) w w' := by
  unfold ack noDelta
  obtain ⟨c0, c1, c2, c3, c4, c5, c6, hf, hp⟩ := h.cells
  have f1 := hf 1
  have f2 := hf 2
  have f3 := hf 3
  have f5 := hf 5
  have H := Lib.hid h
  clear h hf
  have d7 : decide (sent < f) = true := decide_eq_true h7
  go_enter Try.func9, Try.ntmps9
  go_wp2
  go_quiet (fail)
  go_wp2
  refine bodyPost_ret (v := .tuple #[.agg #[.int .i64 0, .int .i64 0, .int .i64 0], .bool false]) (by simp [results, Try.results9, go_sem]) rfl ⟨rfl, ?_⟩
  exact H.out.fin (tail3 ((kept_two _ _ _ _).drewN _) (by simp) _ _ _)
attribute [local go_sem high] run_mx run_mn in
set_option maxRecDepth 10000 in
set_option maxHeartbeats 1000000 in
theorem add_in (seq size sent came : Int) (ecn : Bool) (p : Nat) (w : World) (f l c s : Int) (d : Option Addr) (b : Int) (h : GR w p f l c s true d b)
    (h1 : ¬ size < 0) (h2 : ¬ 1500 < size) (h3 : ¬ sent < 0) (h4 : ¬ 1125899906842624 < sent) (h5 : ¬ came < -1125899906842624) (h6 : ¬ 1125899906842624 < came) (h7 : ¬ sent < f) (h8 : IntKind.i64.wrap (sent - f) = sent - f) (h9 : sent - f ≤ b) (h10 : IntKind.i64.wrap (s + size) = s + size) :
    Calls Try.prog 9 #[.pointer (some ⟨p, 0, none⟩), ack seq size sent came false ecn] w fun e w' => e = .returned (.tuple #[noDelta, .bool false]) ∧ GR w' p f (mx l sent) (mx c came) (s + size) true d b ∧ Kept (fun k => k = p) w w' := by
  unfold ack noDelta
  obtain ⟨c0, c1, c2, c3, c4, c5, c6, hf, hp⟩ := h.cells
  have f1 := hf 1
  have f2 := hf 2
  have f3 := hf 3
  have f5 := hf 5
  have H := Lib.hid h
  clear h hf
  have d7 : decide (sent < f) = false := decide_eq_false h7
  have d9 : decide (sent - f ≤ b) = true := decide_eq_true h9
  go_enter Try.func9, Try.ntmps9
  go_wp2
  go_quiet (fail)
  go_wp2
  go_quiet (fail)
  go_wp2
  go_region
  go_wp2
  go_region
  go_wp2
  refine bodyPost_ret (v := .tuple #[.agg #[.int .i64 0, .int .i64 0, .int .i64 0], .bool false]) (by simp [results, Try.results9, go_sem]) rfl ⟨rfl, ?_⟩
  exact H.out.in3 hp _ _ _ _ _ _ _ _ _
set_option maxRecDepth 10000 in
set_option maxHeartbeats 1000000 in
theorem add_done0 (seq size sent came : Int) (ecn : Bool) (p : Nat) (w : World) (f l c s : Int) (b : Int) (h : GR w p f l c s true (none) b)
    (h1 : ¬ size < 0) (h2 : ¬ 1500 < size) (h3 : ¬ sent < 0) (h4 : ¬ 1125899906842624 < sent) (h5 : ¬ came < -1125899906842624) (h6 : ¬ 1125899906842624 < came) (h7 : ¬ sent < f) (h8 : IntKind.i64.wrap (sent - f) = sent - f) (h9 : ¬ sent - f ≤ b) :
    Calls Try.prog 9 #[.pointer (some ⟨p, 0, none⟩), ack seq size sent came false ecn] w fun e w' => e = .returned (.tuple #[noDelta, .bool false]) ∧ ∃ k, w.heap.size ≤ k ∧ w'.heap[k]? = some (.cells #[.int .i64 f, .int .i64 l, .int .i64 c, .int .i64 s] 62 (0, 0)) ∧ GR w' p sent sent came size true (some ⟨k, 0, none⟩) b ∧ Kept (fun k => k = p) w w' := by
  unfold ack noDelta
  obtain ⟨c0, c1, c2, c3, c4, c5, c6, hf, hp⟩ := h.cells
  have f1 := hf 1
  have f2 := hf 2
  have f3 := hf 3
  have f5 := hf 5
  have H := Lib.hid h
  clear h hf
  have d7 : decide (sent < f) = false := decide_eq_false h7
  have d9 : decide (sent - f ≤ b) = false := decide_eq_false h9
  go_enter Try.func9, Try.ntmps9
  go_wp2
  go_quiet (fail)
  go_wp2
  go_quiet (fail)
  go_wp2
  generalize hW : World.drewN _ _ = W2
  have hK : Kept (fun _ => False) w W2 := by rw [← hW]; exact ((kept_two _ _ _ _).drewN _).drewN _
  have hS2 : W2.heap.size = w.heap.size + 2 := by rw [← hW]; simp
  have hA : W2.heap[w.heap.size]? = some (.cells #[.int .i64 seq, .int .i64 size, .int .i64 sent, .int .i64 came, .bool false, .bool ecn] 39 (0, 0)) := by
    rw [← hW]; exact (heap_alloc_old (w.alloc _) _ (by simp)).trans (heap_alloc_new w _)
  have hB : W2.heap[w.heap.size + 1]? = some (.cells #[.int .i64 0, .int .i64 0, .int .i64 0] 33 (0, 0)) := by rw [← hW]; exact alloc2_block w _ _
  have HG2 := Lib.hid (H.out.kept hK id)
  have HK2 := Lib.hid hK
  have HA := Lib.hid hA
  have HB := Lib.hid hB
  clear c0 c1 c2 c3 c4 c5 c6 f1 f2 f3 f5 hW hK hA hB
  obtain ⟨c0, c1, c2, c3, c4, c5, c6, hf, hp2⟩ := HG2.out.cells
  have f5 := hf 5
  have a0 : ∀ x, (W2.alloc x).cell? ⟨p, 0, none⟩ = some (.int .i64 f) := fun x => (HG2.out.alloc x).cells.1
  have a1 : ∀ x, (W2.alloc x).cell? ⟨p, 1, none⟩ = some (.int .i64 l) := fun x => (HG2.out.alloc x).cells.2.1
  have a2 : ∀ x, (W2.alloc x).cell? ⟨p, 2, none⟩ = some (.int .i64 c) := fun x => (HG2.out.alloc x).cells.2.2.1
  have a3 : ∀ x, (W2.alloc x).cell? ⟨p, 3, none⟩ = some (.int .i64 s) := fun x => (HG2.out.alloc x).cells.2.2.2.1
  have a5 : ∀ x, (W2.alloc x).cell? ⟨p, 5, none⟩ = some (.pointer none) := fun x => (HG2.out.alloc x).cells.2.2.2.2.2.1
  clear hf
  go_region
  generalize hW : World.drew _ = W3
  have hS3 : W3.heap.size = w.heap.size + 3 := by rw [← hW]; simp; omega
  have hG3 : GR W3 p f l c s true none b := by rw [← hW]; exact (HG2.out.alloc _).drew
  have hK3 : Kept (fun _ => False) W2 W3 := by rw [← hW]; exact ((Kept.refl _ W2).alloc _).drew
  have hD3 : W3.heap[w.heap.size + 2]? = some (.cells #[.int .i64 f, .int .i64 l, .int .i64 c, .int .i64 s] 62 (0, 0)) := by
    rw [← hW]
    have h := heap_alloc_new W2 (.cells #[.int .i64 f, .int .i64 l, .int .i64 c, .int .i64 s] 62 (0, 0))
    rw [hS2] at h
    exact h
  have hA3 := (hK3.block w.heap.size (by omega) id).trans HA.out
  have hB3 := (hK3.block (w.heap.size + 1) (by omega) id).trans HB.out
  obtain ⟨b0, b1, b2, b3, b4, b5⟩ := block6 hA3
  have HG3 := Lib.hid hG3
  have HK3 := Lib.hid hK3
  have HD3 := Lib.hid hD3
  have HB3 := Lib.hid hB3
  clear hW c0 c1 c2 c3 c4 c5 c6 f5 a0 a1 a2 a3 a5 hG3 hK3 hD3 hA3 hB3
  obtain ⟨c0, c1, c2, c3, c4, c5, c6, hf, hp3⟩ := HG3.out.cells
  have f5 := hf 5
  have ne1 : w.heap.size ≠ p := by omega
  have ne2 : p ≠ w.heap.size := by omega
  clear hf
  go_wp2_with fail
  refine (begins_any seq size sent came false ecn p _ f l c s true _ b (HG3.out.set5 _)).mono ?_
  rintro e w4 ⟨rfl, hg, hk⟩
  have K4 : Kept (fun k => k = p) W3 w4 := ((Kept.refl _ W3).setCell (S := fun k => k = p) (p := ⟨p, 5, none⟩) (.inl rfl) _).trans hk (fun i _ h => h)
  have KW : Kept (fun k => k = p) w w4 := ((HK2.out.trans HK3.out (fun _ _ h => h)).mono (fun _ _ h => h.elim) : Kept (fun k => k = p) w W3).trans K4 (fun i _ h => h)
  obtain ⟨g0, g1, g2, g3, g4, g5⟩ := block3 ((K4.block (w.heap.size + 1) (by omega) (by omega)).trans HB3.out)
  have hD4 := (K4.block (w.heap.size + 2) (by omega) (by omega)).trans HD3.out
  have hs4 : w.heap.size + 3 ≤ w4.heap.size := by have := K4.size; omega
  have HG4 := Lib.hid hg
  have HK4 := Lib.hid KW
  have HD4 := Lib.hid hD4
  clear hg hk K4 KW hD4 b0 b1 b2 b3 b4 b5 c0 c1 c2 c3 c4 c5 c6 f5
  go_wp2
  refine bodyPost_ret (v := .tuple #[.agg #[.int .i64 0, .int .i64 0, .int .i64 0], .bool false]) (by simp [results, Try.results9, go_sem, *]) rfl ⟨rfl, ?_⟩
  have T := tail3' w4 (w.heap.size + 1) (.int .i64 0) (.int .i64 0) (.int .i64 0)
  exact ⟨w.heap.size + 2, by omega, (T.block _ (by omega) (by omega)).trans HD4.out, HG4.out.kept T (by omega), tail3 HK4.out (by omega) _ _ _⟩
set_option maxRecDepth 10000 in
set_option maxHeartbeats 1000000 in
theorem open_any (p : Nat) (w : World) (f l c s : Int) (o : Bool) (d : Option Addr) (b : Int) (h : GR w p f l c s o d b) :
    Calls Try.prog 14 #[.pointer (some ⟨p, 0, none⟩)] w fun e w' => e = .returned (if o then .tuple #[.int .i64 f, .int .i64 l, .int .i64 c, .int .i64 s, .bool true] else .tuple #[.int .i64 0, .int .i64 0, .int .i64 0, .int .i64 0, .bool false]) ∧ ∃ q, w' = w.drewN q := by
  obtain ⟨c0, c1, c2, c3, c4, c5, c6, hf, hp⟩ := h.cells
  clear h hf
  cases o
  · go_enter Try.func14, Try.ntmps14
    go_wp2
    refine bodyPost_ret (v := .tuple #[.int .i64 0, .int .i64 0, .int .i64 0, .int .i64 0, .bool false]) (by simp [results, Try.results14, go_sem]) rfl ⟨rfl, 0, rfl⟩
  · go_enter Try.func14, Try.ntmps14
    go_wp2
    go_quiet (fail)
    go_wp2
    refine bodyPost_ret (v := .tuple #[.int .i64 f, .int .i64 l, .int .i64 c, .int .i64 s, .bool true]) (by simp [results, Try.results14, go_sem]) rfl ⟨rfl, _, rfl⟩
end Go.Proofs.Ytdpaknpiedoblaa.Group
