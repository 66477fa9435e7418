/- The reference's Add inside the open group and behind it; no condition but the ranges in each. -/
import Derived.Test.YtdpaknpiedoblaaGroupRef
namespace Go.Proofs.Ytdpaknpiedoblaa.Group
open Go.RowKit Go.Proofs.Ytdpaknpiedoblaa.Plain Go.Proofs.Ytdpaknpiedoblaa.Heap

/-- What is put at place 1 of the grouper behind other allocations, and the result's zeros. -/
theorem ref_put1 {w W5 : World} {p : Nat} {b : Int} {so sd : Value} (hK : Kept (fun _ => False) w W5) (h : QR W5 p b so sd) (hp : p < w.heap.size) (hs : w.heap.size + 1 < W5.heap.size) (t : TypeId) (f l c s : Int) (x y z : Value) :
    ∃ so', QR (((((W5.alloc (.cells #[.int .i64 f, .int .i64 l, .int .i64 c, .int .i64 s] t)).setCell ⟨p, 1, none⟩ (.slice (some ⟨W5.heap.size, 0, none⟩) 1 1)).setCell ⟨w.heap.size + 1, 0, none⟩ x).setCell ⟨w.heap.size + 1, 1, none⟩ y).setCell ⟨w.heap.size + 1, 2, none⟩ z) p b so' sd ∧
      SL (((((W5.alloc (.cells #[.int .i64 f, .int .i64 l, .int .i64 c, .int .i64 s] t)).setCell ⟨p, 1, none⟩ (.slice (some ⟨W5.heap.size, 0, none⟩) 1 1)).setCell ⟨w.heap.size + 1, 0, none⟩ x).setCell ⟨w.heap.size + 1, 1, none⟩ y).setCell ⟨w.heap.size + 1, 2, none⟩ z) p so' (some (f, l, c, s)) ∧
      Kept (fun k => k = p) w (((((W5.alloc (.cells #[.int .i64 f, .int .i64 l, .int .i64 c, .int .i64 s] t)).setCell ⟨p, 1, none⟩ (.slice (some ⟨W5.heap.size, 0, none⟩) 1 1)).setCell ⟨w.heap.size + 1, 0, none⟩ x).setCell ⟨w.heap.size + 1, 1, none⟩ y).setCell ⟨w.heap.size + 1, 2, none⟩ z) := by
  have K6 := hK.alloc (.cells #[.int .i64 f, .int .i64 l, .int .i64 c, .int .i64 s] t)
  have hN := heap_alloc_new W5 (.cells #[.int .i64 f, .int .i64 l, .int .i64 c, .int .i64 s] t)
  have hq : QR (W5.alloc (.cells #[.int .i64 f, .int .i64 l, .int .i64 c, .int .i64 s] t)) p b so sd := (((Kept.refl (fun _ => False) W5).alloc _).block p (by omega) id).trans h
  have hs6 : (W5.alloc (.cells #[.int .i64 f, .int .i64 l, .int .i64 c, .int .i64 s] t)).heap.size = W5.heap.size + 1 := by simp
  generalize hk0 : W5.heap.size = k0 at *
  generalize W5.alloc (.cells #[.int .i64 f, .int .i64 l, .int .i64 c, .int .i64 s] t) = W6 at *
  have K7 : Kept (fun k => k = p) W6 (W6.setCell ⟨p, 1, none⟩ (.slice (some ⟨k0, 0, none⟩) 1 1)) := (Kept.refl (fun k => k = p) W6).setCell (p := ⟨p, 1, none⟩) (.inl rfl) _
  have hq7 : QR (W6.setCell ⟨p, 1, none⟩ (.slice (some ⟨k0, 0, none⟩) 1 1)) p b (.slice (some ⟨k0, 0, none⟩) 1 1) sd := by
    unfold QR at hq ⊢
    simp [World.setCell, Array.getElem?_modify, hq]
  have hN7 := (K7.block k0 (by omega) (by omega)).trans hN
  have hs7 : W6.heap.size ≤ (W6.setCell ⟨p, 1, none⟩ (.slice (some ⟨k0, 0, none⟩) 1 1)).heap.size := K7.size
  generalize W6.setCell ⟨p, 1, none⟩ (.slice (some ⟨k0, 0, none⟩) 1 1) = W7 at *
  have T := tail3' W7 (w.heap.size + 1) x y z
  refine ⟨_, (T.block p (by omega) (by omega)).trans hq7, .inr ⟨f, l, c, s, k0, t, rfl, rfl, by omega, (T.block _ (by omega) (by omega)).trans hN7⟩, ?_⟩
  exact tail3 ((K6.mono (fun _ _ h => h.elim) : Kept (fun k => k = p) w W6).trans K7 (fun _ _ h => h)) (by omega) x y z
attribute [local go_sem high] run_mx run_mn in
set_option maxRecDepth 10000 in
set_option maxHeartbeats 4000000 in
theorem ref_add_in (seq size sent came : Int) (ecn : Bool) (p : Nat) (w : World) (b : Int) (sd : Value) (f l c s : Int) (k : Nat) (t : TypeId) (h : QR w p b (.slice (some ⟨k, 0, none⟩) 1 1) sd) (hk : w.heap[k]? = some (.cells #[.int .i64 f, .int .i64 l, .int .i64 c, .int .i64 s] t (0, 0)))
    (h1 : ¬ size < 0) (h2 : ¬ 1500 < size) (h3 : ¬ sent < 0) (h4 : ¬ 1125899906842624 < sent) (h5 : ¬ came < -1125899906842624) (h6 : ¬ 1125899906842624 < came) (h7 : ¬ sent < f) (h8 : IntKind.i64.wrap (sent - f) = sent - f) (h9 : sent - f ≤ b) (h10 : IntKind.i64.wrap (s + size) = s + size) :
    Calls Try.prog 13 #[.pointer (some ⟨p, 0, none⟩), ack seq size sent came false ecn] w fun e w' => e = .returned (.tuple #[noDelta, .bool false]) ∧
      ∃ so, QR w' p b so sd ∧ SL w' p so (some (f, mx l sent, mx c came, s + size)) ∧ Kept (fun k => k = p) w w' := by
  unfold ack noDelta
  obtain ⟨c0, c1, c2, hf, hp⟩ := h.cells
  obtain ⟨x0, x1, x2, x3⟩ := block4 hk
  have hkl : k < w.heap.size := (Array.getElem?_eq_some_iff.1 hk).1
  have H := Lib.hid h
  have f1 := hf 1
  have z0 := cell4 c0 hp
  have z1 := cell3 c1 hp
  have z2 := froz4 f1 hp
  have y0 := cell3 x0 hkl
  have y1 := cell3 x1 hkl
  have y2 := cell3 x2 hkl
  have y3 := cell3 x3 hkl
  have n1 : p ≠ w.heap.size + 1 := by omega
  have n2 : w.heap.size + 1 ≠ p := by omega
  have d7 : decide (sent < f) = false := decide_eq_false h7
  have d9 : decide (sent - f ≤ b) = true := decide_eq_true h9
  clear h hf c0 c2 x0 x1 x2 x3 hk
  go_enter Try.func13, Try.ntmps13
  go_wp2
  go_quiet (fail)
  go_wp2
  generalize hW : World.drewN _ _ = W4
  have hA := alloc4_facts w (.cells #[.int .i64 seq, .int .i64 size, .int .i64 sent, .int .i64 came, .bool false, .bool ecn] 39) (.cells #[.int .i64 0, .int .i64 0, .int .i64 0] 47) (.cells #[.int .i64 sent, .int .i64 sent, .int .i64 came, .int .i64 size] 31) (.cells #[.int .i64 f, .int .i64 l, .int .i64 c, .int .i64 s] 31)
  have hK : Kept (fun _ => False) w W4 := by rw [← hW]; exact (hA _).1
  have hS : W4.heap.size = w.heap.size + 1 + 1 + 1 + 1 := by rw [← hW]; exact (hA _).2.1
  have hO : W4.heap[w.heap.size + 1 + 1 + 1]? = some (.cells #[.int .i64 f, .int .i64 l, .int .i64 c, .int .i64 s] 31 (0, 0)) := by rw [← hW]; exact (hA _).2.2.1
  have hD : W4.heap[w.heap.size + 1]? = some (.cells #[.int .i64 0, .int .i64 0, .int .i64 0] 47 (0, 0)) := by rw [← hW]; exact (hA _).2.2.2.2.1
  have hX : W4.heap[w.heap.size]? = some (.cells #[.int .i64 seq, .int .i64 size, .int .i64 sent, .int .i64 came, .bool false, .bool ecn] 39 (0, 0)) := by rw [← hW]; exact (hA _).2.2.2.2.2
  clear hW hA z0 z1 z2 y0 y1 y2 y3
  have HQ := Lib.hid (show QR W4 p b (.slice (some ⟨k, 0, none⟩) 1 1) sd from (hK.block p hp id).trans H.out)
  obtain ⟨o0, o1, o2, o3⟩ := block4 hO
  have g0 := frozen_block hO 0
  have g1 := frozen_block hO 1
  have g2 := frozen_block hO 2
  have g3 := frozen_block hO 3
  obtain ⟨e0, e1, e2, e3, e4, e5⟩ := block3 hD
  have HO := Lib.hid hO
  have HD := Lib.hid hD
  have HK := Lib.hid hK
  obtain ⟨i0, i1, i2, i3, i4, i5⟩ := block6 hX
  clear hO hD hK hX
  have n3 : p ≠ w.heap.size + 1 + 1 + 1 := by omega
  have n4 : w.heap.size + 1 + 1 + 1 ≠ p := by omega
  have n5 : w.heap.size + 1 + 1 + 1 ≠ w.heap.size + 1 := by omega
  have n6 : w.heap.size + 1 ≠ w.heap.size + 1 + 1 + 1 := by omega
  have p1 : W4.cell? ⟨p, 1, none⟩ = some (.slice (some ⟨k, 0, none⟩) 1 1) := HQ.out.cells.2.1
  have p2 : W4.frozen? ⟨p, 1, none⟩ = false := HQ.out.cells.2.2.2.1 1
  go_region
  generalize hW : World.setCell _ ⟨w.heap.size + 1 + 1 + 1, 3, none⟩ _ = W5
  have hO5 : W5.heap[w.heap.size + 1 + 1 + 1]? = some (.cells #[.int .i64 f, .int .i64 (mx l sent), .int .i64 (mx c came), .int .i64 (s + size)] 31 (0, 0)) := by
    rw [← hW]
    have h := HO.out
    simp [World.setCell, Array.getElem?_modify, h]
  have hK5 : Kept (fun k => k = w.heap.size + 1 + 1 + 1) W4 W5 := by
    rw [← hW]
    exact (((Kept.refl (fun k => k = w.heap.size + 1 + 1 + 1) W4).setCell (p := ⟨w.heap.size + 1 + 1 + 1, 1, none⟩) (.inl rfl) _).setCell (p := ⟨w.heap.size + 1 + 1 + 1, 2, none⟩) (.inl rfl) _).setCell (p := ⟨w.heap.size + 1 + 1 + 1, 3, none⟩) (.inl rfl) _
  clear hW o0 o1 o2 o3 g0 g1 g2 g3 e0 e1 e2 e3 e4 e5 i0 i1 i2 i3 i4 i5 p1 p2
  have hs5 : w.heap.size + 1 + 1 + 1 < W5.heap.size := (Array.getElem?_eq_some_iff.1 hO5).1
  have hD5 := (hK5.block (w.heap.size + 1) (by omega) (by omega)).trans HD.out
  have hQ5 : QR W5 p b (.slice (some ⟨k, 0, none⟩) 1 1) sd := (hK5.block p (by omega) (by omega)).trans HQ.out
  have hK : Kept (fun _ => False) w W5 := HK.out.trans hK5 (fun i hi h => by subst h; omega)
  obtain ⟨o0, o1, o2, o3⟩ := block4 hO5
  have p1 : ∀ x, (W5.alloc x).cell? ⟨p, 1, none⟩ = some (.slice (some ⟨k, 0, none⟩) 1 1) := fun x => ((Kept.refl (fun _ => False) W5).alloc x).cell (p := ⟨p, 1, none⟩) (by show p < _; omega) id |>.trans hQ5.cells.2.1
  have p2 : ∀ x, (W5.alloc x).frozen? ⟨p, 1, none⟩ = false := fun x => ((Kept.refl (fun _ => False) W5).alloc x).frozen (p := ⟨p, 1, none⟩) (by show p < _; omega) id |>.trans (hQ5.cells.2.2.2.1 1)
  have hDx : ∀ x, (W5.alloc x).heap[w.heap.size + 1]? = some (.cells #[.int .i64 0, .int .i64 0, .int .i64 0] 47 (0, 0)) := fun x => (heap_alloc_old W5 x (by omega)).trans hD5
  have d0 : ∀ x, (W5.alloc x).cell? ⟨w.heap.size + 1, 0, none⟩ = some (.int .i64 0) := fun x => (block3 (hDx x)).1
  have d1 : ∀ x, (W5.alloc x).cell? ⟨w.heap.size + 1, 1, none⟩ = some (.int .i64 0) := fun x => (block3 (hDx x)).2.1
  have d2 : ∀ x, (W5.alloc x).cell? ⟨w.heap.size + 1, 2, none⟩ = some (.int .i64 0) := fun x => (block3 (hDx x)).2.2.1
  have d3 : ∀ x, (W5.alloc x).frozen? ⟨w.heap.size + 1, 0, none⟩ = false := fun x => (block3 (hDx x)).2.2.2.1
  have d4 : ∀ x, (W5.alloc x).frozen? ⟨w.heap.size + 1, 1, none⟩ = false := fun x => (block3 (hDx x)).2.2.2.2.1
  have d5 : ∀ x, (W5.alloc x).frozen? ⟨w.heap.size + 1, 2, none⟩ = false := fun x => (block3 (hDx x)).2.2.2.2.2
  have HQ5 := Lib.hid hQ5
  have HK5 := Lib.hid hK
  clear hO5 hK5 hD5 hQ5 hK hDx HO HD HK HQ
  go_wp2
  refine bodyPost_ret (v := .tuple #[.agg #[.int .i64 0, .int .i64 0, .int .i64 0], .bool false]) (by simp [results, Try.results13, go_sem, *]) rfl ⟨rfl, ?_⟩
  obtain ⟨so', ha, hb, hc⟩ := ref_put1 HK5.out HQ5.out hp (by omega) 31 f (mx l sent) (mx c came) (s + size) (.int .i64 0) (.int .i64 0) (.int .i64 0)
  exact ⟨so', ha, hb, hc.drew⟩
end Go.Proofs.Ytdpaknpiedoblaa.Group
