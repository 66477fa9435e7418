/- The grouper's Add that ends a group behind a done one; no condition but the ranges in it. -/
import Derived.Test.YtdpaknpiedoblaaGroupFn
namespace Go.Proofs.Ytdpaknpiedoblaa.Group
open Go.RowKit Go.Proofs.Ytdpaknpiedoblaa.Plain Go.Proofs.Ytdpaknpiedoblaa.Heap

set_option maxRecDepth 10000 in
set_option maxHeartbeats 16000000 in
theorem add_done1 (seq size sent came : Int) (ecn : Bool) (p : Nat) (w : World) (f l c s : Int) (b : Int) (k0 : Nat) (f0 l0 q0 s0 : Int) (h : GR w p f l c s true (some ⟨k0, 0, none⟩) b)
    (h1 : ¬ size < 0) (h2 : ¬ 1500 < size) (h3 : ¬ sent < 0) (h4 : ¬ 1125899906842624 < sent) (h5 : ¬ came < -1125899906842624) (h6 : ¬ 1125899906842624 < came) (h7 : ¬ sent < f) (h8 : IntKind.i64.wrap (sent - f) = sent - f) (h9 : ¬ sent - f ≤ b) (h10 : k0 ≠ p) (hd : w.heap[k0]? = some (.cells #[.int .i64 f0, .int .i64 l0, .int .i64 q0, .int .i64 s0] 62 (0, 0)))
    (hl : -9223372036854775808 ≤ l ∧ l ≤ 9223372036854775807) (hc : -9223372036854775808 ≤ c ∧ c ≤ 9223372036854775807) (hl0 : -9223372036854775808 ≤ l0 ∧ l0 ≤ 9223372036854775807) (hq0 : -9223372036854775808 ≤ q0 ∧ q0 ≤ 9223372036854775807) (hs0 : IntKind.i64.wrap (s - s0) = s - s0) :
    Calls Try.prog 9 #[.pointer (some ⟨p, 0, none⟩), ack seq size sent came false ecn] w fun e w' => e = .returned (.tuple #[.agg #[.int .i64 (Sat.clamp64 (l - l0)), .int .i64 (Sat.clamp64 (c - q0)), .int .i64 (s - s0)], .bool true]) ∧ ∃ k, w.heap.size ≤ k ∧ w'.heap[k]? = some (.cells #[.int .i64 f, .int .i64 l, .int .i64 c, .int .i64 s] 62 (0, 0)) ∧ GR w' p sent sent came size true (some ⟨k, 0, none⟩) b ∧ Kept (fun k => k = p) w w' := by
  unfold ack
  have hk0 : k0 < w.heap.size := (Array.getElem?_eq_some_iff.1 hd).1
  have HD0 := Lib.hid hd
  have HL := Lib.hid hl
  have HC := Lib.hid hc
  have HL0 := Lib.hid hl0
  have HQ0 := Lib.hid hq0
  clear hd hl hc hl0 hq0
  obtain ⟨c0, c1, c2, c3, c4, c5, c6, hf, hp⟩ := h.cells
  have f1 := hf 1
  have f2 := hf 2
  have f3 := hf 3
  have f5 := hf 5
  have H := Lib.hid h
  clear h hf
  have d7 : decide (sent < f) = false := decide_eq_false h7
  have d9 : decide (sent - f ≤ b) = false := decide_eq_false h9
  go_enter Try.func9, Try.ntmps9
  go_wp2
  go_quiet (fail)
  go_wp2
  go_quiet (fail)
  go_wp2
  generalize hW : World.drewN _ _ = W2
  have hK : Kept (fun _ => False) w W2 := by rw [← hW]; exact ((kept_two _ _ _ _).drewN _).drewN _
  have hS2 : W2.heap.size = w.heap.size + 2 := by rw [← hW]; simp
  have hA : W2.heap[w.heap.size]? = some (.cells #[.int .i64 seq, .int .i64 size, .int .i64 sent, .int .i64 came, .bool false, .bool ecn] 39 (0, 0)) := by
    rw [← hW]; exact (heap_alloc_old (w.alloc _) _ (by simp)).trans (heap_alloc_new w _)
  have hB : W2.heap[w.heap.size + 1]? = some (.cells #[.int .i64 0, .int .i64 0, .int .i64 0] 33 (0, 0)) := by rw [← hW]; exact alloc2_block w _ _
  have HG2 := Lib.hid (H.out.kept hK id)
  have HK2 := Lib.hid hK
  have HA := Lib.hid hA
  have HB := Lib.hid hB
  clear c0 c1 c2 c3 c4 c5 c6 f1 f2 f3 f5 hW hK hA hB
  obtain ⟨c0, c1, c2, c3, c4, c5, c6, hf, hp2⟩ := HG2.out.cells
  have f5 := hf 5
  have a0 : ∀ x, (W2.alloc x).cell? ⟨p, 0, none⟩ = some (.int .i64 f) := fun x => (HG2.out.alloc x).cells.1
  have a1 : ∀ x, (W2.alloc x).cell? ⟨p, 1, none⟩ = some (.int .i64 l) := fun x => (HG2.out.alloc x).cells.2.1
  have a2 : ∀ x, (W2.alloc x).cell? ⟨p, 2, none⟩ = some (.int .i64 c) := fun x => (HG2.out.alloc x).cells.2.2.1
  have a3 : ∀ x, (W2.alloc x).cell? ⟨p, 3, none⟩ = some (.int .i64 s) := fun x => (HG2.out.alloc x).cells.2.2.2.1
  have a5 : ∀ x, (W2.alloc x).cell? ⟨p, 5, none⟩ = some (.pointer (some ⟨k0, 0, none⟩)) := fun x => (HG2.out.alloc x).cells.2.2.2.2.2.1
  clear hf
  go_region
  generalize hW : World.drew _ = W3
  have hS3 : W3.heap.size = w.heap.size + 3 := by rw [← hW]; simp; omega
  have hG3 : GR W3 p f l c s true (some ⟨k0, 0, none⟩) b := by rw [← hW]; exact (HG2.out.alloc _).drew
  have hK3 : Kept (fun _ => False) W2 W3 := by rw [← hW]; exact ((Kept.refl _ W2).alloc _).drew
  have hD3 : W3.heap[w.heap.size + 2]? = some (.cells #[.int .i64 f, .int .i64 l, .int .i64 c, .int .i64 s] 62 (0, 0)) := by
    rw [← hW]
    have h := heap_alloc_new W2 (.cells #[.int .i64 f, .int .i64 l, .int .i64 c, .int .i64 s] 62 (0, 0))
    rw [hS2] at h
    exact h
  have hA3 := (hK3.block w.heap.size (by omega) id).trans HA.out
  have hB3 := (hK3.block (w.heap.size + 1) (by omega) id).trans HB.out
  obtain ⟨b0, b1, b2, b3, b4, b5⟩ := block6 hA3
  have HG3 := Lib.hid hG3
  have HK3 := Lib.hid hK3
  have HD3 := Lib.hid hD3
  have HB3 := Lib.hid hB3
  clear hW c0 c1 c2 c3 c4 c5 c6 f5 a0 a1 a2 a3 a5 hG3 hK3 hD3 hA3 hB3
  obtain ⟨c0, c1, c2, c3, c4, c5, c6, hf, hp3⟩ := HG3.out.cells
  have f5 := hf 5
  have ne1 : w.heap.size ≠ p := by omega
  have ne2 : p ≠ w.heap.size := by omega
  clear hf
  go_wp2_with fail
  refine (begins_any seq size sent came false ecn p _ f l c s true _ b (HG3.out.set5 _)).mono ?_
  rintro e w4 ⟨rfl, hg, hk⟩
  have K4 : Kept (fun k => k = p) W3 w4 := ((Kept.refl _ W3).setCell (S := fun k => k = p) (p := ⟨p, 5, none⟩) (.inl rfl) _).trans hk (fun i _ h => h)
  have KW : Kept (fun k => k = p) w w4 := ((HK2.out.trans HK3.out (fun _ _ h => h)).mono (fun _ _ h => h.elim) : Kept (fun k => k = p) w W3).trans K4 (fun i _ h => h)
  obtain ⟨g0, g1, g2, g3, g4, g5⟩ := block3 ((K4.block (w.heap.size + 1) (by omega) (by omega)).trans HB3.out)
  have hD4 := (K4.block (w.heap.size + 2) (by omega) (by omega)).trans HD3.out
  have hs4 : w.heap.size + 3 ≤ w4.heap.size := by have := K4.size; omega
  have HG4 := Lib.hid hg
  have HK4 := Lib.hid KW
  have HD4 := Lib.hid hD4
  have hd4 := (HK4.out.block k0 hk0 h10).trans HD0.out
  have HE4 := Lib.hid hd4
  have HB4 := Lib.hid ((K4.block (w.heap.size + 1) (by omega) (by omega)).trans HB3.out)
  obtain ⟨d0, d1, d2, d3⟩ := block4 hD4
  obtain ⟨e0, e1, e2, e3⟩ := block4 hd4
  clear hg hk K4 KW hD4 hd4 b0 b1 b2 b3 b4 b5 c0 c1 c2 c3 c4 c5 c6 f5
  go_wp2
  have n1 : k0 ≠ w.heap.size + 1 := by omega
  have n2 : w.heap.size + 1 ≠ k0 := by omega
  go_region_held3 (fun w' => w'.cell? ⟨w.heap.size + 2, 1, none⟩ = some (.int .i64 l) ∧ w'.cell? ⟨w.heap.size + 2, 2, none⟩ = some (.int .i64 c) ∧ w'.cell? ⟨w.heap.size + 2, 3, none⟩ = some (.int .i64 s) ∧
      w'.cell? ⟨k0, 1, none⟩ = some (.int .i64 l0) ∧ w'.cell? ⟨k0, 2, none⟩ = some (.int .i64 q0) ∧ w'.cell? ⟨k0, 3, none⟩ = some (.int .i64 s0)) (first | exact ⟨d1, d2, d3, e1, e2, e3⟩ | (refine ⟨?_, ?_, ?_, ?_, ?_, ?_⟩ <;> assumption) | go_keep)
    (first
      | (go_at_call 18; refine (Sat.sub_any l l0 _ HL.out.1 HL.out.2 HL0.out.1 HL0.out.2).mono ?_; rintro e w5 ⟨rfl, hb5⟩; have Q5 := Lib.hid (show Below w4.heap.size w4 w5 from ⟨hb5.os, hb5.tape, hb5.output, hb5.size, hb5.block⟩); clear hb5; obtain ⟨_, u1, u2, u3⟩ := block4 ((Q5.out.block (w.heap.size + 2) (by omega)).trans HD4.out); obtain ⟨_, v1, v2, v3⟩ := block4 ((Q5.out.block k0 (by omega)).trans HE4.out))
      | (go_at_call 18; refine (Sat.sub_any c q0 _ HC.out.1 HC.out.2 HQ0.out.1 HQ0.out.2).mono ?_; rintro e w6 ⟨rfl, hb6⟩; have Q6 := Lib.hid (Q5.out.trans (hb6.mono Q5.out.size)); clear hb6; obtain ⟨_, u4, u5, u6⟩ := block4 ((Q6.out.block (w.heap.size + 2) (by omega)).trans HD4.out); obtain ⟨_, v4, v5, v6⟩ := block4 ((Q6.out.block k0 (by omega)).trans HE4.out); obtain ⟨y0, y1, y2, y3, y4, y5⟩ := block3 ((Q6.out.block (w.heap.size + 1) (by omega)).trans HB4.out)))
  have hs6 : w4.heap.size ≤ w6.heap.size := Q6.out.size
  have K6 := Lib.hid (Kept.of_below (S := fun k => k = p) Q6.out)
  have HG6 := Lib.hid (HG4.out.kept (Kept.of_below (S := fun _ => False) Q6.out) id)
  have HD6 := Lib.hid ((Q6.out.block (w.heap.size + 2) (by omega)).trans HD4.out)
  go_wp2
  refine bodyPost_ret (v := .tuple #[.agg #[.int .i64 (Sat.clamp64 (l - l0)), .int .i64 (Sat.clamp64 (c - q0)), .int .i64 (s - s0)], .bool true]) (by simp [results, Try.results9, go_sem, *]) rfl ⟨rfl, ?_⟩
  have T := tail3' w6 (w.heap.size + 1) (.int .i64 (Sat.clamp64 (l - l0))) (.int .i64 (Sat.clamp64 (c - q0))) (.int .i64 (s - s0))
  exact ⟨w.heap.size + 2, by omega, (T.block _ (by omega) (by omega)).trans HD6.out, HG6.out.kept T (by omega), tail3 (HK4.out.trans K6.out (fun i _ h => h)) (by omega) _ _ _⟩
end Go.Proofs.Ytdpaknpiedoblaa.Group
