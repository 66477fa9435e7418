/- GroupLate: what it comes to; no condition but what data there is. -/
import Derived.Test.YtdpaknpiedoblaaGroupLaw4
namespace Go.Proofs.Ytdpaknpiedoblaa.Group
open Go.RowKit Go.Proofs.Ytdpaknpiedoblaa.Plain Go.Proofs.Ytdpaknpiedoblaa.Heap Go.Proofs.Ytdpaknpiedoblaa.Open

/-- The packet at a place of a slice. -/
theorem acks_at {w : World} {A : Option Addr} {n : Nat} {zs : List ((Int × Int × Int) × Int × Bool × Bool)} (h : Els 6 rAck w A n zs) {k : Nat} (hk : k < n) :
    ∃ b off, A = some ⟨b, off, none⟩ ∧ b < w.heap.size ∧ ∃ a0 a1 a2 a3 a4 a5, zs[k]? = some ((a0, a1, a2), a3, a4, a5) ∧ (Lit.int .i64 a0).wf = true ∧ (Lit.int .i64 a1).wf = true ∧ (Lit.int .i64 a2).wf = true ∧ (Lit.int .i64 a3).wf = true ∧
      w.cell? ⟨b, off + k * 6, none⟩ = some (.int .i64 a0) ∧ w.cell? ⟨b, off + k * 6 + 1, none⟩ = some (.int .i64 a1) ∧ w.cell? ⟨b, off + k * 6 + 2, none⟩ = some (.int .i64 a2) ∧ w.cell? ⟨b, off + k * 6 + 3, none⟩ = some (.int .i64 a3) ∧ w.cell? ⟨b, off + k * 6 + 4, none⟩ = some (.bool a4) ∧ w.cell? ⟨b, off + k * 6 + 5, none⟩ = some (.bool a5) := by
  obtain ⟨hl, _, h3⟩ := h
  obtain ⟨b, off, rfl, hb, hc⟩ := h3 (by omega)
  obtain ⟨x, hx⟩ : ∃ x, zs[k]? = some x := ⟨_, List.getElem?_eq_getElem (by omega)⟩
  obtain ⟨c, hc1, hc2, c1, c2, hc, ⟨d1, d2, hd, ⟨h1, g1⟩, e1, e2, he, ⟨h2, g2⟩, h3, g3⟩, f1, f2, hf, ⟨h4, g4⟩, i1, i2, hi, h5, h6⟩ := hc k x hx
  subst hd he hf hi h1 h2 h3 h4 h5 h6 hc
  exact ⟨b, off, rfl, hb (by omega), x.1.1, x.1.2.1, x.1.2.2, x.2.1, x.2.2.1, x.2.2.2, hx, g1, g2, g3, g4, hc2 0 _ rfl, hc2 1 _ rfl, hc2 2 _ rfl, hc2 3 _ rfl, hc2 4 _ rfl, hc2 5 _ rfl⟩
theorem late_step {b : Int} {st : St} {size sent came : Int} {late : Bool} (h : late = true ∨ ∃ f l c s, st.1 = some (f, l, c, s) ∧ sent < f) : gstep b st size sent came late = (st, 0, 0, 0, false) := by
  unfold gstep
  rcases h with rfl | ⟨f, l, c, s, e, hs⟩
  · rw [if_pos (.inl rfl)]
  · split
    · rfl
    · rw [e]
      simp only
      rw [if_pos hs]
theorem GB.away {B : Nat} {w0 w w' : World} {p : Nat} {b : Int} {st : St} {k : Nat} (h : GB B w0 w p b st) (hk : Kept (fun i => i = k) w w') (hB : B ≤ k) (hkp : p ≠ k)
    (h6 : ∀ c0 c1 c2 c3, w.heap[k]? ≠ some (.cells #[c0, c1, c2, c3] 62 (0, 0))) : GB B w0 w' p b st := by
  obtain ⟨h1, h2, h3, f, l, c, s, d, hg, he, hd⟩ := h
  refine ⟨h1, Nat.le_trans h2 hk.size, h3.trans (hk.below h2 (fun i hi => by rw [hi]; exact hB)), f, l, c, s, d, hg.kept hk hkp, he, ?_⟩
  rcases hd with h6 | ⟨k0, f0, l0, c0, s0, e1, e2, e3, e4⟩
  · exact .inl h6
  · exact .inr ⟨k0, f0, l0, c0, s0, e1, e2, e3, (hk.block k0 (Array.getElem?_eq_some_iff.1 e4).1 (by rintro rfl; exact h6 _ _ _ _ e4)).trans e4⟩
theorem GB.base {B B' : Nat} {v w0 w : World} {p : Nat} {b : Int} {st : St} (h : GB B w0 w p b st) (hb : Below B' v w0) (hB : B' ≤ B) : GB B' v w p b st := by
  obtain ⟨h1, h2, h3, r⟩ := h
  exact ⟨by omega, by omega, hb.trans (h3.mono hB), r⟩
theorem open_gb2 (B : Nat) (w0 : World) (p : Nat) (w : World) (b : Int) (st : St) (h : GB B w0 w p b st) :
    Calls Try.prog 14 #[.pointer (some ⟨p, 0, none⟩)] w fun e w' => e = .returned (oval st.1) ∧ ∃ q, w' = w.drewN q := by
  obtain ⟨h1, h2, h3, f, l, c, s, d, hg, he, hd⟩ := h
  refine (open_any p w f l c s _ d b hg).mono fun e w' ⟨k1, q, k2⟩ => ⟨?_, q, k2⟩
  rw [k1]
  cases hst : st.1 with
  | none => rfl
  | some g =>
    obtain rfl := he g hst
    rfl
set_option maxHeartbeats 1000000 in
set_option maxRecDepth 10000 in
theorem GroupLate_any (A : Option Addr) (n cp : Nat) (zs : List ((Int × Int × Int) × Int × Bool × Bool)) (c : Array Value) (z : (Int × Int × Int) × Int × Bool × Bool) (w : World) (h1 : Els 6 rAck w A n zs) (h2 : rAck w c.toList z) :
    Calls Try.prog 5 #[.slice A n cp, .agg c] w fun e w' => e = .returned (.bool true) ∧ Below w.heap.size w w' := by
  rw [ack_of h2]
  clear h2
  generalize z.1.1 = a0, z.1.2.1 = a1, z.1.2.2 = a2, z.2.1 = a3, z.2.2.1 = a4, z.2.2.2 = a5
  unfold ack
  have R1 := Lib.hid h1
  clear h1
  go_enter Try.func5, Try.ntmps5
  go_wp2_with fail
  refine (new_any 5000 _ (by decide) (by decide)).mono ?_
  rintro e w1 ⟨rfl, h1⟩
  have H1 := Lib.hid h1; clear h1
  generalize hW : w.alloc (.cells #[.int .i64 a0, .int .i64 a1, .int .i64 a2, .int .i64 a3, .bool a4, .bool a5] 39) = W0 at *
  have hS0 : W0.heap.size = w.heap.size + 1 := by rw [← hW]; simp
  have hB0 : Below w.heap.size w W0 := by rw [← hW]; exact (Below.refl _ _).alloc (Nat.le_refl _) _
  have hX0 : W0.heap[w.heap.size]? = some (.cells #[.int .i64 a0, .int .i64 a1, .int .i64 a2, .int .i64 a3, .bool a4, .bool a5] 39 (0, 0)) := by rw [← hW]; exact heap_alloc_new w _
  clear hW
  obtain ⟨p, hp⟩ : ∃ p, p = W0.heap.size := ⟨_, rfl⟩
  have H2 := Lib.hid (show GB W0.heap.size W0 w1 p 5000 (none, none) by rw [hp]; exact H1.out)
  rw [← hp]
  clear H1 hp
  have HX := Lib.hid hX0
  have HB := Lib.hid hB0
  clear hX0 hB0
  go_wp2
  go_loopw [7] (fun i wr => ∃ (k : Nat) (st : St), k ≤ 100 ∧ i = .int .i64 k ∧ okSt (1500 * (k : Int)) st ∧ GB W0.heap.size W0 wr p 5000 st) (fun i _ => 100 - (intOf i).toNat)
  case atStart => exact ⟨0, (none, none), by omega, rfl, ⟨nofun, nofun⟩, H2.out⟩
  case round =>
    obtain ⟨k, st, hk, rfl, ho, hg⟩ := hrel
    have HO := Lib.hid ho
    have HG := Lib.hid hg
    clear ho hg H2
    by_cases hgo : k < n ∧ (k : Int) < 100
    · obtain ⟨hlt, hlt2⟩ := hgo
      obtain ⟨b, off, rfl, hb, x0, x1, x2, x3, x4, x5, hz, _, _, _, _, q0, q1, q2, q3, q4, q5⟩ := acks_at R1.out hlt
      have hc : ∀ j v, w.cell? ⟨b, off + k * 6 + j, none⟩ = some v → wr.cell? ⟨b, off + k * 6 + j, none⟩ = some v := fun j v hv => (HG.out.2.2.1.cell (p := ⟨b, off + k * 6 + j, none⟩) (by show b < _; omega)).trans ((HB.out.cell (p := ⟨b, off + k * 6 + j, none⟩) hb).trans hv)
      have y0 := hc 0 _ q0
      have y1 := hc 1 _ q1
      have y2 := hc 2 _ q2
      have y3 := hc 3 _ q3
      have y4 := hc 4 _ q4
      have y5 := hc 5 _ q5
      rw [Nat.add_zero] at y0
      have H3 := Lib.hid (gstep_ok (b := 5000) (size := x1) (sent := x2) (came := x3) (late := x4) HO.out (by omega))
      clear hc q0 q1 q2 q3 q4 q5 hz
      go_wp2_with fail
      refine (add_any _ _ _ x0 x1 x2 x3 x4 x5 _ _ 5000 st HG.out HO.out (by omega)).mono ?_
      rintro e w3 ⟨rfl, h3⟩
      have H4 := Lib.hid h3; clear h3
      go_wp2
      go_roundw
      case rel =>
        refine ⟨k + 1, _, by omega, by go_num, ?_, H4.out⟩
        have := H3.out
        rwa [show 1500 * (k : Int) + 1500 = 1500 * ((k + 1 : Nat) : Int) by omega] at this
      case measure => simp [intOf]; omega
    · have hL : 1500 * (k : Int) ≤ 4611686018427387904 := by omega
      have hp : W0.heap.size ≤ p := HG.out.1
      have hXr : wr.heap[w.heap.size]? = some (.cells #[.int .i64 a0, .int .i64 a1, .int .i64 a2, .int .i64 a3, .bool a4, .bool a5] 39 (0, 0)) := (HG.out.2.2.1.block _ (by omega)).trans HX.out
      have HXR := Lib.hid hXr
      clear hXr
      obtain ⟨o, q⟩ := st
      obtain ⟨L, hL2⟩ : ∃ L, L = (a4 || !o.isSome || (match o with | none => true | some g => decide (g.1 ≤ a2))) := ⟨_, rfl⟩
      have HLS := Lib.hid (show gstep 5000 (o, q) a1 a2 a3 L = ((o, q), 0, 0, 0, false) from late_step (by
        rw [hL2]
        cases a4
        · cases o with
          | none => exact .inl rfl
          | some g =>
            by_cases hd : g.1 ≤ a2
            · exact .inl (by simp [hd])
            · exact .inr ⟨g.1, g.2.1, g.2.2.1, g.2.2.2, rfl, by omega⟩
        · exact .inl rfl))
      have hno : ¬ k < n ∨ (k < n ∧ ¬ (k : Int) < 100) := by omega
      have hcase : (o = none ∧ a4 = true ∧ L = true) ∨ (o = none ∧ a4 = false ∧ L = true) ∨ (∃ f l c s, o = some (f, l, c, s) ∧ a4 = true ∧ L = true) ∨ (∃ f l c s, o = some (f, l, c, s) ∧ a4 = false ∧ L = decide (f ≤ a2)) := by
        cases o with
        | none => cases a4 <;> simp at hL2 <;> simp [hL2]
        | some g =>
          obtain ⟨f, l, c, s⟩ := g
          cases a4
          · exact .inr (.inr (.inr ⟨f, l, c, s, rfl, rfl, by simp [hL2]⟩))
          · exact .inr (.inr (.inl ⟨f, l, c, s, rfl, rfl, by simp [hL2]⟩))
      clear hL2
      rcases hno with hno | ⟨hno, hno2⟩
      all_goals
        rcases hcase with ⟨rfl, rfl, rfl⟩ | ⟨rfl, rfl, rfl⟩ | ⟨f, l, c, s, rfl, rfl, rfl⟩ | ⟨f, l, c, s, rfl, rfl, rfl⟩
        all_goals
          go_wp2_with fail
          refine (open_gb _ _ _ _ _ _ HG.out).mono ?_
          rintro e w2 ⟨rfl, h2⟩
          simp only [oval]
          have hX2 : w2.heap[w.heap.size]? = some (.cells #[.int .i64 a0, .int .i64 a1, .int .i64 a2, .int .i64 a3, .bool _, .bool a5] 39 (0, 0)) := (h2.2.2.1.block _ (by omega)).trans HX.out
          obtain ⟨y0, y1, y2, y3, y4, y5⟩ := block6 hX2
          have y6 : ∀ i, w2.frozen? ⟨w.heap.size, i, none⟩ = false := fun i => by simp [World.frozen?, hX2]
          have y7 := y6 4
          have HX2 := Lib.hid hX2
          have H4 := Lib.hid (h2.base HB.out (by omega)); clear h2 hX2 y6
          have H5 := Lib.hid (fun v => H4.out.away ((Kept.refl _ w2).setCell (S := fun i => i = w.heap.size) (p := ⟨w.heap.size, 4, none⟩) (.inl rfl) v) (Nat.le_refl _) (by omega) (fun c0 c1 c2 c3 hh => by rw [HX2.out] at hh; simp at hh))
          go_wp2_with fail
          refine (add_any _ _ _ a0 a1 a2 a3 _ a5 _ _ 5000 _ (H5.out _) HO.out hL).mono ?_
          rintro e w3 ⟨rfl, h3⟩
          rw [HLS.out] at h3 ⊢
          simp only [dval]
          have H6 := Lib.hid (h3.kept (((Kept.refl (fun _ => False) w3).alloc (.cells #[.int .i64 0, .int .i64 0, .int .i64 0] 33)))); clear h3
          go_wp2_with fail
          refine (open_gb2 _ _ _ _ _ _ H6.out).mono ?_
          rintro e w4 ⟨rfl, q4, rfl⟩
          simp only [oval]
          have hD := (H6.out.kept ((Kept.refl (fun _ => False) _).drewN q4)).2.2.1
          have hD2 := (H6.out.kept ((Kept.refl (fun _ => False) _).drewN q4)).2.1
          have HD := Lib.hid hD
          clear hD
          go_wp2_with fail
          refine (wakes_any _).mono ?_
          rintro e w5 ⟨rfl, h5⟩
          have H8 := Lib.hid h5; clear h5
          go_wp2
          go_ret
          exact ⟨rfl, below_then HD.out hD2 H8.out⟩
end Go.Proofs.Ytdpaknpiedoblaa.Group
