/- GroupPlays: what it comes to; no condition but what data there is. -/
import Derived.Test.YtdpaknpiedoblaaGroupRef2
import Derived.Test.YtdpaknpiedoblaaGroupRef3
namespace Go.Proofs.Ytdpaknpiedoblaa.Group
open Go.RowKit Go.Proofs.Ytdpaknpiedoblaa.Plain Go.Proofs.Ytdpaknpiedoblaa.Heap Go.Proofs.Ytdpaknpiedoblaa.Open

theorem add_anyK (M : Int) (B : Nat) (w0 : World) (seq size sent came : Int) (late ecn : Bool) (p : Nat) (w : World) (b : Int) (st : St) (h : GB B w0 w p b st) (hok : okSt M st) (hM : M ≤ 4611686018427387904) :
    Calls Try.prog 9 #[.pointer (some ⟨p, 0, none⟩), ack seq size sent came late ecn] w fun e w' => e = .returned (dval (gstep b st size sent came late).2) ∧ GB B w0 w' p b (gstep b st size sent came late).1 ∧ Kept (fun k => k = p) w w' := by
  by_cases hb : badA size sent came late
  · have e : gstep b st size sent came late = (st, 0, 0, 0, false) := by unfold gstep; exact if_pos hb
    rw [e]
    exact (add_bad seq size sent came late ecn p w hb).mono fun e w' ⟨h1, h2⟩ => ⟨h1, h.kept (Kept.of_below h2), Kept.of_below h2⟩
  · obtain ⟨h1, h2, h3, f, l, c, s, d, hg, he, hd⟩ := h
    obtain ⟨o, q⟩ := st
    have hb0 := hb
    clear hb
    have hl : late = false := by
      cases late with
      | false => rfl
      | true => exact absurd (.inl rfl) hb0
    subst hl
    have b1 : ¬ size < 0 := fun h => hb0 (.inr (.inl h))
    have b2 : ¬ 1500 < size := fun h => hb0 (.inr (.inr (.inl h)))
    have b3 : ¬ sent < 0 := fun h => hb0 (.inr (.inr (.inr (.inl h))))
    have b4 : ¬ 1125899906842624 < sent := fun h => hb0 (.inr (.inr (.inr (.inr (.inl h)))))
    have b5 : ¬ came < -1125899906842624 := fun h => hb0 (.inr (.inr (.inr (.inr (.inr (.inl h))))))
    have b6 : ¬ 1125899906842624 < came := fun h => hb0 (.inr (.inr (.inr (.inr (.inr (.inr h))))))
    have old : ∀ w', Kept (fun k => k = p) w w' → ((q = none ∧ d = none) ∨ ∃ k0 f0 l0 c0 s0, q = some (f0, l0, c0, s0) ∧ d = some ⟨k0, 0, none⟩ ∧ k0 ≠ p ∧ w'.heap[k0]? = some (.cells #[.int .i64 f0, .int .i64 l0, .int .i64 c0, .int .i64 s0] 62 (0, 0))) := by
      intro w' hk
      rcases hd with h6 | ⟨k0, f0, l0, c0, s0, e1, e2, e3, e4⟩
      · exact .inl h6
      · exact .inr ⟨k0, f0, l0, c0, s0, e1, e2, e3, (hk.block k0 (Array.getElem?_eq_some_iff.1 e4).1 e3).trans e4⟩
    cases o with
    | none =>
      have e : gstep b (none, q) size sent came false = ((some (sent, sent, came, size), q), 0, 0, 0, false) := by unfold gstep; rw [if_neg hb0]
      rw [e]
      exact (add_first seq size sent came ecn p w f l c s d b hg b1 b2 b3 b4 b5 b6).mono fun e w' ⟨k1, k2, k3⟩ => ⟨k1, GB.of ⟨h1, h2, h3⟩ k3 k2 (fun g hg => by injection hg with hg; exact hg.symm) (old w' k3), k3⟩
    | some g =>
      obtain rfl := he g rfl
      have hr := hok.1 _ rfl
      simp only [okG] at hr
      by_cases c1 : sent < f
      · have e : gstep b (some (f, l, c, s), q) size sent came false = ((some (f, l, c, s), q), 0, 0, 0, false) := by unfold gstep; rw [if_neg hb0]; simp only [if_pos c1]
        rw [e]
        exact (add_early seq size sent came ecn p w f l c s d b hg b1 b2 b3 b4 b5 b6 c1).mono fun e w' ⟨k1, k2, k3⟩ => ⟨k1, GB.of ⟨h1, h2, h3⟩ k3 k2 (fun g hg => by injection hg with hg; exact hg.symm) (old w' k3), k3⟩
      · have w1 : IntKind.i64.wrap (sent - f) = sent - f := IntWalk.i64_in _ (by omega)
        by_cases c2 : sent - f ≤ b
        · have w2 : IntKind.i64.wrap (s + size) = s + size := IntWalk.i64_in _ (by omega)
          have e : gstep b (some (f, l, c, s), q) size sent came false = ((some (f, mx l sent, mx c came, s + size), q), 0, 0, 0, false) := by unfold gstep; rw [if_neg hb0]; simp only [if_neg c1, if_pos c2]
          rw [e]
          exact (add_in seq size sent came ecn p w f l c s d b hg b1 b2 b3 b4 b5 b6 c1 w1 c2 w2).mono fun e w' ⟨k1, k2, k3⟩ => ⟨k1, GB.of ⟨h1, h2, h3⟩ k3 k2 (fun g hg => by injection hg with hg; exact hg.symm) (old w' k3), k3⟩
        · rcases hd with ⟨rfl, rfl⟩ | ⟨k0, f0, l0, c0, s0, rfl, rfl, e3, e4⟩
          · have e : gstep b (some (f, l, c, s), none) size sent came false = ((some (sent, sent, came, size), some (f, l, c, s)), 0, 0, 0, false) := by unfold gstep; rw [if_neg hb0]; simp only [if_neg c1, if_neg c2]
            rw [e]
            exact (add_done0 seq size sent came ecn p w f l c s b hg b1 b2 b3 b4 b5 b6 c1 w1 c2).mono fun e w' ⟨k1, k, k4, k5, k2, k3⟩ => ⟨k1, GB.of ⟨h1, h2, h3⟩ k3 k2 (fun g hg => by injection hg with hg; exact hg.symm) (.inr ⟨k, f, l, c, s, rfl, rfl, by have := hg.cells.2.2.2.2.2.2.2.2; omega, k5⟩), k3⟩
          · have hr0 := hok.2 _ rfl
            simp only [okG] at hr0
            have e : gstep b (some (f, l, c, s), some (f0, l0, c0, s0)) size sent came false = ((some (sent, sent, came, size), some (f, l, c, s)), Sat.clamp64 (l - l0), Sat.clamp64 (c - c0), s - s0, true) := by unfold gstep; rw [if_neg hb0]; simp only [if_neg c1, if_neg c2]
            rw [e]
            exact (add_done1 seq size sent came ecn p w f l c s b k0 f0 l0 c0 s0 hg b1 b2 b3 b4 b5 b6 c1 w1 c2 e3 e4 (by omega) (by omega) (by omega) (by omega) (IntWalk.i64_in _ (by omega))).mono fun e w' ⟨k1, k, k4, k5, k2, k3⟩ => ⟨k1, GB.of ⟨h1, h2, h3⟩ k3 k2 (fun g hg => by injection hg with hg; exact hg.symm) (.inr ⟨k, f, l, c, s, rfl, rfl, by have := hg.cells.2.2.2.2.2.2.2.2; omega, k5⟩), k3⟩
/-- The reference's grouper. -/
def QS (w : World) (q : Nat) (b : Int) (st : St) : Prop := ∃ so sd, QR w q b so sd ∧ SL w q so st.1 ∧ SL w q sd st.2
theorem QS.kept2 {S : Nat → Prop} {w w' : World} {q : Nat} {b : Int} {st : St} (h : QS w q b st) (hk : Kept S w w') (hq : ¬ S q) (hS : ∀ k c0 c1 c2 c3 t, w.heap[k]? = some (.cells #[c0, c1, c2, c3] t (0, 0)) → ¬ S k) : QS w' q b st := by
  obtain ⟨so, sd, h1, h2, h3⟩ := h
  exact ⟨so, sd, h1.kept hk hq, h2.kept2 hk hS, h3.kept2 hk hS⟩
theorem ref_add_any (M : Int) (seq size sent came : Int) (late ecn : Bool) (q : Nat) (w : World) (b : Int) (st : St) (h : QS w q b st) (hok : okSt M st) (hM : M ≤ 4611686018427387904) :
    Calls Try.prog 13 #[.pointer (some ⟨q, 0, none⟩), ack seq size sent came late ecn] w fun e w' => e = .returned (dval (gstep b st size sent came late).2) ∧ QS w' q b (gstep b st size sent came late).1 ∧ Kept (fun k => k = q) w w' := by
  by_cases hb : badA size sent came late
  · have e : gstep b st size sent came late = (st, 0, 0, 0, false) := by unfold gstep; exact if_pos hb
    rw [e]
    exact (ref_add_bad seq size sent came late ecn q w hb).mono fun e w' ⟨h1, h2⟩ => ⟨h1, h.kept2 (Kept.of_below (S := fun _ => False) h2) id (fun _ _ _ _ _ _ _ => id), Kept.of_below h2⟩
  · obtain ⟨so, sd, h1, h2, h3⟩ := h
    obtain ⟨o, d⟩ := st
    have hb0 := hb
    clear hb
    have hl : late = false := by
      cases late with
      | false => rfl
      | true => exact absurd (.inl rfl) hb0
    subst hl
    have b1 : ¬ size < 0 := fun h => hb0 (.inr (.inl h))
    have b2 : ¬ 1500 < size := fun h => hb0 (.inr (.inr (.inl h)))
    have b3 : ¬ sent < 0 := fun h => hb0 (.inr (.inr (.inr (.inl h))))
    have b4 : ¬ 1125899906842624 < sent := fun h => hb0 (.inr (.inr (.inr (.inr (.inl h)))))
    have b5 : ¬ came < -1125899906842624 := fun h => hb0 (.inr (.inr (.inr (.inr (.inr (.inl h))))))
    have b6 : ¬ 1125899906842624 < came := fun h => hb0 (.inr (.inr (.inr (.inr (.inr (.inr h))))))
    have hS : ∀ i, (fun k => k = q) i → i = q := fun _ h => h
    rcases h2 with ⟨rfl, rfl⟩ | ⟨f, l, c, s, k, t, rfl, rfl, hkq, hk⟩
    · have e : gstep b (none, d) size sent came false = ((some (sent, sent, came, size), d), 0, 0, 0, false) := by unfold gstep; rw [if_neg hb0]
      rw [e]
      exact (ref_add_first seq size sent came ecn q w b sd h1 b1 b2 b3 b4 b5 b6).mono fun e w' ⟨k1, so', k2, k3, k4⟩ => ⟨k1, ⟨so', sd, k2, k3, h3.kept k4 hS⟩, k4⟩
    · have hr := hok.1 _ rfl
      simp only [okG] at hr
      by_cases c1 : sent < f
      · have e : gstep b (some (f, l, c, s), d) size sent came false = ((some (f, l, c, s), d), 0, 0, 0, false) := by unfold gstep; rw [if_neg hb0]; simp only [if_pos c1]
        rw [e]
        exact (ref_add_early seq size sent came ecn q w b sd f l c s k t h1 hk b1 b2 b3 b4 b5 b6 c1).mono fun e w' ⟨k1, k2⟩ => ⟨k1, ⟨_, sd, h1.kept k2 id, .inr ⟨f, l, c, s, k, t, rfl, rfl, hkq, (k2.block k (Array.getElem?_eq_some_iff.1 hk).1 id).trans hk⟩, h3.kept k2 (fun _ h => h.elim)⟩, k2.mono (fun _ _ h => h.elim)⟩
      · have w1 : IntKind.i64.wrap (sent - f) = sent - f := IntWalk.i64_in _ (by omega)
        by_cases c2 : sent - f ≤ b
        · have w2 : IntKind.i64.wrap (s + size) = s + size := IntWalk.i64_in _ (by omega)
          have e : gstep b (some (f, l, c, s), d) size sent came false = ((some (f, mx l sent, mx c came, s + size), d), 0, 0, 0, false) := by unfold gstep; rw [if_neg hb0]; simp only [if_neg c1, if_pos c2]
          rw [e]
          exact (ref_add_in seq size sent came ecn q w b sd f l c s k t h1 hk b1 b2 b3 b4 b5 b6 c1 w1 c2 w2).mono fun e w' ⟨k1, so', k2, k3, k4⟩ => ⟨k1, ⟨so', sd, k2, k3, h3.kept k4 hS⟩, k4⟩
        · have e : gstep b (some (f, l, c, s), d) size sent came false = ((some (sent, sent, came, size), some (f, l, c, s)), dl l c s d) := by
            unfold gstep
            rw [if_neg hb0]
            simp only [if_neg c1, if_neg c2]
            cases d <;> rfl
          rw [e]
          exact (ref_add_done seq size sent came ecn q w b sd d f l c s k t h1 hk h3 b1 b2 b3 b4 b5 b6 c1 w1 c2 (by omega) (by omega) (by omega) (fun g hg => by
            have hr0 := hok.2 g hg
            unfold okG at hr0
            omega)).mono fun e w' ⟨k1, so', sd', k2, k3, k4, k5⟩ => ⟨k1, ⟨so', sd', k2, k3, k4⟩, k5⟩
/-- A grouper and the reference's, of the call's own. -/
structure GQ (B : Nat) (w0 w : World) (p q : Nat) (b : Int) (st : St) (su : St) : Prop where
  ne : p ≠ q
  bq : B ≤ q
  l : GB B w0 w p b st
  r : QS w q b su
section
variable {B : Nat} {w0 w : World} {p q : Nat} {b : Int} {st su : St}
theorem GQ.run (h : GQ B w0 w p q b st su) {w' : World} (hb : Below w.heap.size w w') : GQ B w0 w' p q b st su :=
  ⟨h.ne, h.bq, h.l.run hb, h.r.kept2 (Kept.of_below (S := fun _ => False) hb) id (fun _ _ _ _ _ _ _ => id)⟩
theorem GQ.left (h : GQ B w0 w p q b st su) (M : Int) (seq size sent came : Int) (late ecn : Bool) (hok : okSt M st) (hM : M ≤ 4611686018427387904) :
    Calls Try.prog 9 #[.pointer (some ⟨p, 0, none⟩), ack seq size sent came late ecn] w fun e w' => e = .returned (dval (gstep b st size sent came late).2) ∧ GQ B w0 w' p q b (gstep b st size sent came late).1 su ∧ Kept (fun k => k = p) w w' := by
  obtain ⟨_, _, _, f, l, c, s, d, hg, _⟩ := h.l
  refine (add_anyK M B w0 seq size sent came late ecn p w b st h.l hok hM).mono fun e w' ⟨k1, k2, k3⟩ => ⟨k1, ⟨h.ne, h.bq, k2, h.r.kept2 k3 (fun e => h.ne e.symm) (fun k c0 c1 c2 c3 t hk e => ?_)⟩, k3⟩
  have e2 : k = p := e
  subst e2
  unfold GR at hg
  rw [hg] at hk
  simp at hk
theorem GQ.right (h : GQ B w0 w p q b st su) (M : Int) (seq size sent came : Int) (late ecn : Bool) (hok : okSt M su) (hM : M ≤ 4611686018427387904) :
    Calls Try.prog 13 #[.pointer (some ⟨q, 0, none⟩), ack seq size sent came late ecn] w fun e w' => e = .returned (dval (gstep b su size sent came late).2) ∧ GQ B w0 w' p q b st (gstep b su size sent came late).1 ∧ Kept (fun k => k = q) w w' := by
  obtain ⟨so, sd, hq, _⟩ := h.r
  refine (ref_add_any M seq size sent came late ecn q w b su h.r hok hM).mono fun e w' ⟨k1, k2, k3⟩ => ⟨k1, ⟨h.ne, h.bq, h.l.away k3 h.bq h.ne (fun c0 c1 c2 c3 hk => ?_), k2⟩, k3⟩
  unfold QR at hq
  rw [hq] at hk
  simp at hk
theorem GQ.opens (h : GQ B w0 w p q b st su) : Calls Try.prog 14 #[.pointer (some ⟨p, 0, none⟩)] w fun e w' => e = .returned (oval st.1) ∧ GQ B w0 w' p q b st su ∧ Kept (fun _ => False) w w' :=
  (open_gb2 B w0 p w b st h.l).mono fun _ _ ⟨h1, k, h2⟩ => ⟨h1, by rw [h2]; exact h.run (below_drewN (Below.refl _ _) k), by rw [h2]; exact (Kept.refl _ w).drewN k⟩
theorem GQ.ropen (h : GQ B w0 w p q b st su) : Calls Try.prog 15 #[.pointer (some ⟨q, 0, none⟩)] w fun e w' => e = .returned (gval su.1) ∧ GQ B w0 w' p q b st su ∧ Kept (fun _ => False) w w' := by
  obtain ⟨so, sd, h1, h2, h3⟩ := h.r
  exact (ref_open q w b so sd su.1 h1 h2).mono fun _ _ ⟨k1, k2⟩ => ⟨k1, h.run k2, Kept.of_below k2⟩
theorem GQ.lt (h : GQ B w0 w p q b st su) : p < w.heap.size ∧ q < w.heap.size := by
  obtain ⟨_, _, _, f, l, c, s, d, hg, _⟩ := h.l
  obtain ⟨so, sd, hq, _⟩ := h.r
  exact ⟨hg.cells.2.2.2.2.2.2.2.2, hq.cells.2.2.2.2⟩
end
set_option maxHeartbeats 1000000 in
set_option maxRecDepth 10000 in
theorem GroupPlays_any (b : Int) (A : Option Addr) (n cp : Nat) (zs : List ((Int × Int × Int) × Int × Bool × Bool)) (w : World) (_ : (Lit.int .i64 b).wf = true) (h1 : Els 6 rAck w A n zs) :
    Calls Try.prog 4 #[.int .i64 b, .slice A n cp] w fun e w' => e = .returned (.bool true) ∧ Below w.heap.size w w' := by
  have R1 := Lib.hid h1
  clear h1
  by_cases hbad : b < 0 ∨ 1125899906842624 < b
  · go_enter Try.func4, Try.ntmps4
    go_wp2_with fail
    refine (new_bad b _ hbad).mono ?_
    rintro e w1 ⟨rfl, rfl⟩
    go_wp2_with fail
    refine (ref_new_bad b _ hbad).mono ?_
    rintro e w2 ⟨rfl, rfl⟩
    go_wp2_with fail
    go_loopw [9] (fun iv wr => iv = .int .i64 0 ∧ wr = w2) (fun _ _ => 0)
    case atStart => exact ⟨rfl, rfl⟩
    case round =>
      obtain ⟨rfl, rfl⟩ := hrel
      by_cases hn : 0 < n
      · go_wp2_with fail
        refine (wakes_any _).mono ?_
        rintro e w3 ⟨rfl, hb⟩
        go_wp2
        go_ret
        exact ⟨rfl, hb⟩
      · go_wp2_with fail
        refine (wakes_any _).mono ?_
        rintro e w3 ⟨rfl, hb⟩
        go_wp2
        go_ret
        exact ⟨rfl, hb⟩
  · have g0 : ¬ b < 0 := fun h => hbad (.inl h)
    have g1 : ¬ 1125899906842624 < b := fun h => hbad (.inr h)
    have HG := Lib.hid (And.intro g0 g1)
    clear g0 g1 hbad
    go_enter Try.func4, Try.ntmps4
    go_wp2_with fail
    refine (new_any b _ (by have := HG.out.1; omega) (by have := HG.out.2; omega)).mono ?_
    rintro e w1 ⟨rfl, h1⟩
    have H1 := Lib.hid h1; clear h1
    go_wp2_with fail
    refine (ref_new b _ (by have := HG.out.1; omega) (by have := HG.out.2; omega)).mono ?_
    rintro e w2 ⟨rfl, rfl⟩
    obtain ⟨p, hp⟩ : ∃ p, p = w.heap.size := ⟨_, rfl⟩
    obtain ⟨q, hq⟩ : ∃ q, q = w1.heap.size := ⟨_, rfl⟩
    have hlt : p < q := by
      obtain ⟨_, _, _, _, _, _, _, _, hg, _⟩ := H1.out
      have := hg.cells.2.2.2.2.2.2.2.2
      omega
    have H2 := Lib.hid (show GQ w.heap.size w (w1.alloc (.cells #[.int .i64 b, .slice none 0 0, .slice none 0 0] 69)) p q b (none, none) (none, none) from
      ⟨by omega, by omega, by rw [hp]; exact H1.out.run ((Below.refl _ _).alloc (Nat.le_refl _) _), _, _, by rw [hq]; exact heap_alloc_new w1 _, .inl ⟨rfl, rfl⟩, .inl ⟨rfl, rfl⟩⟩)
    generalize hW : w1.alloc _ = W2 at *
    rw [← hp, ← hq]
    clear hW hp hq H1 hlt HG
    go_wp2_with fail
    go_loopw [9] (fun iv wr => ∃ (k : Nat) (st : St), k ≤ 200 ∧ iv = .int .i64 (k : Int) ∧ okSt (1500 * (k : Int)) st ∧ GQ w.heap.size w wr p q b st st) (fun iv _ => 200 - (intOf iv).toNat)
    case atStart => exact ⟨0, (none, none), by omega, rfl, ⟨nofun, nofun⟩, H2.out⟩
    case round =>
      obtain ⟨k, st, hk, rfl, ho, hg⟩ := hrel
      have HO := Lib.hid ho
      have HG := Lib.hid hg
      clear ho hg H2
      by_cases hlt : k < n
      · by_cases hlt2 : (k : Int) < 200
        · obtain ⟨blk, off, rfl, hb, x0, x1, x2, x3, x4, x5, hz, _, _, _, _, q0, q1, q2, q3, q4, q5⟩ := acks_at R1.out hlt
          have H3 := Lib.hid (gstep_ok (b := b) (size := x1) (sent := x2) (came := x3) (late := x4) HO.out (by omega))
          have hc : ∀ (W : World) (st su : St), GQ w.heap.size w W p q b st su → W.cell? ⟨blk, off + k * 6, none⟩ = some (.int .i64 x0) ∧ W.cell? ⟨blk, off + k * 6 + 1, none⟩ = some (.int .i64 x1) ∧ W.cell? ⟨blk, off + k * 6 + 2, none⟩ = some (.int .i64 x2) ∧ W.cell? ⟨blk, off + k * 6 + 3, none⟩ = some (.int .i64 x3) ∧ W.cell? ⟨blk, off + k * 6 + 4, none⟩ = some (.bool x4) ∧ W.cell? ⟨blk, off + k * 6 + 5, none⟩ = some (.bool x5) := fun W st su hw => by
            have hb2 := hw.l.2.2.1
            exact ⟨(hb2.cell (p := ⟨blk, off + k * 6, none⟩) hb).trans q0, (hb2.cell (p := ⟨blk, off + k * 6 + 1, none⟩) hb).trans q1, (hb2.cell (p := ⟨blk, off + k * 6 + 2, none⟩) hb).trans q2, (hb2.cell (p := ⟨blk, off + k * 6 + 3, none⟩) hb).trans q3, (hb2.cell (p := ⟨blk, off + k * 6 + 4, none⟩) hb).trans q4, (hb2.cell (p := ⟨blk, off + k * 6 + 5, none⟩) hb).trans q5⟩
          have HC := Lib.hid hc
          obtain ⟨y0, y1, y2, y3, y4, y5⟩ := hc _ _ _ HG.out
          clear hc q0 q1 q2 q3 q4 q5 hz
          go_wp2_with fail
          refine (HG.out.left _ x0 x1 x2 x3 x4 x5 HO.out (by omega)).mono ?_
          rintro e w3 ⟨rfl, h3, k3⟩
          obtain ⟨⟨d0, d1, d2, d3⟩, hd⟩ : ∃ z, (gstep b st x1 x2 x3 x4).2 = z := ⟨_, rfl⟩
          have HD := Lib.hid hd
          rw [hd]
          unfold dval
          simp only
          have H4 := Lib.hid h3; clear h3 hd
          have ha : ∀ X, GQ w.heap.size w (w3.alloc X) p q b (gstep b st x1 x2 x3 x4).1 st := fun X => H4.out.run ((Below.refl w3.heap.size w3).alloc (Nat.le_refl _) X)
          have z0 := fun X => (HC.out _ _ _ (ha X)).1
          have z1 := fun X => (HC.out _ _ _ (ha X)).2.1
          have z2 := fun X => (HC.out _ _ _ (ha X)).2.2.1
          have z3 := fun X => (HC.out _ _ _ (ha X)).2.2.2.1
          have z4 := fun X => (HC.out _ _ _ (ha X)).2.2.2.2.1
          have z5 := fun X => (HC.out _ _ _ (ha X)).2.2.2.2.2
          have HA := Lib.hid ha
          clear ha
          go_wp2_with fail
          refine ((HA.out _).right _ x0 x1 x2 x3 x4 x5 HO.out (by omega)).mono ?_
          rintro e w4 ⟨rfl, h4, k4⟩
          rw [HD.out]
          unfold dval
          simp only
          have hq3 := H4.out.lt.2
          have ha4 := (k4.block w3.heap.size (by simp) (by omega)).trans (heap_alloc_new w3 _)
          have hs4 : w3.heap.size < w4.heap.size := (Array.getElem?_eq_some_iff.1 ha4).1
          obtain ⟨a0, a1, a2, _⟩ := block3 ha4
          have H5 := Lib.hid h4
          have HA4 := Lib.hid ha4
          clear h4 k4 k3 z0 z1 z2 z3 z4 z5 y0 y1 y2 y3 y4 y5 ha4
          have c0 := fun X => ((Kept.refl (fun _ => False) w4).alloc X).cell (p := ⟨w3.heap.size, 0, none⟩) hs4 id |>.trans a0
          have c1 := fun X => ((Kept.refl (fun _ => False) w4).alloc X).cell (p := ⟨w3.heap.size, 1, none⟩) hs4 id |>.trans a1
          have c2 := fun X => ((Kept.refl (fun _ => False) w4).alloc X).cell (p := ⟨w3.heap.size, 2, none⟩) hs4 id |>.trans a2
          go_wp2_with fail
          refine ((H5.out.run ((Below.refl _ _).alloc (Nat.le_refl _) _)).opens).mono ?_
          rintro e w5 ⟨rfl, h5, _⟩
          have H6 := Lib.hid h5
          clear h5
          obtain ⟨o, ho⟩ : ∃ o, (gstep b st x1 x2 x3 x4).1.1 = o := ⟨_, rfl⟩
          have HO2 := Lib.hid ho
          rw [ho]
          clear ho
          rcases o with _ | ⟨o1, o2, o3, o4⟩
          all_goals
            simp only [oval]
            go_wp2_with fail
            refine (H6.out.ropen).mono ?_
            rintro e w6 ⟨rfl, h6, _⟩
            rw [HO2.out]
            simp only [gval]
            have H7 := Lib.hid h6
            clear h6
            go_wp2_with fail
            go_roundw
            case rel =>
              refine ⟨k + 1, _, by omega, by go_num, ?_, H7.out.run ((Below.refl _ _).alloc (Nat.le_refl _) _)⟩
              have := H3.out
              rwa [show 1500 * (k : Int) + 1500 = 1500 * ((k + 1 : Nat) : Int) by omega] at this
            case measure => simp [intOf]; omega
        · go_wp2_with fail
          refine (wakes_any _).mono ?_
          rintro e w3 ⟨rfl, hb⟩
          go_wp2
          go_ret
          exact ⟨rfl, below_then HG.out.l.2.2.1 HG.out.l.2.1 hb⟩
      · go_wp2_with fail
        refine (wakes_any _).mono ?_
        rintro e w3 ⟨rfl, hb⟩
        go_wp2
        go_ret
        exact ⟨rfl, below_then HG.out.l.2.2.1 HG.out.l.2.1 hb⟩
end Go.Proofs.Ytdpaknpiedoblaa.Group
