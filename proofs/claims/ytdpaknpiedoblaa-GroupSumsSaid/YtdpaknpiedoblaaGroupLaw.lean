/- The grouper's calls as one step of a plain state; wakes; GroupNone. No condition but the ranges in each. -/
import Derived.Test.YtdpaknpiedoblaaGroupFn2
namespace Go.Proofs.Ytdpaknpiedoblaa.Group
open Go.RowKit Go.Proofs.Ytdpaknpiedoblaa.Plain Go.Proofs.Ytdpaknpiedoblaa.Heap

abbrev G4 : Type := Int × Int × Int × Int
abbrev St : Type := Option G4 × Option G4
abbrev Dl : Type := Int × Int × Int × Bool
def gstep (b : Int) (st : St) (size sent came : Int) (late : Bool) : St × Dl :=
  if badA size sent came late then (st, 0, 0, 0, false)
  else match st.1 with
    | none => ((some (sent, sent, came, size), st.2), 0, 0, 0, false)
    | some (f, l, c, s) =>
      if sent < f then (st, 0, 0, 0, false)
      else if sent - f ≤ b then ((some (f, mx l sent, mx c came, s + size), st.2), 0, 0, 0, false)
      else ((some (sent, sent, came, size), some (f, l, c, s)), match st.2 with
        | none => (0, 0, 0, false)
        | some (_, l0, c0, s0) => (Sat.clamp64 (l - l0), Sat.clamp64 (c - c0), s - s0, true))
/-- A group in its ranges. -/
def okG (M : Int) (g : G4) : Prop := 0 ≤ g.1 ∧ g.1 ≤ 1125899906842624 ∧ 0 ≤ g.2.1 ∧ g.2.1 ≤ 1125899906842624 ∧ -1125899906842624 ≤ g.2.2.1 ∧ g.2.2.1 ≤ 1125899906842624 ∧ 0 ≤ g.2.2.2 ∧ g.2.2.2 ≤ M
def okSt (M : Int) (st : St) : Prop := (∀ g, st.1 = some g → okG M g) ∧ ∀ g, st.2 = some g → okG M g
def dval (d : Dl) : Value := .tuple #[.agg #[.int .i64 d.1, .int .i64 d.2.1, .int .i64 d.2.2.1], .bool d.2.2.2]
/-- A grouper of the call's own, from block B on. -/
def GB (B : Nat) (w0 w : World) (p : Nat) (b : Int) (st : St) : Prop :=
  B ≤ p ∧ B ≤ w.heap.size ∧ Below B w0 w ∧ ∃ f l c s d, GR w p f l c s st.1.isSome d b ∧ (∀ g, st.1 = some g → g = (f, l, c, s)) ∧
    ((st.2 = none ∧ d = none) ∨ ∃ k0 f0 l0 c0 s0, st.2 = some (f0, l0, c0, s0) ∧ d = some ⟨k0, 0, none⟩ ∧ k0 ≠ p ∧ w.heap[k0]? = some (.cells #[.int .i64 f0, .int .i64 l0, .int .i64 c0, .int .i64 s0] 62 (0, 0)))
theorem gstep_ok {M : Int} {b : Int} {st : St} {size sent came : Int} {late : Bool} (h : okSt M st) (hM : 0 ≤ M) : okSt (M + 1500) (gstep b st size sent came late).1 := by
  have up : ∀ g, okG M g → okG (M + 1500) g := fun g h => by unfold okG at *; omega
  have same : okSt (M + 1500) st := ⟨fun g hg => up g (h.1 g hg), fun g hg => up g (h.2 g hg)⟩
  unfold gstep
  split
  · exact same
  · rename_i hb
    have hb' : ¬ (size < 0) ∧ ¬ 1500 < size ∧ ¬ sent < 0 ∧ ¬ 1125899906842624 < sent ∧ ¬ came < -1125899906842624 ∧ ¬ 1125899906842624 < came := by
      unfold badA at hb
      omega
    split
    · refine ⟨fun g hg => ?_, same.2⟩
      injection hg with hg
      subst hg
      simp only [okG]
      omega
    · rename_i f l c s e
      have hg := h.1 _ e
      simp only [okG] at hg
      split
      · exact same
      · split
        · refine ⟨fun g hg2 => ?_, same.2⟩
          injection hg2 with hg2
          subst hg2
          simp only [okG, mx]
          split <;> split <;> omega
        · refine ⟨fun g hg2 => ?_, fun g hg2 => ?_⟩
          · injection hg2 with hg2
            subst hg2
            simp only [okG]
            omega
          · injection hg2 with hg2
            subst hg2
            exact up _ (h.1 _ e)
theorem GB.of {B : Nat} {w0 w w' : World} {p : Nat} {b : Int} {st' : St} {f l c s : Int} {d : Option Addr} (h : B ≤ p ∧ B ≤ w.heap.size ∧ Below B w0 w) (hk : Kept (fun k => k = p) w w') (hg : GR w' p f l c s st'.1.isSome d b) (he : ∀ g, st'.1 = some g → g = (f, l, c, s))
    (hd : (st'.2 = none ∧ d = none) ∨ ∃ k0 f0 l0 c0 s0, st'.2 = some (f0, l0, c0, s0) ∧ d = some ⟨k0, 0, none⟩ ∧ k0 ≠ p ∧ w'.heap[k0]? = some (.cells #[.int .i64 f0, .int .i64 l0, .int .i64 c0, .int .i64 s0] 62 (0, 0))) : GB B w0 w' p b st' :=
  ⟨h.1, Nat.le_trans h.2.1 hk.size, h.2.2.trans (hk.below h.2.1 (fun i hi => by rw [hi]; exact h.1)), f, l, c, s, d, hg, he, hd⟩
theorem GB.kept {B : Nat} {w0 w w' : World} {p : Nat} {b : Int} {st : St} (h : GB B w0 w p b st) (hk : Kept (fun _ => False) w w') : GB B w0 w' p b st := by
  obtain ⟨h1, h2, h3, f, l, c, s, d, h4, h5, h6⟩ := h
  refine GB.of ⟨h1, h2, h3⟩ (hk.mono (fun _ _ h => h.elim)) (h4.kept hk id) h5 ?_
  rcases h6 with h6 | ⟨k0, f0, l0, c0, s0, e1, e2, e3, e4⟩
  · exact .inl h6
  · exact .inr ⟨k0, f0, l0, c0, s0, e1, e2, e3, (hk.block k0 (Array.getElem?_eq_some_iff.1 e4).1 id).trans e4⟩
theorem add_any (M : Int) (B : Nat) (w0 : World) (seq size sent came : Int) (late ecn : Bool) (p : Nat) (w : World) (b : Int) (st : St) (h : GB B w0 w p b st) (hok : okSt M st) (hM : M ≤ 4611686018427387904) :
    Calls Try.prog 9 #[.pointer (some ⟨p, 0, none⟩), ack seq size sent came late ecn] w fun e w' => e = .returned (dval (gstep b st size sent came late).2) ∧ GB B w0 w' p b (gstep b st size sent came late).1 := by
  by_cases hb : badA size sent came late
  · have e : gstep b st size sent came late = (st, 0, 0, 0, false) := by unfold gstep; exact if_pos hb
    rw [e]
    exact (add_bad seq size sent came late ecn p w hb).mono fun e w' ⟨h1, h2⟩ => ⟨h1, h.kept (Kept.of_below h2)⟩
  · obtain ⟨h1, h2, h3, f, l, c, s, d, hg, he, hd⟩ := h
    obtain ⟨o, q⟩ := st
    have hb0 := hb
    clear hb
    have hl : late = false := by
      cases late with
      | false => rfl
      | true => exact absurd (.inl rfl) hb0
    subst hl
    have b1 : ¬ size < 0 := fun h => hb0 (.inr (.inl h))
    have b2 : ¬ 1500 < size := fun h => hb0 (.inr (.inr (.inl h)))
    have b3 : ¬ sent < 0 := fun h => hb0 (.inr (.inr (.inr (.inl h))))
    have b4 : ¬ 1125899906842624 < sent := fun h => hb0 (.inr (.inr (.inr (.inr (.inl h)))))
    have b5 : ¬ came < -1125899906842624 := fun h => hb0 (.inr (.inr (.inr (.inr (.inr (.inl h))))))
    have b6 : ¬ 1125899906842624 < came := fun h => hb0 (.inr (.inr (.inr (.inr (.inr (.inr h))))))
    have old : ∀ w', Kept (fun k => k = p) w w' → ((q = none ∧ d = none) ∨ ∃ k0 f0 l0 c0 s0, q = some (f0, l0, c0, s0) ∧ d = some ⟨k0, 0, none⟩ ∧ k0 ≠ p ∧ w'.heap[k0]? = some (.cells #[.int .i64 f0, .int .i64 l0, .int .i64 c0, .int .i64 s0] 62 (0, 0))) := by
      intro w' hk
      rcases hd with h6 | ⟨k0, f0, l0, c0, s0, e1, e2, e3, e4⟩
      · exact .inl h6
      · exact .inr ⟨k0, f0, l0, c0, s0, e1, e2, e3, (hk.block k0 (Array.getElem?_eq_some_iff.1 e4).1 e3).trans e4⟩
    cases o with
    | none =>
      have e : gstep b (none, q) size sent came false = ((some (sent, sent, came, size), q), 0, 0, 0, false) := by unfold gstep; rw [if_neg hb0]
      rw [e]
      exact (add_first seq size sent came ecn p w f l c s d b hg b1 b2 b3 b4 b5 b6).mono fun e w' ⟨k1, k2, k3⟩ => ⟨k1, GB.of ⟨h1, h2, h3⟩ k3 k2 (fun g hg => by injection hg with hg; exact hg.symm) (old w' k3)⟩
    | some g =>
      obtain rfl := he g rfl
      have hr := hok.1 _ rfl
      simp only [okG] at hr
      by_cases c1 : sent < f
      · have e : gstep b (some (f, l, c, s), q) size sent came false = ((some (f, l, c, s), q), 0, 0, 0, false) := by unfold gstep; rw [if_neg hb0]; simp only [if_pos c1]
        rw [e]
        exact (add_early seq size sent came ecn p w f l c s d b hg b1 b2 b3 b4 b5 b6 c1).mono fun e w' ⟨k1, k2, k3⟩ => ⟨k1, GB.of ⟨h1, h2, h3⟩ k3 k2 (fun g hg => by injection hg with hg; exact hg.symm) (old w' k3)⟩
      · have w1 : IntKind.i64.wrap (sent - f) = sent - f := IntWalk.i64_in _ (by omega)
        by_cases c2 : sent - f ≤ b
        · have w2 : IntKind.i64.wrap (s + size) = s + size := IntWalk.i64_in _ (by omega)
          have e : gstep b (some (f, l, c, s), q) size sent came false = ((some (f, mx l sent, mx c came, s + size), q), 0, 0, 0, false) := by unfold gstep; rw [if_neg hb0]; simp only [if_neg c1, if_pos c2]
          rw [e]
          exact (add_in seq size sent came ecn p w f l c s d b hg b1 b2 b3 b4 b5 b6 c1 w1 c2 w2).mono fun e w' ⟨k1, k2, k3⟩ => ⟨k1, GB.of ⟨h1, h2, h3⟩ k3 k2 (fun g hg => by injection hg with hg; exact hg.symm) (old w' k3)⟩
        · rcases hd with ⟨rfl, rfl⟩ | ⟨k0, f0, l0, c0, s0, rfl, rfl, e3, e4⟩
          · have e : gstep b (some (f, l, c, s), none) size sent came false = ((some (sent, sent, came, size), some (f, l, c, s)), 0, 0, 0, false) := by unfold gstep; rw [if_neg hb0]; simp only [if_neg c1, if_neg c2]
            rw [e]
            exact (add_done0 seq size sent came ecn p w f l c s b hg b1 b2 b3 b4 b5 b6 c1 w1 c2).mono fun e w' ⟨k1, k, k4, k5, k2, k3⟩ => ⟨k1, GB.of ⟨h1, h2, h3⟩ k3 k2 (fun g hg => by injection hg with hg; exact hg.symm) (.inr ⟨k, f, l, c, s, rfl, rfl, by have := hg.cells.2.2.2.2.2.2.2.2; omega, k5⟩)⟩
          · have hr0 := hok.2 _ rfl
            simp only [okG] at hr0
            have e : gstep b (some (f, l, c, s), some (f0, l0, c0, s0)) size sent came false = ((some (sent, sent, came, size), some (f, l, c, s)), Sat.clamp64 (l - l0), Sat.clamp64 (c - c0), s - s0, true) := by unfold gstep; rw [if_neg hb0]; simp only [if_neg c1, if_neg c2]
            rw [e]
            exact (add_done1 seq size sent came ecn p w f l c s b k0 f0 l0 c0 s0 hg b1 b2 b3 b4 b5 b6 c1 w1 c2 e3 e4 (by omega) (by omega) (by omega) (by omega) (IntWalk.i64_in _ (by omega))).mono fun e w' ⟨k1, k, k4, k5, k2, k3⟩ => ⟨k1, GB.of ⟨h1, h2, h3⟩ k3 k2 (fun g hg => by injection hg with hg; exact hg.symm) (.inr ⟨k, f, l, c, s, rfl, rfl, by have := hg.cells.2.2.2.2.2.2.2.2; omega, k5⟩)⟩
end Go.Proofs.Ytdpaknpiedoblaa.Group
