/- The pacer in memory; what New, goes, Set and first come to; no condition but the ranges in each. -/
import Derived.Test.YtkjjkepiihdihaaPlain
import Derived.Test.YtkjjkepiihdihaaPaceRow
import Derived.Test.YtkjjkepiihdihaaSatFn
import Derived.Deep.DeepCutAuto
import Derived.Deep.RegionHeld3
import Derived.StillTailTactics
namespace Go.Proofs.Ytkjjkepiihdihaa.Pace
open Go.RowKit Go.Proofs.Ytkjjkepiihdihaa.Plain Go.Proofs.Ytkjjkepiihdihaa.Heap Go.Proofs.Ytkjjkepiihdihaa.Rows

/-- A packet that waits: its number, its stream, its class, its size, since when. -/
abbrev W5 : Type := Int × Int × Int × Int × Int
def wv (x : W5) : List Value := [.int .i64 x.1, .int .i64 x.2.1, .int .i64 x.2.2.1, .int .i64 x.2.2.2.1, .int .i64 x.2.2.2.2]
def flatW (l : List W5) : List Value := l.flatMap wv
theorem flatW_append (l m : List W5) : flatW (l ++ m) = flatW l ++ flatW m := by simp [flatW]
theorem flatW_len (l : List W5) : (flatW l).length = l.length * 5 := by
  induction l with
  | nil => rfl
  | cons x l ih =>
    have e : flatW (x :: l) = wv x ++ flatW l := rfl
    rw [e, List.length_append, ih, List.length_cons]
    simp [wv]
    omega
theorem flatW_get (l : List W5) (i : Nat) (x : W5) (h : l[i]? = some x) : (flatW l)[i * 5]? = some (.int .i64 x.1) ∧ (flatW l)[i * 5 + 1]? = some (.int .i64 x.2.1) ∧ (flatW l)[i * 5 + 2]? = some (.int .i64 x.2.2.1) ∧ (flatW l)[i * 5 + 3]? = some (.int .i64 x.2.2.2.1) ∧ (flatW l)[i * 5 + 4]? = some (.int .i64 x.2.2.2.2) := by
  induction l generalizing i with
  | nil => simp at h
  | cons y l ih =>
    have e : flatW (y :: l) = .int .i64 y.1 :: .int .i64 y.2.1 :: .int .i64 y.2.2.1 :: .int .i64 y.2.2.2.1 :: .int .i64 y.2.2.2.2 :: flatW l := rfl
    rw [e]
    cases i with
    | zero =>
      simp at h
      subst h
      exact ⟨rfl, rfl, rfl, rfl, rfl⟩
    | succ i =>
      simp at h
      have := ih i h
      rw [show (i + 1) * 5 = i * 5 + 1 + 1 + 1 + 1 + 1 by omega, show i * 5 + 1 + 1 + 1 + 1 + 1 + 1 = (i * 5 + 1) + 1 + 1 + 1 + 1 + 1 by omega, show i * 5 + 1 + 1 + 1 + 1 + 1 + 2 = (i * 5 + 2) + 1 + 1 + 1 + 1 + 1 by omega, show i * 5 + 1 + 1 + 1 + 1 + 1 + 3 = (i * 5 + 3) + 1 + 1 + 1 + 1 + 1 by omega, show i * 5 + 1 + 1 + 1 + 1 + 1 + 4 = (i * 5 + 4) + 1 + 1 + 1 + 1 + 1 by omega]
      simp only [List.getElem?_cons_succ]
      exact this
theorem flatW_one (l : List W5) : ∀ u ∈ flatW l, u.oneCell' = true := by
  intro u hu
  simp only [flatW, List.mem_flatMap] at hu
  obtain ⟨x, _, hx⟩ := hu
  simp [wv] at hx
  rcases hx with rfl | rfl | rfl | rfl | rfl <;> rfl
structure PS where
  burst : Int
  credit : Int
  rate : Int
  window : Int
  now : Int
  queue : Int
  q : Nat → List W5
/-- A pacer in its ranges. -/
structure okP (s : PS) : Prop where
  burst0 : 0 ≤ s.burst
  burst1 : s.burst ≤ 134217728000000
  credit0 : 0 ≤ s.credit
  credit1 : s.credit ≤ s.burst
  rate0 : 0 ≤ s.rate
  rate1 : s.rate ≤ 17179869184
  window0 : 0 ≤ s.window
  window1 : s.window ≤ 1099511627776
  now0 : 0 ≤ s.now
  now1 : s.now ≤ 1125899906842624
  queue0 : 1 ≤ s.queue
  queue1 : s.queue ≤ 256
  len : ∀ c, c < 4 → ((s.q c).length : Int) ≤ s.queue
  el : ∀ c, c < 4 → ∀ x ∈ s.q c, x.2.2.1 = (c : Int) ∧ 0 ≤ x.2.2.2.1 ∧ x.2.2.2.1 ≤ 1500 ∧ 0 ≤ x.2.2.2.2 ∧ x.2.2.2.2 ≤ s.now
def pcells (s : PS) (v : Nat → Value) : Array Value := #[.int .i64 s.burst, .int .i64 s.credit, .int .i64 s.rate, .int .i64 s.window, .int .i64 s.now, .int .i64 s.queue, v 0, v 1, v 2, v 3]
/-- The pacer at block p, its rows in v; none of N's blocks is its own. -/
structure PV (T : TypeId) (N : Nat → Prop) (w : World) (p : Nat) (v : Nat → Value) (s : PS) : Prop where
  blk : w.heap[p]? = some (.cells (pcells s v) T (0, 0))
  qs : ∀ c, c < 4 → RW w 5 (v c) (s.q c).length (flatW (s.q c))
  np : ¬ N p
  own : ∀ c, c < 4 → ∀ g, isAt (v c) g → ¬ N g ∧ g ≠ p
  ne : ∀ c d, c < 4 → d < 4 → c ≠ d → ∀ g, isAt (v c) g → ¬ isAt (v d) g
  lt : ∀ g, N g → g < w.heap.size
def PB (T : TypeId) (N : Nat → Prop) (w : World) (p : Nat) (s : PS) : Prop := ∃ v, PV T N w p v s
theorem PV.cells {T : TypeId} {N : Nat → Prop} {w : World} {p : Nat} {v : Nat → Value} {s : PS} (h : PV T N w p v s) :
    w.cell? ⟨p, 0, none⟩ = some (.int .i64 s.burst) ∧ w.cell? ⟨p, 1, none⟩ = some (.int .i64 s.credit) ∧ w.cell? ⟨p, 2, none⟩ = some (.int .i64 s.rate) ∧ w.cell? ⟨p, 3, none⟩ = some (.int .i64 s.window) ∧ w.cell? ⟨p, 4, none⟩ = some (.int .i64 s.now) ∧ w.cell? ⟨p, 5, none⟩ = some (.int .i64 s.queue) ∧
      w.cell? ⟨p, 6, none⟩ = some (v 0) ∧ w.cell? ⟨p, 7, none⟩ = some (v 1) ∧ w.cell? ⟨p, 8, none⟩ = some (v 2) ∧ w.cell? ⟨p, 9, none⟩ = some (v 3) ∧ (∀ i, w.frozen? ⟨p, i, none⟩ = false) ∧ p < w.heap.size := by
  have hb := h.blk
  exact ⟨by simp [World.cell?, hb, pcells], by simp [World.cell?, hb, pcells], by simp [World.cell?, hb, pcells], by simp [World.cell?, hb, pcells], by simp [World.cell?, hb, pcells], by simp [World.cell?, hb, pcells], by simp [World.cell?, hb, pcells], by simp [World.cell?, hb, pcells], by simp [World.cell?, hb, pcells], by simp [World.cell?, hb, pcells], fun i => by simp [World.frozen?, hb], (Array.getElem?_eq_some_iff.1 hb).1⟩
theorem PV.cellq {T : TypeId} {N : Nat → Prop} {w : World} {p : Nat} {v : Nat → Value} {s : PS} (h : PV T N w p v s) {c : Nat} (hc : c < 4) : w.cell? ⟨p, 6 + c, none⟩ = some (v c) := by
  have h1 := h.cells
  rcases c with _ | _ | _ | _ | c
  · exact h1.2.2.2.2.2.2.1
  · exact h1.2.2.2.2.2.2.2.1
  · exact h1.2.2.2.2.2.2.2.2.1
  · exact h1.2.2.2.2.2.2.2.2.2.1
  · omega
/-- What else runs and keeps the pacer's blocks. -/
theorem PV.kept {T : TypeId} {S N N' : Nat → Prop} {w w' : World} {p : Nat} {v : Nat → Value} {s : PS} (h : PV T N w p v s) (hk : Kept S w w') (hp : ¬ S p) (hv : ∀ c, c < 4 → ∀ g, isAt (v c) g → ¬ S g) (hN : ∀ g, N' g → (N g ∧ g < w.heap.size) ∨ (w.heap.size ≤ g ∧ g < w'.heap.size)) : PV T N' w' p v s :=
  ⟨(hk.block p h.cells.2.2.2.2.2.2.2.2.2.2.2 hp).trans h.blk, fun c hc => (h.qs c hc).kept hk (hv c hc), fun hn => by
      rcases hN p hn with h1 | h1
      · exact h.np h1.1
      · have := h.cells.2.2.2.2.2.2.2.2.2.2.2; omega,
    fun c hc g hg => ⟨fun hn => by
      rcases hN g hn with h1 | h1
      · exact (h.own c hc g hg).1 h1.1
      · have := (h.qs c hc).lt hg; omega, (h.own c hc g hg).2⟩, h.ne, fun g hg => by
      rcases hN g hg with h1 | h1
      · exact Nat.lt_of_lt_of_le h1.2 hk.size
      · exact h1.2⟩
theorem PB.run {T : TypeId} {N : Nat → Prop} {w w' : World} {p : Nat} {s : PS} (h : PB T N w p s) (hk : Kept (fun _ => False) w w') : PB T N w' p s := by
  obtain ⟨v, h⟩ := h
  exact ⟨v, h.kept hk id (fun _ _ _ _ => id) fun g hg => .inl ⟨hg, h.lt g hg⟩⟩
theorem PV.run {T : TypeId} {N : Nat → Prop} {w w' : World} {p : Nat} {v : Nat → Value} {s : PS} (h : PV T N w p v s) (hk : Kept (fun _ => False) w w') : PV T N w' p v s :=
  h.kept hk id (fun _ _ _ _ => id) fun g hg => .inl ⟨hg, h.lt g hg⟩
/-- The caller writes into blocks of N's, and makes new ones, that are N's then. -/
theorem PB.more {T : TypeId} {S N N' : Nat → Prop} {w w' : World} {p : Nat} {s : PS} (h : PB T N w p s) (hk : Kept S w w') (hS : ∀ g, S g → N g) (hN : ∀ g, N' g → N g ∨ (w.heap.size ≤ g ∧ g < w'.heap.size)) : PB T N' w' p s := by
  obtain ⟨v, h⟩ := h
  exact ⟨v, h.kept hk (fun e => h.np (hS _ e)) (fun c hc g hg e => (h.own c hc g hg).1 (hS _ e)) fun g hg => (hN g hg).imp (fun h1 => ⟨h1, h.lt g h1⟩) id⟩
/-- One of the plain cells is laid anew. -/
theorem PV.set {T : TypeId} {N : Nat → Prop} {w : World} {p : Nat} {v : Nat → Value} {s s' : PS} (h : PV T N w p v s) (i : Nat) (u : Value) (hc : (pcells s v).setIfInBounds i u = pcells s' v) (hq : s'.q = s.q) : PV T N (w.setCell ⟨p, i, none⟩ u) p v s' := by
  have hk : Kept (fun g => g = p) w (w.setCell ⟨p, i, none⟩ u) := Kept.setCell (S := fun g => g = p) (Kept.refl _ _) (.inl rfl) u
  refine ⟨?_, fun c hc => by rw [hq]; exact (h.qs c hc).kept hk (fun g hg => (h.own c hc g hg).2), h.np, h.own, h.ne, fun g hg => Nat.lt_of_lt_of_le (h.lt g hg) hk.size⟩
  have hb := h.blk
  simp [World.setCell, Array.getElem?_modify, hb, hc]
theorem PV.credit {T : TypeId} {N : Nat → Prop} {w : World} {p : Nat} {v : Nat → Value} {s : PS} (h : PV T N w p v s) {c c' : Int} (e : c = c') : PV T N (w.setCell ⟨p, 1, none⟩ (.int .i64 c)) p v { s with credit := c' } := by
  subst e
  exact h.set 1 _ rfl rfl
/-- The time goes on. -/
def clampT (s : PS) (now : Int) : Int := if now < s.now then s.now else if 1125899906842624 < now then 1125899906842624 else now
def goes (s : PS) (now : Int) : PS := { s with credit := min (s.credit + s.rate * (clampT s now - s.now)) s.burst, now := clampT s now }
theorem clampT_bd {s : PS} (ok : okP s) (now : Int) : s.now ≤ clampT s now ∧ clampT s now ≤ 1125899906842624 := by
  have h1 := ok.now1
  unfold clampT
  split
  · omega
  · split <;> omega
theorem goes_ok {s : PS} (ok : okP s) (now : Int) : okP (goes s now) := by
  obtain ⟨h1, h2⟩ := clampT_bd ok now
  have h3 : 0 ≤ s.rate * (clampT s now - s.now) := Int.mul_nonneg ok.rate0 (by omega)
  have h4 := ok.credit0
  have h5 := ok.burst0
  have h6 := ok.now0
  refine ⟨ok.burst0, ok.burst1, ?_, ?_, ok.rate0, ok.rate1, ok.window0, ok.window1, by show 0 ≤ clampT s now; omega, h2, ok.queue0, ok.queue1, ok.len, fun c hc x hx => ?_⟩
  · show 0 ≤ min _ _
    omega
  · show min _ _ ≤ s.burst
    omega
  · have := ok.el c hc x hx
    show _ ∧ _ ∧ _ ∧ _ ∧ _ ≤ clampT s now
    exact ⟨this.1, this.2.1, this.2.2.1, this.2.2.2.1, by omega⟩
/-- The held sums are the plain ones, held by the burst. -/
theorem held_min {c r d b : Int} (c0 : 0 ≤ c) (c1 : c ≤ b) (r0 : 0 ≤ r) (d0 : 0 ≤ d) (b1 : b ≤ 134217728000000) : min (Sat.clamp64 (c + Sat.clamp64 (r * d))) b = min (c + r * d) b := by
  have h3 : 0 ≤ r * d := Int.mul_nonneg r0 d0
  generalize r * d = m at *
  unfold Sat.clamp64
  split <;> split <;> (try split) <;> omega
end Go.Proofs.Ytkjjkepiihdihaa.Pace
