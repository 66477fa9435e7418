/- A pacer beside slices of the caller's own that grow; no condition but those in each. -/
import Derived.Test.YtkjjkepiihdihaaPaceLaw3
namespace Go.Proofs.Ytkjjkepiihdihaa.Pace
open Go.RowKit Go.Proofs.Ytkjjkepiihdihaa.Plain Go.Proofs.Ytkjjkepiihdihaa.Heap Go.Proofs.Ytkjjkepiihdihaa.Rows Go.Proofs.Ytkjjkepiihdihaa.Open

theorem PX.here {N : Nat → Prop} {w0 w : World} {p : Nat} {s : PS} (h : PX N w0 w p s) : PX N w w p s := ⟨h.ok, h.pb, Kept.refl _ _⟩
theorem PX.more {S N N' : Nat → Prop} {w0 w w' : World} {p : Nat} {s : PS} (h : PX N w0 w p s) (hk : Kept S w w') (hS : ∀ g, S g → N g) (hS0 : ∀ g, g < w0.heap.size → S g → ¬ N' g) (h0 : ∀ g, g < w0.heap.size → N' g → N g) (hN : ∀ g, N' g → N g ∨ (w.heap.size ≤ g ∧ g < w'.heap.size)) : PX N' w0 w' p s :=
  ⟨h.ok, h.pb.more hk hS hN, Kept.trans (S := fun g => ¬ N' g) (h.kept.mono fun g hg hn hn' => hn (h0 g hg hn')) hk fun g hg hs => hS0 g hg hs⟩
/-- Old blocks, the caller's own ones, and those of its m slices. -/
def NO (B : Nat) (E : Nat → Prop) (m : Nat) (o : Nat → Value) : Nat → Prop := fun g => g < B ∨ E g ∨ ∃ i, i < m ∧ isAt (o i) g
structure OX (B : Nat) (E : Nat → Prop) (m : Nat) (w0 w : World) (p : Nat) (s : PS) (o : Nat → Value) (c : Nat → List Int) : Prop where
  px : PX (NO B E m o) w0 w p s
  base : B = w0.heap.size
  rows : ∀ i, i < m → RW w 1 (o i) (c i).length (nums .i64 (c i))
  own : ∀ i, i < m → ∀ g, isAt (o i) g → B ≤ g ∧ ¬ E g
  ne : ∀ i j, i < m → j < m → i ≠ j → ∀ g, isAt (o i) g → ¬ isAt (o j) g
  outer : ∀ g, E g → B ≤ g ∧ g < w.heap.size
theorem OX.below {B : Nat} {E : Nat → Prop} {m : Nat} {w0 w : World} {p : Nat} {s : PS} {o : Nat → Value} {c : Nat → List Int} (h : OX B E m w0 w p s o c) : Below w0.heap.size w0 w :=
  h.px.kept.below (Nat.le_refl _) fun g hg => Nat.le_of_not_lt fun hl => hg (.inl (by rw [h.base]; exact hl))
/-- What the pacer did. -/
theorem OX.step {B : Nat} {E : Nat → Prop} {m : Nat} {w0 w w' : World} {p : Nat} {s s' : PS} {o : Nat → Value} {c : Nat → List Int} (h : OX B E m w0 w p s o c) (hx : PX (NO B E m o) w w' p s') : OX B E m w0 w' p s' o c :=
  ⟨⟨hx.ok, hx.pb, h.px.kept.trans hx.kept fun _ _ h => h⟩, h.base, fun i hi => (h.rows i hi).kept hx.kept fun _ hg hn => hn (.inr (.inr ⟨i, hi, hg⟩)), h.own, h.ne, fun g hg => ⟨(h.outer g hg).1, Nat.lt_of_lt_of_le (h.outer g hg).2 hx.kept.size⟩⟩
theorem OX.run {B : Nat} {E : Nat → Prop} {m : Nat} {w0 w w' : World} {p : Nat} {s : PS} {o : Nat → Value} {c : Nat → List Int} (h : OX B E m w0 w p s o c) (hk : Kept (fun _ => False) w w') : OX B E m w0 w' p s o c := h.step (h.px.here.run hk)
theorem OX.alloc {B : Nat} {E : Nat → Prop} {m : Nat} {w0 w : World} {p : Nat} {s : PS} {o : Nat → Value} {c : Nat → List Int} (h : OX B E m w0 w p s o c) (x : Obj) : OX B E m w0 (w.alloc x) p s o c := h.run ((Kept.refl _ w).alloc x)
theorem OX.drew {B : Nat} {E : Nat → Prop} {m : Nat} {w0 w : World} {p : Nat} {s : PS} {o : Nat → Value} {c : Nat → List Int} (h : OX B E m w0 w p s o c) : OX B E m w0 w.drew p s o c := h.run (Kept.refl _ w).drew
/-- The caller writes into blocks of its own, or into ones that are newer. -/
theorem OX.runE {B : Nat} {E S : Nat → Prop} {m : Nat} {w0 w w' : World} {p : Nat} {s : PS} {o : Nat → Value} {c : Nat → List Int} (h : OX B E m w0 w p s o c) (hk : Kept S w w') (hS : ∀ g, S g → E g) : OX B E m w0 w' p s o c := by
  have hl : ∀ g, NO B E m o g → g < w.heap.size := fun g hg => by obtain ⟨v, hv⟩ := h.px.pb; exact hv.lt g hg
  refine ⟨⟨h.px.ok, h.px.pb.more hk (fun g hg => .inr (.inl (hS g hg))) (fun g hg => .inl hg), ?_⟩, h.base, fun i hi => (h.rows i hi).kept hk fun g hg hs => (h.own i hi g hg).2 (hS g hs), h.own, h.ne, fun g hg => ⟨(h.outer g hg).1, Nat.lt_of_lt_of_le (h.outer g hg).2 hk.size⟩⟩
  have hbad : ∀ g, g < w0.heap.size → ¬ S g := fun g hg hs => by have := (h.outer g (hS g hs)).1; have := h.base; omega
  exact h.px.kept.trans hk fun g hg hs => absurd hs (hbad g hg)
/-- One of the slices has grown. -/
theorem OX.app {B : Nat} {E : Nat → Prop} {m : Nat} {w0 w w' : World} {p : Nat} {s : PS} {o : Nat → Value} {c : Nat → List Int} (h : OX B E m w0 w p s o c) {i : Nat} (hi : i < m) {v : Value} {x : Int} (hr : RW w' 1 v ((c i).length + 1) (nums .i64 (c i) ++ [.int .i64 x])) (hk : Kept (isAt (o i)) w w') (hn : ∀ g, isAt v g → isAt (o i) g ∨ g = w.heap.size) :
    OX B E m w0 w' p s (fun k => if k = i then v else o k) (fun k => if k = i then c i ++ [x] else c k) := by
  have hl : ∀ g, NO B E m o g → g < w.heap.size := fun g hg => by obtain ⟨u, hv⟩ := h.px.pb; exact hv.lt g hg
  have hb := h.base
  have hsz : w0.heap.size ≤ w.heap.size := h.px.kept.size
  have hvlt : ∀ g, isAt v g → g < w'.heap.size := fun g hg => hr.lt hg
  have hBv : ∀ g, isAt v g → B ≤ g ∧ ¬ E g := fun g hg => by
    rcases hn g hg with h1 | h1
    · exact h.own i hi g h1
    · refine ⟨by omega, fun e => ?_⟩
      have := (h.outer g e).2
      omega
  have hN : ∀ g, NO B E m (fun k => if k = i then v else o k) g → NO B E m o g ∨ (w.heap.size ≤ g ∧ g < w'.heap.size) := fun g hg => by
    rcases hg with h1 | h1 | ⟨j, hj, h1⟩
    · exact .inl (.inl h1)
    · exact .inl (.inr (.inl h1))
    · by_cases e : j = i
      · subst e
        simp only [if_pos] at h1
        rcases hn g h1 with h2 | h2
        · exact .inl (.inr (.inr ⟨j, hj, h2⟩))
        · exact .inr ⟨by omega, hvlt g h1⟩
      · simp only [if_neg e] at h1
        exact .inl (.inr (.inr ⟨j, hj, h1⟩))
  have h0 : ∀ g, g < w0.heap.size → NO B E m (fun k => if k = i then v else o k) g → NO B E m o g := fun g hg h1 => by
    rcases hN g h1 with h2 | h2
    · exact h2
    · omega
  refine ⟨?_, hb, fun j hj => ?_, fun j hj g hg => ?_, fun j k hj hk4 hne g hg => ?_, fun g hg => ⟨(h.outer g hg).1, Nat.lt_of_lt_of_le (h.outer g hg).2 hk.size⟩⟩
  · refine ⟨h.px.ok, h.px.pb.more hk (fun g hg => .inr (.inr ⟨i, hi, hg⟩)) hN, ?_⟩
    refine Kept.trans (S := fun g => ¬ NO B E m (fun k => if k = i then v else o k) g) (h.px.kept.mono fun g hg hn hn' => hn (h0 g hg hn')) hk fun g hg hs => ?_
    have := (h.own i hi g hs).1
    omega
  · by_cases e : j = i
    · subst e
      simp only [if_pos, List.length_append, List.length_singleton]
      have e2 : nums .i64 (c j ++ [x]) = nums .i64 (c j) ++ [.int .i64 x] := by simp [nums]
      rw [e2]
      exact hr
    · simp only [if_neg e]
      exact (h.rows j hj).kept hk (h.ne j i hj hi e)
  · by_cases e : j = i
    · subst e
      simp only [if_pos] at hg
      exact hBv g hg
    · simp only [if_neg e] at hg
      exact h.own j hj g hg
  · by_cases e : j = i
    · subst e
      simp only [if_pos] at hg
      rw [if_neg (Ne.symm hne)]
      intro hk2
      rcases hn g hg with h1 | h1
      · exact h.ne j k hj hk4 hne g h1 hk2
      · have := (h.rows k hk4).lt hk2; omega
    · simp only [if_neg e] at hg
      by_cases e2 : k = i
      · subst e2
        simp only [if_pos]
        intro hk2
        rcases hn g hk2 with h1 | h1
        · exact h.ne j k hj hk4 hne g hg h1
        · have := (h.rows j hj).lt hg; omega
      · simp only [if_neg e2]
        exact h.ne j k hj hk4 hne g hg
/-- The caller's own blocks are others: fewer, or newer ones. -/
theorem OX.grab {B : Nat} {E E' : Nat → Prop} {m : Nat} {w0 w w' : World} {p : Nat} {s : PS} {o : Nat → Value} {c : Nat → List Int} (h : OX B E m w0 w p s o c) (hk : Kept (fun _ => False) w w') (hE : ∀ g, E' g → E g ∨ (w.heap.size ≤ g ∧ g < w'.heap.size)) : OX B E' m w0 w' p s o c := by
  have hsz : w0.heap.size ≤ w.heap.size := h.px.kept.size
  have hb := h.base
  refine ⟨h.px.more hk (fun _ e => e.elim) (fun _ _ e => e.elim) (fun g hg hn => ?_) (fun g hg => ?_), h.base, fun i hi => (h.rows i hi).kept hk (fun _ _ => id), fun i hi g hg => ⟨(h.own i hi g hg).1, fun e => ?_⟩, h.ne, fun g hg => ?_⟩
  · rcases hn with h1 | h1 | h1
    · exact .inl h1
    · rcases hE g h1 with h2 | h2
      · exact .inr (.inl h2)
      · omega
    · exact .inr (.inr h1)
  · rcases hg with h1 | h1 | h1
    · exact .inl (.inl h1)
    · rcases hE g h1 with h2 | h2
      · exact .inl (.inr (.inl h2))
      · exact .inr h2
    · exact .inl (.inr (.inr h1))
  · rcases hE g e with h2 | h2
    · exact (h.own i hi g hg).2 h2
    · have := (h.rows i hi).lt hg; omega
  · rcases hE g hg with h2 | h2
    · exact ⟨(h.outer g h2).1, Nat.lt_of_lt_of_le (h.outer g h2).2 hk.size⟩
    · exact ⟨by omega, h2.2⟩
/-- A cell of the caller's own blocks is as it was, whatever the pacer did. -/
theorem OX.keep {B : Nat} {E : Nat → Prop} {m : Nat} {w0 w w' : World} {p : Nat} {s s' : PS} {o : Nat → Value} {c : Nat → List Int} (h : OX B E m w0 w p s o c) (hx : PX (NO B E m o) w w' p s') {g : Nat} (hg : E g) (k : Nat) : w'.cell? ⟨g, k, none⟩ = w.cell? ⟨g, k, none⟩ :=
  hx.kept.cell (p := ⟨g, k, none⟩) (h.outer g hg).2 (fun hn => hn (.inr (.inl hg)))
/-- An element of one of the slices, where it lies. -/
theorem OX.at {B : Nat} {E : Nat → Prop} {m : Nat} {w0 w : World} {p : Nat} {s : PS} {o : Nat → Value} {c : Nat → List Int} (h : OX B E m w0 w p s o c) {i : Nat} (hi : i < m) {A : Option Addr} {n k : Nat} (ho : o i = .slice A n k) {j : Nat} {x : Int} (hx : (c i)[j]? = some x) :
    ∃ g off, A = some ⟨g, off, none⟩ ∧ g < w.heap.size ∧ w.cell? ⟨g, off + j, none⟩ = some (.int .i64 x) := by
  have h1 := h.rows i hi
  rw [ho] at h1
  obtain ⟨A', c', e⟩ := h1.shape
  injection e with e1 e2 e3
  subst e2
  have hj := (List.getElem?_eq_some_iff.1 hx).1
  obtain ⟨g, off, hA, hg, hc⟩ := h1.rd.2 (by omega)
  exact ⟨g, off, hA, hg, hc j _ (by simp [nums, hx])⟩
theorem OX.val {B : Nat} {E : Nat → Prop} {m : Nat} {w0 w : World} {p : Nat} {s : PS} {o : Nat → Value} {c : Nat → List Int} (h : OX B E m w0 w p s o c) {i : Nat} (hi : i < m) : ∃ A k, o i = .slice A (c i).length k := (h.rows i hi).shape
theorem info_int : (Try.prog.info? 3).map (fun i => (i.zero, i.size, i.bytes)) = some (some (.int .i64 0), 1, 8) := by kernel_rfl
theorem info_int64 : (Try.prog.info? 2).map (fun i => (i.zero, i.size, i.bytes)) = some (some (.int .i64 0), 1, 8) := by kernel_rfl
/-- A step of a script, as it reads. -/
abbrev Stp : Type := Int × (Int × Int × Int × Int) × Int × Int × Int × Int
abbrev rStp : Rel Stp := rTwo (rInt .i64) (rTwo (rTwo (rInt .i64) (rTwo (rInt .i64) (rTwo (rInt .i64) (rInt .i64)))) (rTwo (rInt .i64) (rTwo (rInt .i64) (rTwo (rInt .i64) (rInt .i64)))))
theorem stp_at {w : World} {A : Option Addr} {n : Nat} {zs : List Stp} (h : Els 9 rStp w A n zs) {k : Nat} (hk : k < n) :
    ∃ b off kd x1 x2 x3 x4 r wd fl nw, A = some ⟨b, off, none⟩ ∧ b < w.heap.size ∧ zs[k]? = some (kd, (x1, x2, x3, x4), r, wd, fl, nw) ∧ w.cell? ⟨b, off + k * 9, none⟩ = some (.int .i64 kd) ∧ w.cell? ⟨b, off + k * 9 + 1, none⟩ = some (.int .i64 x1) ∧ w.cell? ⟨b, off + k * 9 + 2, none⟩ = some (.int .i64 x2) ∧
      w.cell? ⟨b, off + k * 9 + 3, none⟩ = some (.int .i64 x3) ∧ w.cell? ⟨b, off + k * 9 + 4, none⟩ = some (.int .i64 x4) ∧ w.cell? ⟨b, off + k * 9 + 5, none⟩ = some (.int .i64 r) ∧ w.cell? ⟨b, off + k * 9 + 6, none⟩ = some (.int .i64 wd) ∧ w.cell? ⟨b, off + k * 9 + 7, none⟩ = some (.int .i64 fl) ∧ w.cell? ⟨b, off + k * 9 + 8, none⟩ = some (.int .i64 nw) := by
  obtain ⟨hl, _, h3⟩ := h
  obtain ⟨b, off, rfl, hb, hc⟩ := h3 (by omega)
  obtain ⟨x, hx⟩ : ∃ x, zs[k]? = some x := ⟨_, List.getElem?_eq_getElem (by omega)⟩
  obtain ⟨cc, hc1, hc2, hr⟩ := hc k x hx
  obtain ⟨kd, ⟨x1, x2, x3, x4⟩, r, wd, fl, nw⟩ := x
  obtain ⟨_, _, rfl, ⟨rfl, _⟩, _, _, rfl, ⟨_, _, rfl, ⟨rfl, _⟩, _, _, rfl, ⟨rfl, _⟩, _, _, rfl, ⟨rfl, _⟩, ⟨rfl, _⟩⟩, _, _, rfl, ⟨rfl, _⟩, _, _, rfl, ⟨rfl, _⟩, _, _, rfl, ⟨rfl, _⟩, ⟨rfl, _⟩⟩ := hr
  exact ⟨b, off, kd, x1, x2, x3, x4, r, wd, fl, nw, rfl, hb (by omega), hx, hc2 0 _ rfl, hc2 1 _ rfl, hc2 2 _ rfl, hc2 3 _ rfl, hc2 4 _ rfl, hc2 5 _ rfl, hc2 6 _ rfl, hc2 7 _ rfl, hc2 8 _ rfl⟩
end Go.Proofs.Ytkjjkepiihdihaa.Pace
