/- Two arrays of four slices each beside a pacer; the plain law of PacerOrder; no condition but those in each. -/
import Derived.Test.YtkjjkepiihdihaaPaceLaw4
import Derived.Deep.QuietTactic
namespace Go.Proofs.Ytkjjkepiihdihaa.Pace
open Go.RowKit Go.Proofs.Ytkjjkepiihdihaa.Plain Go.Proofs.Ytkjjkepiihdihaa.Heap Go.Proofs.Ytkjjkepiihdihaa.Rows Go.Proofs.Ytkjjkepiihdihaa.Open

set_option maxHeartbeats 2000000 in
/-- Two lists that read alike. -/
theorem ints_same (A B : Option Addr) (n c d : Nat) (xs : List Int) (w : World) (hr : RI w .i64 A n xs) (hs : RI w .i64 B n xs) :
    Calls Try.prog 17 #[.slice A n c, .slice B n d] w fun e w' => e = .returned (.bool true) ∧ ∃ q, w' = w.drewN q := by
  obtain ⟨hl, hm, hr⟩ := hr
  obtain ⟨_, _, hs⟩ := hs
  have HR := Lib.hid hr
  have HS := Lib.hid hs
  have HL := Lib.hid hl
  clear hr hs hl
  go_enter Try.func17, Try.ntmps17
  go_wp2
  go_loopw [5] (fun i wr => ∃ k q : Nat, k ≤ n ∧ i = .int .i64 k ∧ wr = w.drewN q) (fun i _ => n - (intOf i).toNat)
  case atStart => exact ⟨0, 0, Nat.zero_le _, rfl, rfl⟩
  case round =>
    obtain ⟨k, q, hk, rfl, rfl⟩ := hrel
    by_cases hlt : k < n
    · obtain ⟨b, off, rfl, hblt, hcell⟩ := HR.out (by omega)
      obtain ⟨b', off', rfl, hblt', hcell'⟩ := HS.out (by omega)
      have hc : w.cell? ⟨b, off + k, none⟩ = some (.int .i64 (xs.getD k 0)) := hcell k hlt
      have hc' : w.cell? ⟨b', off' + k, none⟩ = some (.int .i64 (xs.getD k 0)) := hcell' k hlt
      have hz : (k : Int) < (n : Int) := by omega
      clear hcell hcell'
      go_wp2_with fail
      go_quiet (fail)
      go_wp2
      go_roundw
      case rel => exact ⟨k + 1, _, by omega, by go_num, rfl⟩
      case measure => simp [intOf]; omega
    · go_wp2
      go_ret
      exact ⟨rfl, _, rfl⟩
/-- A slice of numbers, in the other way of reading. -/
theorem RW.ints {w : World} {A : Option Addr} {n c : Nat} {xs : List Int} (h : RW w 1 (.slice A n c) n (nums .i64 xs)) (hn : n ≤ 1000000) : RI w .i64 A n xs := by
  have hl := h.1
  simp only [nums, List.length_map, Nat.mul_one] at hl
  refine ⟨hl, by omega, fun h0 => ?_⟩
  obtain ⟨g, off, hA, hg, hc⟩ := h.rd.2 h0
  refine ⟨g, off, hA, hg, fun j hj => ?_⟩
  have := hc j (.int .i64 (xs.getD j 0)) (by simp [nums, List.getD_eq_getElem?_getD, List.getElem?_eq_getElem (show j < xs.length by omega)])
  exact this
theorem RI.take {w : World} {A : Option Addr} {n m : Nat} {xs : List Int} (h : RI w .i64 A n xs) (hm : m ≤ n) : RI w .i64 A m (xs.take m) := by
  obtain ⟨h1, h2, h3⟩ := h
  refine ⟨by rw [List.length_take]; omega, by omega, fun h0 => ?_⟩
  obtain ⟨g, off, hA, hg, hc⟩ := h3 (by omega)
  refine ⟨g, off, hA, hg, fun j hj => ?_⟩
  have := hc j (by omega)
  rw [show (xs.take m).getD j 0 = xs.getD j 0 by simp [List.getD_eq_getElem?_getD, hj]]
  exact this
/-- Two arrays, of four slices each, in blocks of the caller's own. -/
structure OD (E : Nat → Prop) (w0 w : World) (p : Nat) (s : PS) (o : Nat → Value) (c : Nat → List Int) (bi bo : Nat) : Prop where
  ox : OX w0.heap.size E 8 w0 w p s o c
  hi : w.heap[bi]? = some (.cells #[o 0, o 1, o 2, o 3] 42 (0, 0))
  ho : w.heap[bo]? = some (.cells #[o 4, o 5, o 6, o 7] 42 (0, 0))
  ei : E bi
  eo : E bo
  ne : bi ≠ bo
theorem OD.step {E : Nat → Prop} {w0 w w' : World} {p : Nat} {s s' : PS} {o : Nat → Value} {c : Nat → List Int} {bi bo : Nat} (h : OD E w0 w p s o c bi bo) (hx : PX (NO w0.heap.size E 8 o) w w' p s') : OD E w0 w' p s' o c bi bo :=
  ⟨h.ox.step hx, (hx.kept.block bi (h.ox.outer bi h.ei).2 (fun hn => hn (.inr (.inl h.ei)))).trans h.hi, (hx.kept.block bo (h.ox.outer bo h.eo).2 (fun hn => hn (.inr (.inl h.eo)))).trans h.ho, h.ei, h.eo, h.ne⟩
theorem OD.run {E : Nat → Prop} {w0 w w' : World} {p : Nat} {s : PS} {o : Nat → Value} {c : Nat → List Int} {bi bo : Nat} (h : OD E w0 w p s o c bi bo) (hk : Kept (fun _ => False) w w') : OD E w0 w' p s o c bi bo := h.step (h.ox.px.here.run hk)
theorem OD.grab {E E' : Nat → Prop} {w0 w w' : World} {p : Nat} {s : PS} {o : Nat → Value} {c : Nat → List Int} {bi bo : Nat} (h : OD E w0 w p s o c bi bo) (hk : Kept (fun _ => False) w w') (hE : ∀ g, E' g → E g ∨ (w.heap.size ≤ g ∧ g < w'.heap.size)) (ei : E' bi) (eo : E' bo) : OD E' w0 w' p s o c bi bo :=
  ⟨h.ox.grab hk hE, (h.run hk).hi, (h.run hk).ho, ei, eo, h.ne⟩
theorem OD.keep {E : Nat → Prop} {w0 w w' : World} {p : Nat} {s s' : PS} {o : Nat → Value} {c : Nat → List Int} {bi bo : Nat} (h : OD E w0 w p s o c bi bo) (hx : PX (NO w0.heap.size E 8 o) w w' p s') {g : Nat} (hg : E g) (k : Nat) : w'.cell? ⟨g, k, none⟩ = w.cell? ⟨g, k, none⟩ := h.ox.keep hx hg k
theorem OD.cells {E : Nat → Prop} {w0 w : World} {p : Nat} {s : PS} {o : Nat → Value} {c : Nat → List Int} {bi bo : Nat} (h : OD E w0 w p s o c bi bo) {k : Nat} (hk : k < 4) :
    w.cell? ⟨bi, k, none⟩ = some (o k) ∧ w.cell? ⟨bo, k, none⟩ = some (o (4 + k)) ∧ (∀ j, w.frozen? ⟨bi, j, none⟩ = false) ∧ ∀ j, w.frozen? ⟨bo, j, none⟩ = false := by
  have h1 := h.hi
  have h2 := h.ho
  refine ⟨?_, ?_, fun j => by simp [World.frozen?, h1], fun j => by simp [World.frozen?, h2]⟩
  · rcases (show k = 0 ∨ k = 1 ∨ k = 2 ∨ k = 3 by omega) with rfl | rfl | rfl | rfl <;> simp [World.cell?, h1]
  · rcases (show k = 0 ∨ k = 1 ∨ k = 2 ∨ k = 3 by omega) with rfl | rfl | rfl | rfl <;> simp [World.cell?, h2]
/-- One of the in slices has grown, and is laid in its place. -/
theorem OD.appi {E : Nat → Prop} {w0 w w' : World} {p : Nat} {s : PS} {o : Nat → Value} {c : Nat → List Int} {bi bo : Nat} (h : OD E w0 w p s o c bi bo) {k : Nat} (hk : k < 4) {v : Value} {x : Int} (hr : RW w' 1 v ((c k).length + 1) (nums .i64 (c k) ++ [.int .i64 x])) (hkk : Kept (isAt (o k)) w w') (hn : ∀ g, isAt v g → isAt (o k) g ∨ g = w.heap.size) :
    OD E w0 (w'.setCell ⟨bi, k, none⟩ v) p s (fun j => if j = k then v else o j) (fun j => if j = k then c k ++ [x] else c j) bi bo := by
  have h1 : w'.heap[bi]? = some (.cells #[o 0, o 1, o 2, o 3] 42 (0, 0)) := (hkk.block bi (h.ox.outer bi h.ei).2 (fun e => (h.ox.own k (by omega) bi e).2 h.ei)).trans h.hi
  have h2 : w'.heap[bo]? = some (.cells #[o 4, o 5, o 6, o 7] 42 (0, 0)) := (hkk.block bo (h.ox.outer bo h.eo).2 (fun e => (h.ox.own k (by omega) bo e).2 h.eo)).trans h.ho
  have hne := h.ne
  refine ⟨(h.ox.app (by omega) hr hkk hn).runE (Kept.setCell (S := fun g => g = bi) (Kept.refl _ _) (p := ⟨bi, k, none⟩) (.inl rfl) v) (fun g hg => by rw [hg]; exact h.ei), ?_, ?_, h.ei, h.eo, h.ne⟩
  · rcases (show k = 0 ∨ k = 1 ∨ k = 2 ∨ k = 3 by omega) with rfl | rfl | rfl | rfl <;> simp [World.setCell, Array.getElem?_modify, h1]
  · rcases (show k = 0 ∨ k = 1 ∨ k = 2 ∨ k = 3 by omega) with rfl | rfl | rfl | rfl <;> simp [World.setCell, Array.getElem?_modify, h2, hne]
/-- One of the out slices has grown, and is laid in its place. -/
theorem OD.appo {E : Nat → Prop} {w0 w w' : World} {p : Nat} {s : PS} {o : Nat → Value} {c : Nat → List Int} {bi bo : Nat} (h : OD E w0 w p s o c bi bo) {k : Nat} (hk : k < 4) {v : Value} {x : Int} (hr : RW w' 1 v ((c (4 + k)).length + 1) (nums .i64 (c (4 + k)) ++ [.int .i64 x])) (hkk : Kept (isAt (o (4 + k))) w w') (hn : ∀ g, isAt v g → isAt (o (4 + k)) g ∨ g = w.heap.size) :
    OD E w0 (w'.setCell ⟨bo, k, none⟩ v) p s (fun j => if j = 4 + k then v else o j) (fun j => if j = 4 + k then c (4 + k) ++ [x] else c j) bi bo := by
  have h1 : w'.heap[bi]? = some (.cells #[o 0, o 1, o 2, o 3] 42 (0, 0)) := (hkk.block bi (h.ox.outer bi h.ei).2 (fun e => (h.ox.own (4 + k) (by omega) bi e).2 h.ei)).trans h.hi
  have h2 : w'.heap[bo]? = some (.cells #[o 4, o 5, o 6, o 7] 42 (0, 0)) := (hkk.block bo (h.ox.outer bo h.eo).2 (fun e => (h.ox.own (4 + k) (by omega) bo e).2 h.eo)).trans h.ho
  have hne := Ne.symm h.ne
  refine ⟨(h.ox.app (by omega) hr hkk hn).runE (Kept.setCell (S := fun g => g = bo) (Kept.refl _ _) (p := ⟨bo, k, none⟩) (.inl rfl) v) (fun g hg => by rw [hg]; exact h.eo), ?_, ?_, h.ei, h.eo, h.ne⟩
  · rcases (show k = 0 ∨ k = 1 ∨ k = 2 ∨ k = 3 by omega) with rfl | rfl | rfl | rfl <;> simp [World.setCell, Array.getElem?_modify, h1, hne]
  · rcases (show k = 0 ∨ k = 1 ∨ k = 2 ∨ k = 3 by omega) with rfl | rfl | rfl | rfl <;> simp [World.setCell, Array.getElem?_modify, h2]
/-- All that went, off the head one by one. -/
def pops (s : PS) (l : List W5) : PS := l.foldl pop s
theorem polls_pops : ∀ (n : Nat) {s : PS} (_ : okP s) (f : Int), (polls n s f).2 = pops s (polls n s f).1 ∧ ∀ (j : Nat) (x : W5), (polls n s f).1[j]? = some x → okP (pops s ((polls n s f).1.take j)) ∧ ∃ l, upto (pops s ((polls n s f).1.take j)) 4 = x :: l
  | 0, _, _, _ => ⟨rfl, fun j x h => by simp [polls] at h⟩
  | n + 1, s, ok, f => by
    cases h : nxt s f with
    | none => rw [polls_none h]; exact ⟨rfl, fun j x h => by simp at h⟩
    | some y =>
      obtain ⟨l, h1, _, h3⟩ := nxt_some h
      have ok2 := pop_okc ok h1 h3
      obtain ⟨i1, i2⟩ := polls_pops n ok2 (f + y.2.2.2.1)
      rw [polls_some h]
      refine ⟨by rw [i1]; rfl, fun j x hj => ?_⟩
      cases j with
      | zero =>
        simp at hj
        subst hj
        exact ⟨ok, l, h1⟩
      | succ j =>
        simp at hj
        exact i2 j x hj
/-- What came in is what went out and what waits, class by class. -/
structure Od (s : PS) (c : Nat → List Int) : Prop where
  eq : ∀ k, k < 4 → c k = c (4 + k) ++ (s.q k).map (fun x => x.1)
theorem od_in {s : PS} {c : Nat → List Int} (h : Od s c) {k : Nat} (hk : k < 4) (a b d : Int) (now : Int) : Od (push (goes s now) a b k d) (fun j => if j = k then c k ++ [a] else c j) := ⟨fun j hj => by
  have hj4 : ¬ 4 + j = k := by omega
  by_cases e : j = k
  · subst e
    simp only [if_pos, if_neg hj4, push, goes, List.map_append]
    rw [h.eq j hj, List.append_assoc]
    rfl
  · simp only [if_neg e, if_neg hj4, push, goes]
    exact h.eq j hj⟩
theorem od_goes {s : PS} {c : Nat → List Int} (h : Od s c) (now : Int) : Od (goes s now) c := ⟨h.eq⟩
theorem od_out {s : PS} {c : Nat → List Int} (h : Od s c) (ok : okP s) {x : W5} {l : List W5} (hu : upto s 4 = x :: l) :
    ∃ k : Nat, x.2.2.1 = (k : Int) ∧ k < 4 ∧ (∀ d, d < k → (c (4 + d)).length = (c d).length) ∧ Od (pop s x) (fun j => if j = 4 + k then c (4 + k) ++ [x.1] else c j) := by
  rcases class_of s with hc | ⟨k, hk, he, hn⟩
  · rw [upto_nil hc] at hu; cases hu
  · obtain ⟨y, m, hq⟩ : ∃ y m, s.q k = y :: m := by
      cases hq : s.q k with
      | nil => rw [hq] at hn; simp at hn
      | cons y m => exact ⟨y, m, rfl⟩
    have h1 := upto_cons ok hk he hq
    rw [hu] at h1
    injection h1 with h2 h3
    subst h2
    have hx : x.2.2.1 = (k : Int) := (ok.el k hk x (by rw [hq]; exact List.mem_cons_self ..)).1
    refine ⟨k, hx, hk, fun d hd => ?_, ⟨fun j hj => ?_⟩⟩
    · have := h.eq d (by omega)
      rw [List.eq_nil_of_length_eq_zero (he d hd)] at this
      rw [this]
      simp
    · have hjk : ¬ j = 4 + k := by omega
      by_cases e : j = k
      · subst e
        simp only [if_pos, if_neg hjk, pop, hx]
        rw [h.eq j hj, hq]
        simp
      · have e2 : ¬ 4 + j = 4 + k := by omega
        simp only [if_neg hjk, if_neg e2, pop]
        rw [if_neg (by omega)]
        exact h.eq j hj
theorem od_prefix {s : PS} {c : Nat → List Int} (h : Od s c) {k : Nat} (hk : k < 4) : (c (4 + k)).length ≤ (c k).length ∧ (c k).take (c (4 + k)).length = c (4 + k) := by
  rw [h.eq k hk]
  exact ⟨by simp, by simp⟩
end Go.Proofs.Ytkjjkepiihdihaa.Pace
