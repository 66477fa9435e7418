/- What the history's small calls come to; no condition but the ranges in each. -/
import Derived.Test.YtfemmbipglpalaaPlain
import Derived.Test.YtfemmbipglpalaaMap
import Derived.Test.YtfemmbipglpalaaSatFn
import Derived.Test.YtfemmbipglpalaaWrapFn
import Derived.Deep.DeepCutAuto
namespace Go.Proofs.Ytfemmbipglpalaa.History
open Go.RowKit Go.Proofs.Ytfemmbipglpalaa.Plain Go.Proofs.Ytfemmbipglpalaa.Heap Go.Proofs.Ytfemmbipglpalaa.Maps

/-- A packet that is remembered: its number, its size, when it was sent. -/
abbrev E3 : Type := Int × Int × Int
def eval3 (x : E3) : Value := .agg #[.int .i64 x.1, .int .i64 x.2.1, .int .i64 x.2.2]
def ent (x : E3) : Int × Value := (x.1, eval3 x)
structure HS where
  timeout : Int
  next : Int
  first : Int
  last : Int
  flying : Int
  l : List E3
def hcells (h : HS) (r : Nat) : Array Value := #[.int .i64 h.timeout, .int .i64 h.next, .int .i64 h.first, .int .i64 h.last, .map (some r), .int .i64 h.flying]
/-- The history at block p, its map at block r. -/
structure HR (w : World) (p r : Nat) (h : HS) : Prop where
  b : w.heap[p]? = some (.cells (hcells h r) 72 (0, 0))
  m : MH w r (h.l.map ent)
  ne : p ≠ r
theorem HR.cells {w : World} {p r : Nat} {h : HS} (hr : HR w p r h) :
    w.cell? ⟨p, 0, none⟩ = some (.int .i64 h.timeout) ∧ w.cell? ⟨p, 1, none⟩ = some (.int .i64 h.next) ∧ w.cell? ⟨p, 2, none⟩ = some (.int .i64 h.first) ∧ w.cell? ⟨p, 3, none⟩ = some (.int .i64 h.last) ∧ w.cell? ⟨p, 4, none⟩ = some (.map (some r)) ∧ w.cell? ⟨p, 5, none⟩ = some (.int .i64 h.flying) ∧ (∀ i, w.frozen? ⟨p, i, none⟩ = false) ∧ p < w.heap.size ∧ r < w.heap.size := by
  have hb := hr.b
  exact ⟨by simp [World.cell?, hb, hcells], by simp [World.cell?, hb, hcells], by simp [World.cell?, hb, hcells], by simp [World.cell?, hb, hcells], by simp [World.cell?, hb, hcells], by simp [World.cell?, hb, hcells], fun i => by simp [World.frozen?, hb], (Array.getElem?_eq_some_iff.1 hb).1, hr.m.lt⟩
theorem HR.kept {S : Nat → Prop} {w w' : World} {p r : Nat} {h : HS} (hr : HR w p r h) (hk : Kept S w w') (hp : ¬ S p) (hq : ¬ S r) : HR w' p r h :=
  ⟨(hk.block p hr.cells.2.2.2.2.2.2.2.1 hp).trans hr.b, hr.m.kept hk hq, hr.ne⟩
set_option maxHeartbeats 400000 in
theorem new_bad (t : Int) (w : World) (h : t < 1 ∨ 1125899906842624 < t) : Calls Try.prog 10 #[.int .i64 t] w fun e w' => e = .returned (.tuple #[.pointer none, .int .i64 1]) ∧ w' = w := by
  have h' : t < 1 ∨ (¬ t < 1 ∧ 1125899906842624 < t) := by omega
  clear h
  rcases h' with h | ⟨h, h2⟩
  all_goals
    go_enter Try.func10, Try.ntmps10
    go_wp2
    go_ret2
    exact ⟨rfl, rfl⟩
set_option maxHeartbeats 1000000 in
theorem new_walk (t : Int) (w : World) (h : ¬ t < 1) (h2 : ¬ 1125899906842624 < t) : Calls Try.prog 10 #[.int .i64 t] w
    fun e w' => ∃ p r, e = .returned (.tuple #[.pointer (some ⟨p, 0, none⟩), .int .i64 0]) ∧ HR w' p r ⟨t, 0, 0, 0, 0, []⟩ ∧ w.heap.size ≤ p ∧ w.heap.size ≤ r ∧ Below w.heap.size w w' := by
  have hmm := @run_makeMap Try.prog
  go_enter Try.func10, Try.ntmps10
  go_wp2
  go_ret2
  refine ⟨w.heap.size + 1, rfl, w.heap.size, ⟨?_, (MH.made w).kept ((Kept.refl (fun _ => False) _).alloc _) id, by omega⟩, by omega, by omega, ((Below.refl _ _).alloc (Nat.le_refl _) _).alloc (by simp) _⟩
  have h := heap_alloc_new (w.alloc (.map #[] 0)) (.cells (hcells ⟨t, 0, 0, 0, 0, []⟩ w.heap.size) 72)
  rwa [show (w.alloc (.map #[] 0)).heap.size = w.heap.size + 1 by simp] at h
set_option maxHeartbeats 400000 in
theorem flying_any (p r : Nat) (w : World) (h : HS) (hr : HR w p r h) : Calls Try.prog 16 #[.pointer (some ⟨p, 0, none⟩)] w fun e w' => e = .returned (.int .i64 h.flying) ∧ w = w' := by
  obtain ⟨c0, c1, c2, c3, c4, c5, hf, _, _⟩ := hr.cells
  clear hr hf
  go_enter Try.func16, Try.ntmps16
  go_wp2
  go_ret
  exact ⟨rfl, rfl⟩
set_option maxHeartbeats 400000 in
theorem next_any (p r : Nat) (w : World) (h : HS) (hr : HR w p r h) : Calls Try.prog 17 #[.pointer (some ⟨p, 0, none⟩)] w fun e w' => e = .returned (.int .i64 h.next) ∧ w = w' := by
  obtain ⟨c0, c1, c2, c3, c4, c5, hf, _, _⟩ := hr.cells
  clear hr hf
  go_enter Try.func17, Try.ntmps17
  go_wp2
  go_ret
  exact ⟨rfl, rfl⟩
set_option maxHeartbeats 400000 in
theorem count_any (p r : Nat) (w : World) (h : HS) (hr : HR w p r h) : Calls Try.prog 15 #[.pointer (some ⟨p, 0, none⟩)] w fun e w' => e = .returned (.int .i64 (h.l.length : Int)) ∧ w = w' := by
  obtain ⟨c0, c1, c2, c3, c4, c5, hf, _, _⟩ := hr.cells
  have hl := hr.m.run_len Try.underlying70 3
  rw [List.length_map] at hl
  clear hr hf
  go_enter Try.func15, Try.ntmps15
  go_wp2
  go_ret
  exact ⟨rfl, rfl⟩
set_option maxHeartbeats 400000 in
theorem nil_calls (w : World) : Calls Try.prog 16 #[.pointer none] w (fun e w' => e = .returned (.int .i64 0) ∧ w = w') ∧ Calls Try.prog 17 #[.pointer none] w (fun e w' => e = .returned (.int .i64 0) ∧ w = w') ∧
    Calls Try.prog 15 #[.pointer none] w (fun e w' => e = .returned (.int .i64 0) ∧ w = w') := by
  refine ⟨?_, ?_, ?_⟩
  · go_enter Try.func16, Try.ntmps16
    go_wp2
    go_ret
    exact ⟨rfl, rfl⟩
  · go_enter Try.func17, Try.ntmps17
    go_wp2
    go_ret
    exact ⟨rfl, rfl⟩
  · go_enter Try.func15, Try.ntmps15
    go_wp2
    go_ret
    exact ⟨rfl, rfl⟩
def sendBad (size at_ : Int) : Prop := size < 0 ∨ 1500 < size ∨ at_ < 0 ∨ 1125899906842624 < at_
set_option maxHeartbeats 400000 in
theorem send_nil (size at_ : Int) (w : World) : Calls Try.prog 12 #[.pointer none, .int .i64 size, .int .i64 at_] w fun e w' => e = .returned (.tuple #[.int .i64 0, .int .i64 1]) ∧ w = w' := by
  go_enter Try.func12, Try.ntmps12
  go_wp2
  go_ret2
  exact ⟨rfl, rfl⟩
set_option maxHeartbeats 400000 in
theorem send_bad (size at_ : Int) (p : Nat) (w : World) (h : sendBad size at_) : Calls Try.prog 12 #[.pointer (some ⟨p, 0, none⟩), .int .i64 size, .int .i64 at_] w fun e w' => e = .returned (.tuple #[.int .i64 0, .int .i64 1]) ∧ w = w' := by
  have h' : size < 0 ∨ (¬ size < 0 ∧ 1500 < size) ∨ (¬ size < 0 ∧ ¬ 1500 < size ∧ at_ < 0) ∨ (¬ size < 0 ∧ ¬ 1500 < size ∧ ¬ at_ < 0 ∧ 1125899906842624 < at_) := by unfold sendBad at h; omega
  clear h
  rcases h' with h | ⟨h, h2⟩ | ⟨h, h2, h3⟩ | ⟨h, h2, h3, h4⟩
  all_goals
    go_enter Try.func12, Try.ntmps12
    go_wp2
    go_ret2
    exact ⟨rfl, rfl⟩
set_option maxHeartbeats 400000 in
theorem send_early (size at_ : Int) (p r : Nat) (w : World) (h : HS) (hr : HR w p r h) (hb : ¬ sendBad size at_) (hl : at_ < h.last) : Calls Try.prog 12 #[.pointer (some ⟨p, 0, none⟩), .int .i64 size, .int .i64 at_] w fun e w' => e = .returned (.tuple #[.int .i64 0, .int .i64 130]) ∧ w = w' := by
  obtain ⟨c0, c1, c2, c3, c4, c5, hf, _, _⟩ := hr.cells
  have b1 : ¬ size < 0 := fun e => hb (.inl e)
  have b2 : ¬ 1500 < size := fun e => hb (.inr (.inl e))
  have b3 : ¬ at_ < 0 := fun e => hb (.inr (.inr (.inl e)))
  have b4 : ¬ 1125899906842624 < at_ := fun e => hb (.inr (.inr (.inr e)))
  clear hr hf hb
  go_enter Try.func12, Try.ntmps12
  go_wp2
  go_ret2
  exact ⟨rfl, rfl⟩
set_option maxHeartbeats 400000 in
theorem send_full (size at_ : Int) (p r : Nat) (w : World) (h : HS) (hr : HR w p r h) (hb : ¬ sendBad size at_) (hl : ¬ at_ < h.last) (hn : h.l.length = 1024) : Calls Try.prog 12 #[.pointer (some ⟨p, 0, none⟩), .int .i64 size, .int .i64 at_] w fun e w' => e = .returned (.tuple #[.int .i64 0, .int .i64 250]) ∧ w = w' := by
  obtain ⟨c0, c1, c2, c3, c4, c5, hf, _, _⟩ := hr.cells
  have hlen := hr.m.run_len Try.underlying70 3
  rw [List.length_map, hn] at hlen
  have b1 : ¬ size < 0 := fun e => hb (.inl e)
  have b2 : ¬ 1500 < size := fun e => hb (.inr (.inl e))
  have b3 : ¬ at_ < 0 := fun e => hb (.inr (.inr (.inl e)))
  have b4 : ¬ 1125899906842624 < at_ := fun e => hb (.inr (.inr (.inr e)))
  clear hr hf hb hn
  go_enter Try.func12, Try.ntmps12
  go_wp2
  go_ret2
  exact ⟨rfl, rfl⟩
theorem find_none {l : List E3} {k : Int} (h : ∀ x ∈ l, x.1 ≠ k) : find k (l.map ent) = none := by
  induction l with
  | nil => rfl
  | cons x l ih =>
    have h1 := h x (by simp)
    show (if k = x.1 then some _ else find k (l.map ent)) = none
    rw [if_neg (fun e => h1 e.symm)]
    exact ih fun y hy => h y (by simp [hy])
set_option maxRecDepth 10000 in
set_option maxHeartbeats 1000000 in
theorem send_good (size at_ : Int) (p r : Nat) (w : World) (h : HS) (hr : HR w p r h) (hb : ¬ sendBad size at_) (hl : ¬ at_ < h.last) (hn : ¬ h.l.length = 1024) (hlt : ∀ x ∈ h.l, x.1 < h.next) (hn0 : 0 ≤ h.next) (hn1 : h.next ≤ 1125899906842624) (hf0 : 0 ≤ h.flying) (hf1 : h.flying ≤ 1125899906842624) :
    Calls Try.prog 12 #[.pointer (some ⟨p, 0, none⟩), .int .i64 size, .int .i64 at_] w fun e w' => e = .returned (.tuple #[.int .i64 (h.next % 65536), .int .i64 0]) ∧
      HR w' p r { h with next := h.next + 1, last := at_, flying := h.flying + size, l := h.l ++ [(h.next, size, at_)] } ∧ Kept (fun g => g = p ∨ g = r) w w' := by
  obtain ⟨c0, c1, c2, c3, c4, c5, hf, hp, hrl⟩ := hr.cells
  have hlen := hr.m.run_len Try.underlying70 3
  rw [List.length_map] at hlen
  have hn' : (((h.l.length : Nat) : Int) == 1024) = false := by simp; omega
  obtain ⟨w1, hst, hm1, hk1⟩ := hr.m.run_store Try.underlying70 Try.underlying2 (k := h.next) (eval3 (h.next, size, at_)) (find_none fun x hx => by have := hlt x hx; omega)
  unfold eval3 at hst
  have b1 : ¬ size < 0 := fun e => hb (.inl e)
  have b2 : ¬ 1500 < size := fun e => hb (.inr (.inl e))
  have b3 : ¬ at_ < 0 := fun e => hb (.inr (.inr (.inl e)))
  have b4 : ¬ 1125899906842624 < at_ := fun e => hb (.inr (.inr (.inr e)))
  have hnpr : ¬ p = r := hr.ne
  have hb1 := (hk1.block p hp hnpr).trans hr.b
  have x1 : w1.cell? ⟨p, 1, none⟩ = some (.int .i64 h.next) := by simp [World.cell?, hb1, hcells]
  have x3 : w1.cell? ⟨p, 3, none⟩ = some (.int .i64 h.last) := by simp [World.cell?, hb1, hcells]
  have x5 : w1.cell? ⟨p, 5, none⟩ = some (.int .i64 h.flying) := by simp [World.cell?, hb1, hcells]
  have y1 : w1.frozen? ⟨p, 1, none⟩ = false := by simp [World.frozen?, hb1]
  have y3 : w1.frozen? ⟨p, 3, none⟩ = false := by simp [World.frozen?, hb1]
  have y5 : w1.frozen? ⟨p, 5, none⟩ = false := by simp [World.frozen?, hb1]
  have t1 : wrap64 (h.flying + size) = h.flying + size := w64 (by omega) (by omega)
  have t2 : wrap64 (h.next + 1) = h.next + 1 := w64 (by omega) (by omega)
  have HB1 := Lib.hid hb1
  have HM1 := Lib.hid hm1
  have HK1 := Lib.hid hk1
  clear hr hf hb hb1 hm1 hk1 hlt
  go_enter Try.func12, Try.ntmps12
  go_wp2_with fail
  refine (Fn.cut_yes h.next 16 65536 _ (by decide) (by decide) (by decide) (by decide) (by decide)).mono ?_
  rintro e w2 ⟨rfl, rfl⟩
  go_wp2_with fail
  go_ret2
  have kf : Kept (fun g => g = p) w1 _ := (((Kept.refl (fun g => g = p) w1).setCell (p := ⟨p, 5, none⟩) (.inl rfl) (.int .i64 (h.flying + size))).setCell (p := ⟨p, 3, none⟩) (.inl rfl) (.int .i64 at_)).setCell (p := ⟨p, 1, none⟩) (.inl rfl) (.int .i64 (h.next + 1))
  refine ⟨rfl, ⟨?_, ?_, hnpr⟩, (HK1.out.mono (fun _ _ h => .inr h)).trans (kf.mono (fun _ _ h => .inl h)) (fun _ _ h => h)⟩
  · have hq := HB1.out
    simp [World.setCell, Array.getElem?_modify, hq, hcells]
  · have hm := HM1.out.kept kf (fun e => hnpr e.symm)
    simpa [ent] using hm
end Go.Proofs.Ytfemmbipglpalaa.History
