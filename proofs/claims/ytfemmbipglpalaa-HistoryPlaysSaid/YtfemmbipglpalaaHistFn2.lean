/- What drop and Hear come to; no condition but the ranges in each. -/
import Derived.Test.YtfemmbipglpalaaHistFn
namespace Go.Proofs.Ytfemmbipglpalaa.History
open Go.RowKit Go.Proofs.Ytfemmbipglpalaa.Plain Go.Proofs.Ytfemmbipglpalaa.Heap Go.Proofs.Ytfemmbipglpalaa.Maps

def eraseE (k : Int) : List E3 → List E3
  | [] => []
  | x :: l => if k = x.1 then l else x :: eraseE k l
theorem erase_ent (k : Int) (l : List E3) : erase k (l.map ent) = (eraseE k l).map ent := by
  induction l with
  | nil => rfl
  | cons x l ih =>
    show (if k = x.1 then l.map ent else ent x :: erase k (l.map ent)) = _
    unfold eraseE
    by_cases h : k = x.1
    · rw [if_pos h, if_pos h]
    · rw [if_neg h, if_neg h, ih]; rfl
def findE (k : Int) : List E3 → Option E3
  | [] => none
  | x :: l => if k = x.1 then some x else findE k l
theorem find_ent (k : Int) (l : List E3) : find k (l.map ent) = (findE k l).map eval3 := by
  induction l with
  | nil => rfl
  | cons x l ih =>
    show (if k = x.1 then some (eval3 x) else find k (l.map ent)) = _
    unfold findE
    by_cases h : k = x.1
    · rw [if_pos h, if_pos h]; rfl
    · rw [if_neg h, if_neg h, ih]
theorem findE_key {k : Int} {l : List E3} {x : E3} (h : findE k l = some x) : x.1 = k ∧ x ∈ l := by
  induction l with
  | nil => cases h
  | cons y l ih =>
    unfold findE at h
    split at h
    · rename_i e
      injection h with h
      subst h
      exact ⟨e.symm, by simp⟩
    · have := ih h
      exact ⟨this.1, by simp [this.2]⟩
def dropE (h : HS) (x : E3) : HS := { h with flying := h.flying - x.2.1, l := eraseE x.1 h.l }
theorem drew_heap (w : World) : w.drew.heap = w.heap := rfl
set_option maxRecDepth 10000 in
set_option maxHeartbeats 1000000 in
theorem drop_any (p r : Nat) (w : World) (h : HS) (x : E3) (hr : HR w p r h) (hx : findE x.1 h.l = some x) (hf0 : -4503599627370496 ≤ h.flying) (hf1 : h.flying ≤ 4503599627370496) (hx0 : 0 ≤ x.2.1) (hx1 : x.2.1 ≤ 1500) :
    Calls Try.prog 31 #[.pointer (some ⟨p, 0, none⟩), eval3 x] w fun e w' => e = .returned (.tuple #[]) ∧ HR w' p r (dropE h x) ∧ Kept (fun g => g = p ∨ g = r) w w' := by
  obtain ⟨n, s, a⟩ := x
  simp only at hx hx0 hx1
  have ht : wrap64 (h.flying - s) = h.flying - s := w64 (by omega) (by omega)
  unfold eval3
  have HRr := Lib.hid hr
  have hnpr : ¬ p = r := hr.ne
  have HX := Lib.hid hx
  clear hr hx
  go_enter Try.func31, Try.ntmps31
  go_upto_region 1 with fail
  generalize hW : World.alloc w _ = W
  have hk : Kept (fun _ => False) w W := by rw [← hW]; exact (Kept.refl _ w).alloc _
  have hn : W.heap[w.heap.size]? = some (.cells #[.int .i64 n, .int .i64 s, .int .i64 a] 38 (0, 0)) := by rw [← hW]; exact heap_alloc_new w _
  have hW2 : HR W p r h := HRr.out.kept hk id id
  have hm : MH W.drew r (h.l.map ent) := hW2.m
  obtain ⟨w1, hdel, hm1, hk1⟩ := hm.run_delete Try.underlying70 Try.underlying2 (k := n) (v := eval3 (n, s, a)) (by rw [find_ent, HX.out]; rfl)
  obtain ⟨c0, c1, c2, c3, c4, c5, hf, hp, hrl⟩ := hW2.cells
  have x0 : W.cell? ⟨w.heap.size, 0, none⟩ = some (.int .i64 n) := by simp [World.cell?, hn]
  have hnr : w.heap.size ≠ r := by have := HRr.out.cells.2.2.2.2.2.2.2.2; omega
  have hb1 := (hk1.block p hp hnpr).trans hW2.b
  have hs1 := (hk1.block w.heap.size (Array.getElem?_eq_some_iff.1 hn).1 hnr).trans hn
  have x1 : w1.cell? ⟨w.heap.size, 1, none⟩ = some (.int .i64 s) := by simp [World.cell?, hs1]
  have x5 : w1.cell? ⟨p, 5, none⟩ = some (.int .i64 h.flying) := by simp [World.cell?, hb1, hcells]
  have y5 : w1.frozen? ⟨p, 5, none⟩ = false := by simp [World.frozen?, hb1]
  have HB1 := Lib.hid hb1
  have HM1 := Lib.hid hm1
  have HK1 := Lib.hid hk1
  have HK := Lib.hid hk
  clear hW hk hn hW2 hm hm1 hk1 hf hb1 hs1 c0 c1 c2 c3 c5
  go_region
  go_wp2_with fail
  go_region
  go_wp2_with fail
  have kf : Kept (fun g => g = p) w1 _ := (Kept.refl (fun g => g = p) w1).setCell (p := ⟨p, 5, none⟩) (.inl rfl) (.int .i64 (h.flying - s))
  have hfin : HR (w1.setCell ⟨p, 5, none⟩ (.int .i64 (h.flying - s))) p r (dropE h (n, s, a)) := by
    refine ⟨?_, ?_, hnpr⟩
    · have hq := HB1.out
      simp [World.setCell, Array.getElem?_modify, hq, hcells, dropE]
    · have hmm := HM1.out.kept kf (fun e => hnpr e.symm)
      rw [erase_ent] at hmm
      exact hmm
  have kall : Kept (fun g => g = p ∨ g = r) w (w1.setCell ⟨p, 5, none⟩ (.int .i64 (h.flying - s))) := ((HK.out.drew.mono (fun _ _ h => h.elim)).trans (HK1.out.mono (S' := fun g => g = p ∨ g = r) (fun _ _ h => .inr h)) (fun _ _ h => h)).trans (kf.mono (S' := fun g => g = p ∨ g = r) (fun _ _ h => .inl h)) (fun _ _ h => h)
  refine bodyPost_end (results_none rfl _ _ _) rfl ⟨rfl, ?_, ?_⟩
  · first | exact hfin | exact hfin.kept (Kept.refl (fun _ => False) _).drew id id | exact hfin.kept ((Kept.refl (fun _ => False) _).drewN _) id id
  · first | exact kall | exact kall.drew | exact kall.drewN _
end Go.Proofs.Ytfemmbipglpalaa.History
