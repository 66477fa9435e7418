/- What a map of the call's own holds, its keys numbers: the entries in the order in which they were laid; look-up, store of a new key, delete, len. No condition but that keys are apart. -/
import Derived.Test.YtfemmbipglpalaaHeap
import Derived.MapKept
namespace Go.Proofs.Ytfemmbipglpalaa.Maps
open Go.RowKit Go.Proofs.Ytfemmbipglpalaa.Heap

/-- The map at block r holds the entries L (a number and a value). -/
def MH (w : World) (r : Nat) (L : List (Int × Value)) : Prop := ∃ es clock, w.heap[r]? = some (.map es clock) ∧ es.toList.map (fun e => (e.key, e.val)) = L.map (fun x => (Value.int .i64 x.1, x.2))
def find (k : Int) : List (Int × Value) → Option Value
  | [] => none
  | x :: L => if k = x.1 then some x.2 else find k L
def erase (k : Int) : List (Int × Value) → List (Int × Value)
  | [] => []
  | x :: L => if k = x.1 then L else x :: erase k L
theorem findNow_none {k : Int} : ∀ {es : List MapEntry} {L : List (Int × Value)} {i : Nat}, es.map (fun e => (e.key, e.val)) = L.map (fun x => (Value.int .i64 x.1, x.2)) → find k L = none → Instr.findNow (.int .i64) (.int .i64 k) es i = some none
  | [], _, _, _, _ => rfl
  | e :: es, [], _, h, _ => by simp at h
  | e :: es, x :: L, i, h, hf => by
    simp only [List.map_cons, List.cons.injEq, Prod.mk.injEq] at h
    unfold find at hf
    split at hf
    · cases hf
    · rename_i hne
      unfold Instr.findNow
      rw [h.1.1]
      have hb : (k == x.1) = false := by simpa using hne
      simp only [Instr.sameNow, hb, if_true]
      exact findNow_none h.2 hf
theorem findNow_some {k : Int} {v : Value} : ∀ {es : List MapEntry} {L : List (Int × Value)} {i : Nat}, es.map (fun e => (e.key, e.val)) = L.map (fun x => (Value.int .i64 x.1, x.2)) → find k L = some v →
    ∃ j, Instr.findNow (.int .i64) (.int .i64 k) es i = some (some (i + j, v)) ∧ j < es.length ∧ (es.eraseIdx j).map (fun e => (e.key, e.val)) = (erase k L).map (fun x => (Value.int .i64 x.1, x.2))
  | [], [], _, _, hf => by cases hf
  | [], x :: L, _, h, _ => by simp at h
  | e :: es, [], _, h, _ => by simp at h
  | e :: es, x :: L, i, h, hf => by
    simp only [List.map_cons, List.cons.injEq, Prod.mk.injEq] at h
    unfold find at hf
    unfold Instr.findNow
    rw [h.1.1]
    split at hf
    · rename_i heq
      injection hf with hf
      have hb : (k == x.1) = true := by simpa using heq
      refine ⟨0, ?_, by simp, ?_⟩
      · simp only [Instr.sameNow, hb, if_true]
        rw [h.1.2, hf]
        rfl
      · unfold erase
        rw [if_pos heq]
        simpa using h.2
    · rename_i hne
      have hb : (k == x.1) = false := by simpa using hne
      obtain ⟨j, h1, h2, h3⟩ := findNow_some (i := i + 1) h.2 hf
      refine ⟨j + 1, ?_, by simp; omega, ?_⟩
      · simp only [Instr.sameNow, hb, if_true]
        rw [h1]
        congr 3
        omega
      · unfold erase
        rw [if_neg hne]
        simp only [List.eraseIdx_cons_succ, List.map_cons, h3]
        rw [h.1.1, h.1.2]
section
variable {P : Program} {w : World} {r : Nat} {L : List (Int × Value)} {t kt et : TypeId}
theorem MH.lt (h : MH w r L) : r < w.heap.size := by
  obtain ⟨es, clock, h1, _⟩ := h
  exact (Array.getElem?_eq_some_iff.1 h1).1
theorem MH.kept {S : Nat → Prop} {w' : World} (h : MH w r L) (hk : Kept S w w') (hr : ¬ S r) : MH w' r L := by
  have hlt := h.lt
  obtain ⟨es, clock, h1, h2⟩ := h
  exact ⟨es, clock, (hk.block r hlt hr).trans h1, h2⟩
theorem MH.made (w : World) : MH (w.alloc (.map #[] 0)) w.heap.size [] := ⟨#[], 0, heap_alloc_new w _, rfl⟩
theorem kept_set (r : Nat) (o : Obj) : Kept (fun g => g = r) w { w with heap := w.heap.setIfInBounds r o } :=
  ⟨rfl, rfl, rfl, by simp, fun i hi hn => by simp [show ¬ r = i from fun e => hn e.symm]⟩
theorem run_key (w : World) (b : Bool) (k : Int) (hk : P.underlying kt = some (.int .i64)) : (Instr.checkKey b 10000 kt (.int .i64 k)).run P w = .ok () w := by
  unfold Instr.checkKey
  simp [underlying, hk, go_sem]
theorem run_find_some (hk : P.underlying kt = some (.int .i64)) {es : Array MapEntry} {k : Int} {v : Value} (he : es.toList.map (fun e => (e.key, e.val)) = L.map (fun x => (Value.int .i64 x.1, x.2))) (hf : find k L = some v) (w : World) :
    ∃ j, (Instr.findKey kt (.int .i64 k) es.toList).run P w = .ok (some (j, v)) w ∧ j < es.size ∧ (es.toList.eraseIdx j).map (fun e => (e.key, e.val)) = (erase k L).map (fun x => (Value.int .i64 x.1, x.2)) := by
  obtain ⟨j, h1, h2, h3⟩ := findNow_some (i := 0) he hf
  refine ⟨j, ?_, by simpa using h2, h3⟩
  rw [Nat.zero_add] at h1
  unfold Instr.findKey
  simp [underlying, hk, h1, go_sem]
theorem run_find_none (hk : P.underlying kt = some (.int .i64)) {es : Array MapEntry} {k : Int} (he : es.toList.map (fun e => (e.key, e.val)) = L.map (fun x => (Value.int .i64 x.1, x.2))) (hf : find k L = none) (w : World) :
    (Instr.findKey kt (.int .i64 k) es.toList).run P w = .ok none w := by
  have h1 := findNow_none (i := 0) he hf
  unfold Instr.findKey
  simp [underlying, hk, h1, go_sem]
/-- A look-up that finds. -/
theorem MH.run_some (h : MH w r L) (ht : P.underlying t = some (.map kt et)) (hk : P.underlying kt = some (.int .i64)) {k : Int} {v : Value} (hf : find k L = some v) :
    (Instr.lookup t (.map (some r)) (.int .i64 k) true).run P w = .ok (.tuple #[v, .bool true]) w := by
  obtain ⟨es, clock, h1, h2⟩ := h
  obtain ⟨j, h3, _⟩ := run_find_some (P := P) hk h2 hf w
  unfold Instr.lookup
  simp [run_underlying ht, MapKept.run_getObj_map h1, run_key (P := P) w _ k hk, h3, Result.andThen]
/-- A look-up that does not. -/
theorem MH.run_none (h : MH w r L) (ht : P.underlying t = some (.map kt et)) (hk : P.underlying kt = some (.int .i64)) {k : Int} {z : Value} (hz : (zeroValue et).run P w = .ok z w) (hf : find k L = none) :
    (Instr.lookup t (.map (some r)) (.int .i64 k) true).run P w = .ok (.tuple #[z, .bool false]) w := by
  obtain ⟨es, clock, h1, h2⟩ := h
  have h3 := run_find_none (P := P) hk h2 hf w
  unfold Instr.lookup
  simp [run_underlying ht, MapKept.run_getObj_map h1, run_key (P := P) w _ k hk, h3, hz, Result.andThen]
/-- How many there are. -/
theorem MH.run_len (h : MH w r L) (ht : P.underlying t = some (.map kt et)) (ty : TypeId) :
    (Builtin.len_ #[t] ty #[.map (some r)]).run P w = .ok (.int .i64 (L.length : Int)) w := by
  obtain ⟨es, clock, h1, h2⟩ := h
  have hs : es.size = L.length := by
    have := congrArg List.length h2
    simpa using this
  unfold Builtin.len_
  simp [run_underlying ht, MapKept.run_getObj_map h1, hs, Result.andThen, goInt]
/-- A store of a new key. -/
theorem MH.run_store (h : MH w r L) (ht : P.underlying t = some (.map kt et)) (hk : P.underlying kt = some (.int .i64)) {k : Int} (v : Value) (hf : find k L = none) :
    ∃ w', (Instr.mapUpdate t (.map (some r)) (.int .i64 k) v).run P w = .ok () w' ∧ MH w' r (L ++ [(k, v)]) ∧ Kept (fun g => g = r) w w' := by
  have hlt := h.lt
  obtain ⟨es, clock, h1, h2⟩ := h
  have h3 := run_find_none (P := P) hk h2 hf w
  refine ⟨_, by
    unfold Instr.mapUpdate
    simp [run_underlying ht, MapKept.run_getObj_map h1, run_key (P := P) w _ k hk, h3, MapKept.run_setObj_map _ h1, Result.andThen]
    rfl, ?_, ?_⟩
  · exact ⟨es.push ⟨.int .i64 k, v, clock⟩, clock + 1, by simp [hlt], by simp [h2]⟩
  · exact kept_set _ _
/-- A key that is there, forgotten. -/
theorem MH.run_delete (h : MH w r L) (ht : P.underlying t = some (.map kt et)) (hk : P.underlying kt = some (.int .i64)) {k : Int} {v : Value} (hf : find k L = some v) :
    ∃ w', (∀ ty, (Builtin.delete_ #[t, kt] ty #[.map (some r), .int .i64 k]).run P w = .ok (.tuple #[]) w') ∧ MH w' r (erase k L) ∧ Kept (fun g => g = r) w w' := by
  have hlt := h.lt
  obtain ⟨es, clock, h1, h2⟩ := h
  obtain ⟨j, h3, h4, h5⟩ := run_find_some (P := P) hk h2 hf w
  refine ⟨_, fun ty => by
    unfold Builtin.delete_
    simp [run_underlying ht, MapKept.run_getObj_map h1, run_key (P := P) w _ k hk, h3, MapKept.run_setObj_map _ h1, Result.andThen]
    rfl, ?_, ?_⟩
  · refine ⟨es.eraseIdxIfInBounds j, clock, by simp [hlt], ?_⟩
    have e : (es.eraseIdxIfInBounds j).toList = es.toList.eraseIdx j := by simp [Array.eraseIdxIfInBounds, h4]
    rw [e]
    exact h5
  · exact kept_set _ _
end
end Go.Proofs.Ytfemmbipglpalaa.Maps
