/- A reader that has what it is asked for; functions that tell a struct of three cells and a number; no condition but the ranges in each. -/
import Derived.Test.YtmedlplgeeeodaaBitsX
import Derived.Test.YtmedlplgeeeodaaBitsR2
import Derived.Laws.Rows
import Derived.Laws.ResultCell
namespace Go.Proofs.Ytmedlplgeeeodaa.Bits
open Go.RowKit Go.Proofs.Ytmedlplgeeeodaa.Plain Go.Proofs.Ytmedlplgeeeodaa.Heap Go.Proofs.Ytmedlplgeeeodaa.Open

theorem get_fit (n : Nat) (N : Int) (hN : N = (n : Int)) {s : ByteArray} {a p : Nat} {w : World} (hw : RR 77 w p s a false) (hn : n ≤ 32) (hn' : a + n ≤ 8 * s.size) (hs : s.size ≤ 1099511627776) :
    Calls Try.prog 31 #[.pointer (some ⟨p, 0, none⟩), .int .i64 N] w fun e w' => e = .returned (.int .u32 (val s a n)) ∧ RR 77 w' p s (a + n) false ∧ Kept (fun k => k = p) w w' := by
  subst hN
  exact get_yes s a p n w hw hn hn' hs
theorem rget_fit (n : Nat) (N : Int) (hN : N = (n : Int)) {s : ByteArray} {a p : Nat} {w : World} (hw : RR 79 w p s a false) (hn : n ≤ 32) (hn' : a + n ≤ 8 * s.size) (hs : s.size ≤ 1099511627776) :
    Calls Try.prog 37 #[.pointer (some ⟨p, 0, none⟩), .int .i64 N] w fun e w' => e = .returned (.int .u32 (val s a n)) ∧ RR 79 w' p s (a + n) false ∧ Kept (fun k => k = p) w w' := by
  subst hN
  have h := ref_get_any s a p false (n : Int) w hw hs (by omega)
  rw [gets_yes hn hn'] at h
  exact h
theorem left_fit {s : ByteArray} {a p : Nat} {w : World} (hw : RR 77 w p s a false) (ha : a ≤ 8 * s.size) (hs : s.size ≤ 1099511627776) :
    Calls Try.prog 35 #[.pointer (some ⟨p, 0, none⟩)] w fun e w' => e = .returned (.int .i64 (8 * (s.size : Int) - (a : Int))) ∧ RR 77 w' p s a false ∧ Kept (fun _ => False) w w' :=
  (left_any s a p false w hw hs ha).mono fun e w' ⟨h1, q, h2⟩ => ⟨h1, by rw [h2]; exact hw.kept ((Kept.refl (fun _ => False) w).drewN q) id, by rw [h2]; exact (Kept.refl _ w).drewN q⟩
theorem rleft_fit {s : ByteArray} {a p : Nat} {w : World} (hw : RR 79 w p s a false) (ha : a ≤ 8 * s.size) (hs : s.size ≤ 1099511627776) :
    Calls Try.prog 39 #[.pointer (some ⟨p, 0, none⟩)] w fun e w' => e = .returned (.int .i64 (8 * (s.size : Int) - (a : Int))) ∧ RR 79 w' p s a false ∧ Kept (fun _ => False) w w' :=
  (ref_left_any s a p false w hw hs ha).mono fun e w' ⟨h1, q, h2⟩ => ⟨h1, by rw [h2]; exact hw.kept ((Kept.refl (fun _ => False) w).drewN q) id, by rw [h2]; exact (Kept.refl _ w).drewN q⟩
/-- A struct that lies in memory, and a number: what the function tells. -/
theorem ret_cell_tmp {P : Program} {fn : Func} {p u : Tmp} {ty : TypeId} {R : Ending → World → Prop} {a : Act} {w : World} {g : Nat} {t : TypeId} {cs : Array Value} {fr : Nat × Nat} {d : TypeDesc} (h : fn.results = #[.cell p ty, .tmp u]) (hp : a.tmps.getD p undef = .pointer (some ⟨g, 0, none⟩)) (hg : w.heap[g]? = some (.cells cs t fr))
    (hu : P.underlying ty = some d) (hd : (match d with | .struct _ | .array _ _ => true | _ => false) = true) (hi : (P.info? ty).map (·.size) = some cs.size) (hdf : a.defers = []) (hR : R (.returned (.tuple #[.agg cs, a.tmps.getD u undef])) w) : bodyPost P fn R .ret a w := by
  refine bodyPost_ret ?_ hdf hR
  rw [results_cell_tmp h, hp]
  simp [asAddr, run_loadVar_row w g t ty cs fr d hg hu hd hi, Result.andThen]
theorem stored3 {w : World} {b : Nat} {x y z u1 u2 u3 : Value} {t : TypeId} (h : w.heap[b]? = some (.cells #[x, y, z] t (0, 0))) : (((w.setCell ⟨b, 0, none⟩ u1).setCell ⟨b, 1, none⟩ u2).setCell ⟨b, 2, none⟩ u3).heap[b]? = some (.cells #[u1, u2, u3] t (0, 0)) := by
  simp [World.setCell, Array.getElem?_modify, h]
theorem frozen_of {w : World} {b : Nat} {cs : Array Value} {t : TypeId} (h : w.heap[b]? = some (.cells cs t (0, 0))) (i : Nat) : w.frozen? ⟨b, i, none⟩ = false := by simp [World.frozen?, h]
end Go.Proofs.Ytmedlplgeeeodaa.Bits
