/- The document's extensions: the walk : what it tells; no condition but the ranges in each. -/
import Derived.Test.YtccljgohekmjkaaRtpRDec
namespace Go.Proofs.Ytccljgohekmjkaa.Rtp
open Go.RowKit Go.Proofs.Ytccljgohekmjkaa.Plain Go.Proofs.Ytccljgohekmjkaa.Heap Go.Proofs.Ytccljgohekmjkaa.Open Go.Proofs.Ytccljgohekmjkaa.Rows Go.Proofs.Ytccljgohekmjkaa.Bits Go.Proofs.Ytccljgohekmjkaa.Tail
abbrev gcs (m : Bool) (t q i s : Int) (lv xv : Value) (sz : Int) : Array Value := #[.bool m, .int .i64 t, .int .i64 q, .int .u32 i, .int .u32 s, lv, xv, .int .i64 sz]
abbrev zgs : Array Value := gcs false 0 0 0 0 (.slice none 0 0) (.slice none 0 0) 0
theorem got_size : (Try.prog.info? 39).map (·.size) = some 8 := by kernel_rfl
theorem cells8 {w : World} {b : Nat} {x0 x1 x2 x3 x4 x5 x6 x7 : Value} {t : TypeId} (h : w.heap[b]? = some (.cells #[x0, x1, x2, x3, x4, x5, x6, x7] t (0, 0))) :
    w.cell? ⟨b, 0, none⟩ = some x0 ∧ w.cell? ⟨b, 1, none⟩ = some x1 ∧ w.cell? ⟨b, 2, none⟩ = some x2 ∧ w.cell? ⟨b, 3, none⟩ = some x3 ∧ w.cell? ⟨b, 4, none⟩ = some x4 ∧ w.cell? ⟨b, 5, none⟩ = some x5 ∧ w.cell? ⟨b, 6, none⟩ = some x6 ∧ w.cell? ⟨b, 7, none⟩ = some x7 := by
  refine ⟨?_, ?_, ?_, ?_, ?_, ?_, ?_, ?_⟩ <;> simp [World.cell?, h]
theorem stored8 {w : World} {b : Nat} {x0 x1 x2 x3 x4 x5 x6 x7 u0 u1 u2 u3 u4 u5 u6 u7 : Value} {t : TypeId} (h : w.heap[b]? = some (.cells #[x0, x1, x2, x3, x4, x5, x6, x7] t (0, 0))) :
    ((((((((w.setCell ⟨b, 0, none⟩ u0).setCell ⟨b, 1, none⟩ u1).setCell ⟨b, 2, none⟩ u2).setCell ⟨b, 3, none⟩ u3).setCell ⟨b, 4, none⟩ u4).setCell ⟨b, 5, none⟩ u5).setCell ⟨b, 6, none⟩ u6).setCell ⟨b, 7, none⟩ u7).heap[b]? = some (.cells #[u0, u1, u2, u3, u4, u5, u6, u7] t (0, 0)) := by
  simp [World.setCell, Array.getElem?_modify, h]
theorem kept_store8 {S : Nat → Prop} {w w' : World} {b : Nat} (hk : Kept S w w') (hb : S b ∨ w.heap.size ≤ b) (u0 u1 u2 u3 u4 u5 u6 u7 : Value) :
    Kept S w ((((((((w'.setCell ⟨b, 0, none⟩ u0).setCell ⟨b, 1, none⟩ u1).setCell ⟨b, 2, none⟩ u2).setCell ⟨b, 3, none⟩ u3).setCell ⟨b, 4, none⟩ u4).setCell ⟨b, 5, none⟩ u5).setCell ⟨b, 6, none⟩ u6).setCell ⟨b, 7, none⟩ u7) :=
  (kept_store7 hk hb _ _ _ _ _ _ _).setCell (p := ⟨b, 7, none⟩) hb _
theorem ret_ext {R : Ending → World → Prop} {a : Act} {w : World} {b : Nat} {cs : Array Value} {u : Value} (h : w.heap[b]? = some (.cells cs 39 (0, 0))) (hs : cs.size = 8) (ha : a.tmps.getD 6 undef = .pointer (some ⟨b, 0, none⟩)) (hu : a.tmps.getD 7 undef = u) (hd : a.defers = []) (hR : R (.returned (.tuple #[.agg cs, u])) w) :
    bodyPost Try.prog Try.f35 R .ret a w :=
  ret_cell_tmp (P := Try.prog) rfl ha h Try.underlying39 rfl (by rw [hs]; exact got_size) hd (by rw [hu]; exact hR)
/-- What the extensions come to. -/
def RExtPost (s : ByteArray) (p : Nat) (m : Bool) (t q i ss : Int) (lv : Value) (w : World) (e : Ending) (w' : World) : Prop := match decE s p with
  | .error c => e = .returned (.tuple #[.agg zgs, .int .i64 c]) ∧ Below w.heap.size w w'
  | .ok x => ∃ B d, e = .returned (.tuple #[.agg (gcs m t q i ss lv (.slice B x.1.length d) (x.2 : Int)), .int .i64 0]) ∧ RW w' 2 (.slice B x.1.length d) x.1.length (flatX x.1) ∧ (∀ k, isAt (.slice B x.1.length d) k → w.heap.size ≤ k) ∧ Below w.heap.size w w'
theorem rext_err {s : ByteArray} {p : Nat} {m : Bool} {t q i ss : Int} {lv : Value} {w w' : World} {c : Int} (h : decE s p = .error c) (hk : Below w.heap.size w w') : RExtPost s p m t q i ss lv w (.returned (.tuple #[.agg zgs, .int .i64 c])) w' := by
  unfold RExtPost
  rw [h]
  exact ⟨rfl, hk⟩
end Go.Proofs.Ytccljgohekmjkaa.Rtp
