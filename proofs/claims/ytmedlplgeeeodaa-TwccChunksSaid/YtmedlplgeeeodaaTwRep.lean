/- Reports as they lie in memory, and what they are; no condition but the ranges in each. -/
import Derived.Test.YtmedlplgeeeodaaBitsX
import Derived.Test.YtmedlplgeeeodaaOpen2
import Derived.Test.YtmedlplgeeeodaaBitsZ
import Derived.Test.YtmedlplgeeeodaaPaceRow2
import Derived.Deep.DeepCutAuto
import Derived.Deep.CutBlock
import Derived.Deep.RegionHeld3
import Derived.Deep.QuietTactic
import Derived.StillTailTactics
import Derived.Laws.Rows
namespace Go.Proofs.Ytmedlplgeeeodaa.Tw
open Go.RowKit Go.Proofs.Ytmedlplgeeeodaa.Plain Go.Proofs.Ytmedlplgeeeodaa.Heap Go.Proofs.Ytmedlplgeeeodaa.Open Go.Proofs.Ytmedlplgeeeodaa.Rows Go.Proofs.Ytmedlplgeeeodaa.Bits

/-- A report: sender, media, first, base, count, statuses, deltas. -/
abbrev Tw : Type := Int × Int × Int × Int × Int × List Int × List Int
def Tw.sn (h : Tw) : Int := h.1
def Tw.md (h : Tw) : Int := h.2.1
def Tw.fi (h : Tw) : Int := h.2.2.1
def Tw.ba (h : Tw) : Int := h.2.2.2.1
def Tw.ct (h : Tw) : Int := h.2.2.2.2.1
def Tw.st (h : Tw) : List Int := h.2.2.2.2.2.1
def Tw.ds (h : Tw) : List Int := h.2.2.2.2.2.2
/-- Numbers in their kinds. -/
def i64s (l : List Int) : Prop := ∀ x ∈ l, -9223372036854775808 ≤ x ∧ x ≤ 9223372036854775807
structure okT (h : Tw) : Prop where
  n0 : 0 ≤ h.sn
  n1 : h.sn < 4294967296
  m0 : 0 ≤ h.md
  m1 : h.md < 4294967296
  f0 : -9223372036854775808 ≤ h.fi
  f1 : h.fi ≤ 9223372036854775807
  b0 : -9223372036854775808 ≤ h.ba
  b1 : h.ba ≤ 9223372036854775807
  c0 : -9223372036854775808 ≤ h.ct
  c1 : h.ct ≤ 9223372036854775807
  st : i64s h.st
  ds : i64s h.ds
abbrev tcs (h : Tw) (A : Option Addr) (c : Nat) (B : Option Addr) (d : Nat) : Array Value := #[.int .u32 h.sn, .int .u32 h.md, .int .i64 h.fi, .int .i64 h.ba, .int .i64 h.ct, .slice A h.st.length c, .slice B h.ds.length d]
/-- A report's cells. -/
def TR (w : World) (v : Value) (h : Tw) : Prop := ∃ A c B d, v = .agg #[.int .u32 h.sn, .int .u32 h.md, .int .i64 h.fi, .int .i64 h.ba, .int .i64 h.ct, .slice A h.st.length c, .slice B h.ds.length d] ∧
  Rd w 1 A h.st.length (nums .i64 h.st) ∧ Rd w 1 B h.ds.length (nums .i64 h.ds)
theorem TR.below {w w' : World} {v : Value} {h : Tw} (k : TR w v h) (hb : Below w.heap.size w w') : TR w' v h := by
  obtain ⟨A, c, B, d, e, h1, h2⟩ := k
  exact ⟨A, c, B, d, e, h1.below hb, h2.below hb⟩
/-- .. with room for the statuses. -/
def TC (w : World) (v : Value) (h : Tw) : Prop := ∃ A c B d, v = .agg #[.int .u32 h.sn, .int .u32 h.md, .int .i64 h.fi, .int .i64 h.ba, .int .i64 h.ct, .slice A h.st.length c, .slice B h.ds.length d] ∧
  Rd w 1 A h.st.length (nums .i64 h.st) ∧ Rd w 1 B h.ds.length (nums .i64 h.ds) ∧ h.st.length ≤ c
theorem TC.tr {w : World} {v : Value} {h : Tw} (k : TC w v h) : TR w v h := by
  obtain ⟨A, c, B, d, e, h1, h2, _⟩ := k
  exact ⟨A, c, B, d, e, h1, h2⟩
theorem TC.below {w w' : World} {v : Value} {h : Tw} (k : TC w v h) (hb : Below w.heap.size w w') : TC w' v h := by
  obtain ⟨A, c, B, d, e, h1, h2, h3⟩ := k
  exact ⟨A, c, B, d, e, h1.below hb, h2.below hb, h3⟩
theorem RW.cap {w : World} {sz n c : Nat} {A : Option Addr} {xs : List Value} (h : RW w sz (.slice A n c) n xs) : n ≤ c := by
  rcases h.2 with ⟨e, h0⟩ | ⟨g, off, cap, e, _, h2, _⟩
  · omega
  · injection e with e1 e2 e3
    omega
/-- A number, where it lies. -/
theorem int_at {w : World} {A : Option Addr} {n : Nat} {l : List Int} (h : Rd w 1 A n (nums .i64 l)) {k : Nat} (hk : k < n) :
    ∃ g off x, A = some ⟨g, off, none⟩ ∧ g < w.heap.size ∧ l[k]? = some x ∧ x ∈ l ∧ w.cell? ⟨g, off + k, none⟩ = some (.int .i64 x) := by
  obtain ⟨g, off, e, hg, hc⟩ := h.2 (by omega)
  have hl : l.length = n := by have := h.1; simpa [nums] using this
  obtain ⟨x, hx⟩ : ∃ x, l[k]? = some x := ⟨_, List.getElem?_eq_getElem (by omega)⟩
  exact ⟨g, off, x, e, hg, hx, List.mem_of_getElem? hx, hc k _ (by simp [nums, hx])⟩
/-- What a law's argument reads as. -/
def rT : Rel Tw := rTwo (rInt .u32) (rTwo (rInt .u32) (rTwo (rInt .i64) (rTwo (rInt .i64) (rTwo (rInt .i64) (rTwo (rSlC 1 (rInt .i64)) (rSlC 1 (rInt .i64)))))))
theorem wf_u32 {n : Int} (h : (Lit.int .u32 n).wf = true) : 0 ≤ n ∧ n < 4294967296 := by
  have := (by simpa [Lit.wf, IntKind.min, IntKind.max, IntKind.signed, IntKind.bits] using h : 0 ≤ n ∧ n ≤ 4294967295)
  omega
theorem els_int {w : World} {A : Option Addr} {n : Nat} {l : List Int} (h : Els 1 (rInt .i64) w A n l) : Rd w 1 A n (nums .i64 l) ∧ i64s l := by
  obtain ⟨h1, h2⟩ := h.ints
  refine ⟨h1.rd, fun x hx => ?_⟩
  obtain ⟨i, hi⟩ := List.getElem?_of_mem hx
  have hil := (List.getElem?_eq_some_iff.1 hi).1
  have := h2 i (by rw [← h1.1]; exact hil)
  rw [List.getD_eq_getElem?_getD, hi] at this
  exact wf_i64 this
theorem arg_rep {w : World} {cs : Array Value} {h : Tw} (k : rT w cs.toList h) : TC w (.agg cs) h ∧ okT h := by
  obtain ⟨c0, d0, h0, ⟨h1, g1⟩, c2, d2, h2, ⟨h3, g3⟩, c4, d4, h5, ⟨h6, g6⟩, c7, d7, h8, ⟨h9, g9⟩, c10, d10, h11, ⟨h12, g12⟩, c13, d13, h14, ⟨A, n, c, h15, hnc, e1⟩, B, m, d, h16, _, e2⟩ := k
  subst h1 h2 h3 h5 h6 h8 h9 h11 h12 h14 h15 h16
  have hn : h.st.length = n := e1.1
  have hm : h.ds.length = m := e2.1
  subst hn hm
  have e : cs = #[.int .u32 h.sn, .int .u32 h.md, .int .i64 h.fi, .int .i64 h.ba, .int .i64 h.ct, .slice A h.st.length c, .slice B h.ds.length d] := by
    apply Array.ext'
    rw [h0]
    rfl
  rw [e]
  obtain ⟨f1, f2⟩ := els_int e1
  obtain ⟨f3, f4⟩ := els_int e2
  exact ⟨⟨A, c, B, d, rfl, f1, f3, hnc⟩, (wf_u32 g1).1, (wf_u32 g1).2, (wf_u32 g3).1, (wf_u32 g3).2, (wf_i64 g6).1, (wf_i64 g6).2, (wf_i64 g9).1, (wf_i64 g9).2, (wf_i64 g12).1, (wf_i64 g12).2, f2, f4⟩
/-- A report's box. -/
theorem cells7 {w : World} {b : Nat} {x0 x1 x2 x3 x4 x5 x6 : Value} {t : TypeId} (h : w.heap[b]? = some (.cells #[x0, x1, x2, x3, x4, x5, x6] t (0, 0))) :
    w.cell? ⟨b, 0, none⟩ = some x0 ∧ w.cell? ⟨b, 1, none⟩ = some x1 ∧ w.cell? ⟨b, 2, none⟩ = some x2 ∧ w.cell? ⟨b, 3, none⟩ = some x3 ∧ w.cell? ⟨b, 4, none⟩ = some x4 ∧ w.cell? ⟨b, 5, none⟩ = some x5 ∧ w.cell? ⟨b, 6, none⟩ = some x6 := by
  refine ⟨?_, ?_, ?_, ?_, ?_, ?_, ?_⟩ <;> simp [World.cell?, h]
theorem cells2 {w : World} {b : Nat} {x0 x1 : Value} {t : TypeId} (h : w.heap[b]? = some (.cells #[x0, x1] t (0, 0))) : w.cell? ⟨b, 0, none⟩ = some x0 ∧ w.cell? ⟨b, 1, none⟩ = some x1 := by
  refine ⟨?_, ?_⟩ <;> simp [World.cell?, h]
structure TX (w0 w : World) (b : Nat) (h : Tw) (A : Option Addr) (c : Nat) (B : Option Addr) (d : Nat) : Prop where
  r1 : Rd w 1 A h.st.length (nums .i64 h.st)
  r2 : Rd w 1 B h.ds.length (nums .i64 h.ds)
  c0 : w.cell? ⟨b, 0, none⟩ = some (.int .u32 h.sn)
  c1 : w.cell? ⟨b, 1, none⟩ = some (.int .u32 h.md)
  c2 : w.cell? ⟨b, 2, none⟩ = some (.int .i64 h.fi)
  c3 : w.cell? ⟨b, 3, none⟩ = some (.int .i64 h.ba)
  c4 : w.cell? ⟨b, 4, none⟩ = some (.int .i64 h.ct)
  c5 : w.cell? ⟨b, 5, none⟩ = some (.slice A h.st.length c)
  c6 : w.cell? ⟨b, 6, none⟩ = some (.slice B h.ds.length d)
  bw : Below w0.heap.size w0 w
section
variable {w0 w w' : World} {b : Nat} {h : Tw} {A B : Option Addr} {c d : Nat}
theorem TX.run (k : TX w0 w b h A c B d) (hb : Below w.heap.size w w') : TX w0 w' b h A c B d := by
  have hl := World.block_lt_of_cell? _ _ k.c0
  have f : ∀ i, w'.cell? ⟨b, i, none⟩ = w.cell? ⟨b, i, none⟩ := fun i => hb.cell (p := ⟨b, i, none⟩) hl
  exact ⟨k.r1.below hb, k.r2.below hb, (f 0).trans k.c0, (f 1).trans k.c1, (f 2).trans k.c2, (f 3).trans k.c3, (f 4).trans k.c4, (f 5).trans k.c5, (f 6).trans k.c6, below_then k.bw k.bw.size hb⟩
theorem TX.tr (k : TX w0 w b h A c B d) : TR w (.agg (tcs h A c B d)) h := ⟨A, c, B, d, rfl, k.r1, k.r2⟩
theorem TX.new (hb : Below w0.heap.size w0 w) (r1 : Rd w 1 A h.st.length (nums .i64 h.st)) (r2 : Rd w 1 B h.ds.length (nums .i64 h.ds)) (h' : w' = w.alloc (.cells (tcs h A c B d) 25)) : TX w0 w' w.heap.size h A c B d := by
  have hq := heap_alloc_new w (.cells (tcs h A c B d) 25)
  rw [← h'] at hq
  obtain ⟨z0, z1, z2, z3, z4, z5, z6⟩ := cells7 hq
  have hw : Below w.heap.size w w' := by rw [h']; exact (Below.refl _ w).alloc (Nat.le_refl _) _
  exact ⟨r1.below hw, r2.below hw, z0, z1, z2, z3, z4, z5, z6, below_then hb hb.size hw⟩
end
end Go.Proofs.Ytmedlplgeeeodaa.Tw
