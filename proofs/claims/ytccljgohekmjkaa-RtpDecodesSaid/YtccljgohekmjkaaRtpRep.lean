/- Headers as they lie in memory, and what they are; no condition but the ranges in each. -/
import Derived.Test.YtccljgohekmjkaaBitsX
import Derived.Test.YtccljgohekmjkaaBitsZ
import Derived.Test.YtccljgohekmjkaaPaceRow2
import Derived.Deep.DeepCutAuto
import Derived.Deep.CutBlock
import Derived.Deep.RegionHeld3
import Derived.Deep.QuietTactic
import Derived.StillTailTactics
import Derived.Laws.Rows
namespace Go.Proofs.Ytccljgohekmjkaa.Rtp
open Go.RowKit Go.Proofs.Ytccljgohekmjkaa.Plain Go.Proofs.Ytccljgohekmjkaa.Heap Go.Proofs.Ytccljgohekmjkaa.Open Go.Proofs.Ytccljgohekmjkaa.Rows Go.Proofs.Ytccljgohekmjkaa.Bits

/-- An extension: its number and its bytes. A header: marker, type, number, time, source, sources, extensions. -/
abbrev X2 : Type := Int × ByteArray
abbrev Hd : Type := Bool × Int × Int × Int × Int × List Int × List X2
def Hd.m (h : Hd) : Bool := h.1
def Hd.ty (h : Hd) : Int := h.2.1
def Hd.sq (h : Hd) : Int := h.2.2.1
def Hd.tm (h : Hd) : Int := h.2.2.2.1
def Hd.ss (h : Hd) : Int := h.2.2.2.2.1
def Hd.src (h : Hd) : List Int := h.2.2.2.2.2.1
def Hd.xs (h : Hd) : List X2 := h.2.2.2.2.2.2
def flatX (l : List X2) : List Value := l.flatMap fun x => [.int .i64 x.1, .string x.2]
theorem flatX_append (l m : List X2) : flatX (l ++ m) = flatX l ++ flatX m := by simp [flatX]
theorem flatX_one (l : List X2) : ∀ u ∈ flatX l, u.oneCell' = true := by
  intro u hu
  simp only [flatX, List.mem_flatMap] at hu
  obtain ⟨x, _, hx⟩ := hu
  simp at hx
  rcases hx with rfl | rfl <;> rfl
theorem flatX_len (l : List X2) : (flatX l).length = l.length * 2 := by
  induction l with
  | nil => rfl
  | cons x l ih =>
    have e : flatX (x :: l) = [.int .i64 x.1, .string x.2] ++ flatX l := rfl
    rw [e, List.length_append, ih, List.length_cons]
    simp
    omega
theorem flatX_at (l : List X2) (i : Nat) (x : X2) (h : l[i]? = some x) : (flatX l)[i * 2]? = some (.int .i64 x.1) ∧ (flatX l)[i * 2 + 1]? = some (.string x.2) := by
  induction l generalizing i with
  | nil => simp at h
  | cons y l ih =>
    have e : flatX (y :: l) = .int .i64 y.1 :: .string y.2 :: flatX l := rfl
    rw [e]
    cases i with
    | zero =>
      simp at h
      subst h
      exact ⟨rfl, rfl⟩
    | succ i =>
      simp at h
      have := ih i h
      rw [show (i + 1) * 2 = i * 2 + 1 + 1 by omega, show i * 2 + 1 + 1 + 1 = (i * 2 + 1) + 1 + 1 by omega]
      simp only [List.getElem?_cons_succ]
      exact this
theorem flatX_pos (l : List X2) (j : Nat) (u : Value) (h : (flatX l)[j]? = some u) : ∃ x, l[j / 2]? = some x ∧ [Value.int .i64 x.1, .string x.2][j % 2]? = some u := by
  induction l generalizing j with
  | nil => simp [flatX] at h
  | cons y l ih =>
    have e : flatX (y :: l) = [.int .i64 y.1, .string y.2] ++ flatX l := rfl
    rw [e] at h
    rcases Nat.lt_or_ge j 2 with hj | hj
    · rw [List.getElem?_append_left (by simpa using hj)] at h
      exact ⟨y, by rw [Nat.div_eq_of_lt hj]; rfl, by rw [Nat.mod_eq_of_lt hj]; exact h⟩
    · rw [List.getElem?_append_right (by simpa using hj)] at h
      obtain ⟨x, h1, h2⟩ := ih (j - 2) (by simpa using h)
      obtain ⟨i, rfl⟩ : ∃ i, j = i + 2 := ⟨j - 2, by omega⟩
      rw [Nat.add_sub_cancel] at h1 h2
      exact ⟨x, by rw [Nat.add_div_right _ (by omega)]; simpa using h1, by rw [Nat.add_mod_right]; exact h2⟩
/-- Numbers in their kinds. -/
structure okX (x : X2) : Prop where
  i0 : -9223372036854775808 ≤ x.1
  i1 : x.1 ≤ 9223372036854775807
  dl : x.2.size ≤ maxLen
structure okH (h : Hd) : Prop where
  y0 : -9223372036854775808 ≤ h.ty
  y1 : h.ty ≤ 9223372036854775807
  q0 : -9223372036854775808 ≤ h.sq
  q1 : h.sq ≤ 9223372036854775807
  t0 : 0 ≤ h.tm
  t1 : h.tm < 4294967296
  s0 : 0 ≤ h.ss
  s1 : h.ss < 4294967296
  src : ∀ x ∈ h.src, 0 ≤ x ∧ x < 4294967296
  xs : ∀ x ∈ h.xs, okX x
/-- A header's cells. -/
def HR (w : World) (v : Value) (h : Hd) : Prop := ∃ A c B d, v = .agg #[.bool h.m, .int .i64 h.ty, .int .i64 h.sq, .int .u32 h.tm, .int .u32 h.ss, .slice A h.src.length c, .slice B h.xs.length d] ∧
  Rd w 1 A h.src.length (nums .u32 h.src) ∧ Rd w 2 B h.xs.length (flatX h.xs)
theorem HR.below {w w' : World} {v : Value} {h : Hd} (k : HR w v h) (hb : Below w.heap.size w w') : HR w' v h := by
  obtain ⟨A, c, B, d, e, h1, h2⟩ := k
  exact ⟨A, c, B, d, e, h1.below hb, h2.below hb⟩
/-- A source, an extension, where it lies. -/
theorem src_at {w : World} {A : Option Addr} {n : Nat} {l : List Int} (h : Rd w 1 A n (nums .u32 l)) {k : Nat} (hk : k < n) :
    ∃ g off x, A = some ⟨g, off, none⟩ ∧ g < w.heap.size ∧ l[k]? = some x ∧ x ∈ l ∧ w.cell? ⟨g, off + k, none⟩ = some (.int .u32 x) := by
  obtain ⟨g, off, e, hg, hc⟩ := h.2 (by omega)
  have hl : l.length = n := by have := h.1; simpa [nums] using this
  obtain ⟨x, hx⟩ : ∃ x, l[k]? = some x := ⟨_, List.getElem?_eq_getElem (by omega)⟩
  exact ⟨g, off, x, e, hg, hx, List.mem_of_getElem? hx, hc k _ (by simp [nums, hx])⟩
theorem ext_at {w : World} {A : Option Addr} {n : Nat} {l : List X2} (h : Rd w 2 A n (flatX l)) {k : Nat} (hk : k < n) :
    ∃ g off x, A = some ⟨g, off, none⟩ ∧ g < w.heap.size ∧ l[k]? = some x ∧ x ∈ l ∧ w.cell? ⟨g, off + k * 2, none⟩ = some (.int .i64 x.1) ∧ w.cell? ⟨g, off + k * 2 + 1, none⟩ = some (.string x.2) := by
  obtain ⟨g, off, e, hg, hc⟩ := h.2 (by omega)
  have hl : l.length = n := by have := h.1; rw [flatX_len] at this; omega
  obtain ⟨x, hx⟩ : ∃ x, l[k]? = some x := ⟨_, List.getElem?_eq_getElem (by omega)⟩
  obtain ⟨f0, f1⟩ := flatX_at l k x hx
  exact ⟨g, off, x, e, hg, hx, List.mem_of_getElem? hx, hc _ _ f0, hc _ _ f1⟩
/-- What a law's argument reads as. -/
def rX : Rel X2 := rTwo (rInt .i64) rStr
def rH : Rel Hd := rTwo rBool (rTwo (rInt .i64) (rTwo (rInt .i64) (rTwo (rInt .u32) (rTwo (rInt .u32) (rTwo (rSl 1 (rInt .u32)) (rSl 2 rX))))))
theorem wf_u32 {n : Int} (h : (Lit.int .u32 n).wf = true) : 0 ≤ n ∧ n < 4294967296 := by
  have := (by simpa [Lit.wf, IntKind.min, IntKind.max, IntKind.signed, IntKind.bits] using h : 0 ≤ n ∧ n ≤ 4294967295)
  omega
theorem els_src {w : World} {A : Option Addr} {n : Nat} {l : List Int} (h : Els 1 (rInt .u32) w A n l) : Rd w 1 A n (nums .u32 l) ∧ ∀ x ∈ l, 0 ≤ x ∧ x < 4294967296 := by
  obtain ⟨h1, h2⟩ := h.ints
  refine ⟨h1.rd, fun x hx => ?_⟩
  obtain ⟨i, hi⟩ := List.getElem?_of_mem hx
  have hil := (List.getElem?_eq_some_iff.1 hi).1
  have := h2 i (by rw [← h1.1]; exact hil)
  rw [List.getD_eq_getElem?_getD, hi] at this
  exact wf_u32 this
theorem els_ext {w : World} {A : Option Addr} {n : Nat} {l : List X2} (h : Els 2 rX w A n l) : Rd w 2 A n (flatX l) ∧ ∀ x ∈ l, okX x := by
  obtain ⟨hl, hn, hc⟩ := h
  refine ⟨⟨by rw [flatX_len, hl], fun h0 => ?_⟩, fun m hm => ?_⟩
  · obtain ⟨b, off, e, hb, hc⟩ := hc h0
    refine ⟨b, off, e, hb (by omega), fun j u hj => ?_⟩
    obtain ⟨x, h1, h2⟩ := flatX_pos l j u hj
    obtain ⟨c, _, hc2, c1, d1, rfl, ⟨h3, _⟩, h4, _⟩ := hc (j / 2) x h1
    subst h3 h4
    have := hc2 (j % 2) u h2
    rwa [show off + j / 2 * 2 + j % 2 = off + j by omega] at this
  · obtain ⟨i, hi⟩ := List.getElem?_of_mem hm
    have hil := (List.getElem?_eq_some_iff.1 hi).1
    obtain ⟨b, off, e, hb, hc⟩ := hc (by omega)
    obtain ⟨c, _, _, c1, d1, _, ⟨_, h3⟩, _, h4⟩ := hc i m hi
    exact ⟨(wf_i64 h3).1, (wf_i64 h3).2, h4⟩
theorem arg_rep {w : World} {cs : Array Value} {h : Hd} (k : rH w cs.toList h) : HR w (.agg cs) h ∧ okH h := by
  obtain ⟨c1, d1, h0, h1, c2, d2, h2, ⟨h3, g3⟩, c4, d4, h5, ⟨h6, g6⟩, c7, d7, h8, ⟨h9, g9⟩, c10, d10, h11, ⟨h12, g12⟩, c13, d13, h14, ⟨A, n, c, h15, e1⟩, B, m, d, h16, e2⟩ := k
  obtain rfl : c1 = _ := h1
  subst h2 h3 h5 h6 h8 h9 h11 h12 h14 h15 h16
  have hn : h.src.length = n := e1.1
  have hm : h.xs.length = m := e2.1
  subst hn hm
  have e : cs = #[.bool h.m, .int .i64 h.ty, .int .i64 h.sq, .int .u32 h.tm, .int .u32 h.ss, .slice A h.src.length c, .slice B h.xs.length d] := by
    apply Array.ext'
    rw [h0]
    rfl
  rw [e]
  obtain ⟨f1, f2⟩ := els_src e1
  obtain ⟨f3, f4⟩ := els_ext e2
  exact ⟨⟨A, c, B, d, rfl, f1, f3⟩, (wf_i64 g3).1, (wf_i64 g3).2, (wf_i64 g6).1, (wf_i64 g6).2, (wf_u32 g9).1, (wf_u32 g9).2, (wf_u32 g12).1, (wf_u32 g12).2, f2, f4⟩
/-- A header's box. -/
theorem cells7 {w : World} {b : Nat} {x0 x1 x2 x3 x4 x5 x6 : Value} {t : TypeId} (h : w.heap[b]? = some (.cells #[x0, x1, x2, x3, x4, x5, x6] t (0, 0))) :
    w.cell? ⟨b, 0, none⟩ = some x0 ∧ w.cell? ⟨b, 1, none⟩ = some x1 ∧ w.cell? ⟨b, 2, none⟩ = some x2 ∧ w.cell? ⟨b, 3, none⟩ = some x3 ∧ w.cell? ⟨b, 4, none⟩ = some x4 ∧ w.cell? ⟨b, 5, none⟩ = some x5 ∧ w.cell? ⟨b, 6, none⟩ = some x6 := by
  refine ⟨?_, ?_, ?_, ?_, ?_, ?_, ?_⟩ <;> simp [World.cell?, h]
theorem cells2 {w : World} {b : Nat} {x0 x1 : Value} {t : TypeId} (h : w.heap[b]? = some (.cells #[x0, x1] t (0, 0))) : w.cell? ⟨b, 0, none⟩ = some x0 ∧ w.cell? ⟨b, 1, none⟩ = some x1 := by
  refine ⟨?_, ?_⟩ <;> simp [World.cell?, h]
abbrev hcs (h : Hd) (A : Option Addr) (c : Nat) (B : Option Addr) (d : Nat) : Array Value := #[.bool h.m, .int .i64 h.ty, .int .i64 h.sq, .int .u32 h.tm, .int .u32 h.ss, .slice A h.src.length c, .slice B h.xs.length d]
structure HX (w0 w : World) (b : Nat) (h : Hd) (A : Option Addr) (c : Nat) (B : Option Addr) (d : Nat) : Prop where
  r1 : Rd w 1 A h.src.length (nums .u32 h.src)
  r2 : Rd w 2 B h.xs.length (flatX h.xs)
  c0 : w.cell? ⟨b, 0, none⟩ = some (.bool h.m)
  c1 : w.cell? ⟨b, 1, none⟩ = some (.int .i64 h.ty)
  c2 : w.cell? ⟨b, 2, none⟩ = some (.int .i64 h.sq)
  c3 : w.cell? ⟨b, 3, none⟩ = some (.int .u32 h.tm)
  c4 : w.cell? ⟨b, 4, none⟩ = some (.int .u32 h.ss)
  c5 : w.cell? ⟨b, 5, none⟩ = some (.slice A h.src.length c)
  c6 : w.cell? ⟨b, 6, none⟩ = some (.slice B h.xs.length d)
  bw : Below w0.heap.size w0 w
section
variable {w0 w w' : World} {b : Nat} {h : Hd} {A B : Option Addr} {c d : Nat}
theorem HX.run (k : HX w0 w b h A c B d) (hb : Below w.heap.size w w') : HX w0 w' b h A c B d := by
  have hl := World.block_lt_of_cell? _ _ k.c0
  have f : ∀ i, w'.cell? ⟨b, i, none⟩ = w.cell? ⟨b, i, none⟩ := fun i => hb.cell (p := ⟨b, i, none⟩) hl
  exact ⟨k.r1.below hb, k.r2.below hb, (f 0).trans k.c0, (f 1).trans k.c1, (f 2).trans k.c2, (f 3).trans k.c3, (f 4).trans k.c4, (f 5).trans k.c5, (f 6).trans k.c6, below_then k.bw k.bw.size hb⟩
theorem HX.hr (k : HX w0 w b h A c B d) : HR w (.agg (hcs h A c B d)) h := ⟨A, c, B, d, rfl, k.r1, k.r2⟩
theorem HX.new (hb : Below w0.heap.size w0 w) (r1 : Rd w 1 A h.src.length (nums .u32 h.src)) (r2 : Rd w 2 B h.xs.length (flatX h.xs)) (h' : w' = w.alloc (.cells (hcs h A c B d) 26)) : HX w0 w' w.heap.size h A c B d := by
  have hq := heap_alloc_new w (.cells (hcs h A c B d) 26)
  rw [← h'] at hq
  obtain ⟨z0, z1, z2, z3, z4, z5, z6⟩ := cells7 hq
  have hw : Below w.heap.size w w' := by rw [h']; exact (Below.refl _ w).alloc (Nat.le_refl _) _
  exact ⟨r1.below hw, r2.below hw, z0, z1, z2, z3, z4, z5, z6, below_then hb hb.size hw⟩
end
end Go.Proofs.Ytccljgohekmjkaa.Rtp
