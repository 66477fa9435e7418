/- Reports of the first kind as they lie in memory, and what they are; no condition but the ranges in each. -/
import Derived.Test.YtmkaflfhmpddbaaBitsLaw4
import Derived.Test.YtmkaflfhmpddbaaPaceRow2
import Derived.Deep.DeepCutAuto
import Derived.Deep.CutBlock
import Derived.Deep.RegionHeld3
import Derived.Deep.QuietTactic
import Derived.StillTailTactics
import Derived.Laws.Rows
namespace Go.Proofs.Ytmkaflfhmpddbaa.Ccfb
open Go.RowKit Go.Proofs.Ytmkaflfhmpddbaa.Plain Go.Proofs.Ytmkaflfhmpddbaa.Heap Go.Proofs.Ytmkaflfhmpddbaa.Open Go.Proofs.Ytmkaflfhmpddbaa.Rows Go.Proofs.Ytmkaflfhmpddbaa.Bits

/-- A metric: got, ecn, ago. A block: source, first, metrics. A report: sender, blocks, stamp. -/
abbrev M3 : Type := Bool × Int × Int
abbrev Bl : Type := Int × Int × List M3
abbrev Rep : Type := Int × List Bl × Int
def flatM (l : List M3) : List Value := l.flatMap fun x => [.bool x.1, .int .i64 x.2.1, .int .i64 x.2.2]
theorem flatM_append (l m : List M3) : flatM (l ++ m) = flatM l ++ flatM m := by simp [flatM]
theorem flatM_one (l : List M3) : ∀ u ∈ flatM l, u.oneCell' = true := by
  intro u hu
  simp only [flatM, List.mem_flatMap] at hu
  obtain ⟨x, _, hx⟩ := hu
  simp at hx
  rcases hx with rfl | rfl | rfl <;> rfl
theorem flatM_len (l : List M3) : (flatM l).length = l.length * 3 := by
  induction l with
  | nil => rfl
  | cons x l ih =>
    have e : flatM (x :: l) = [.bool x.1, .int .i64 x.2.1, .int .i64 x.2.2] ++ flatM l := rfl
    rw [e, List.length_append, ih, List.length_cons]
    simp
    omega
theorem flatM_at (l : List M3) (i : Nat) (x : M3) (h : l[i]? = some x) : (flatM l)[i * 3]? = some (.bool x.1) ∧ (flatM l)[i * 3 + 1]? = some (.int .i64 x.2.1) ∧ (flatM l)[i * 3 + 2]? = some (.int .i64 x.2.2) := by
  induction l generalizing i with
  | nil => simp at h
  | cons y l ih =>
    have e : flatM (y :: l) = .bool y.1 :: .int .i64 y.2.1 :: .int .i64 y.2.2 :: flatM l := rfl
    rw [e]
    cases i with
    | zero =>
      simp at h
      subst h
      exact ⟨rfl, rfl, rfl⟩
    | succ i =>
      simp at h
      have := ih i h
      rw [show (i + 1) * 3 = i * 3 + 1 + 1 + 1 by omega, show i * 3 + 1 + 1 + 1 + 1 = (i * 3 + 1) + 1 + 1 + 1 by omega, show i * 3 + 1 + 1 + 1 + 2 = (i * 3 + 2) + 1 + 1 + 1 by omega]
      simp only [List.getElem?_cons_succ]
      exact this
/-- Numbers in their kinds. -/
structure okM (m : M3) : Prop where
  e0 : -9223372036854775808 ≤ m.2.1
  e1 : m.2.1 ≤ 9223372036854775807
  a0 : -9223372036854775808 ≤ m.2.2
  a1 : m.2.2 ≤ 9223372036854775807
structure okB (b : Bl) : Prop where
  s0 : 0 ≤ b.1
  s1 : b.1 < 4294967296
  f0 : -9223372036854775808 ≤ b.2.1
  f1 : b.2.1 ≤ 9223372036854775807
  ms : ∀ m ∈ b.2.2, okM m
structure okC (r : Rep) : Prop where
  s0 : 0 ≤ r.1
  s1 : r.1 < 4294967296
  t0 : 0 ≤ r.2.2
  t1 : r.2.2 < 4294967296
  bs : ∀ b ∈ r.2.1, okB b
/-- A block at a place. -/
structure BlkAt (w : World) (g o : Nat) (x : Bl) : Prop where
  c0 : w.cell? ⟨g, o, none⟩ = some (.int .u32 x.1)
  c1 : w.cell? ⟨g, o + 1, none⟩ = some (.int .i64 x.2.1)
  c2 : ∃ A c, w.cell? ⟨g, o + 2, none⟩ = some (.slice A x.2.2.length c) ∧ Rd w 3 A x.2.2.length (flatM x.2.2)
def Blks (w : World) (A : Option Addr) (n : Nat) (bs : List Bl) : Prop :=
  bs.length = n ∧ (0 < n → ∃ g off, A = some ⟨g, off, none⟩ ∧ g < w.heap.size ∧ ∀ i x, bs[i]? = some x → BlkAt w g (off + i * 3) x)
theorem BlkAt.below {w w' : World} {g o : Nat} {x : Bl} (h : BlkAt w g o x) (hb : Below w.heap.size w w') : BlkAt w' g o x := by
  obtain ⟨c0, c1, A, c, c2, hr⟩ := h
  have hg := World.block_lt_of_cell? w ⟨g, o, none⟩ c0
  exact ⟨(hb.cell (p := ⟨g, o, none⟩) hg).trans c0, (hb.cell (p := ⟨g, o + 1, none⟩) hg).trans c1, A, c, (hb.cell (p := ⟨g, o + 2, none⟩) hg).trans c2, hr.below hb⟩
theorem Blks.below {w w' : World} {A : Option Addr} {n : Nat} {bs : List Bl} (h : Blks w A n bs) (hb : Below w.heap.size w w') : Blks w' A n bs :=
  ⟨h.1, fun hn => by
    obtain ⟨g, off, e, hg, hc⟩ := h.2 hn
    exact ⟨g, off, e, Nat.lt_of_lt_of_le hg hb.size, fun i x hx => (hc i x hx).below hb⟩⟩
theorem Blks.nil (w : World) : Blks w none 0 [] := ⟨rfl, fun h => absurd h (Nat.lt_irrefl _)⟩
/-- A block, where it lies. -/
theorem Blks.at {w : World} {A : Option Addr} {n : Nat} {bs : List Bl} (h : Blks w A n bs) {i : Nat} (hi : i < n) :
    ∃ g off x, A = some ⟨g, off, none⟩ ∧ g < w.heap.size ∧ bs[i]? = some x ∧ x ∈ bs ∧ w.cell? ⟨g, off + i * 3, none⟩ = some (.int .u32 x.1) ∧ w.cell? ⟨g, off + i * 3 + 1, none⟩ = some (.int .i64 x.2.1) ∧
      ∃ MA mc, w.cell? ⟨g, off + i * 3 + 2, none⟩ = some (.slice MA x.2.2.length mc) ∧ Rd w 3 MA x.2.2.length (flatM x.2.2) := by
  obtain ⟨g, off, e, hg, hc⟩ := h.2 (by omega)
  obtain ⟨x, hx⟩ : ∃ x, bs[i]? = some x := ⟨_, List.getElem?_eq_getElem (by rw [h.1]; exact hi)⟩
  obtain ⟨c0, c1, MA, mc, c2, hr⟩ := hc i x hx
  exact ⟨g, off, x, e, hg, hx, List.mem_of_getElem? hx, c0, c1, MA, mc, c2, hr⟩
/-- A metric, where it lies. -/
theorem met_at {w : World} {A : Option Addr} {ms : List M3} (h : Rd w 3 A ms.length (flatM ms)) {k : Nat} (hk : k < ms.length) :
    ∃ g off m, A = some ⟨g, off, none⟩ ∧ g < w.heap.size ∧ ms[k]? = some m ∧ m ∈ ms ∧ w.cell? ⟨g, off + k * 3, none⟩ = some (.bool m.1) ∧ w.cell? ⟨g, off + k * 3 + 1, none⟩ = some (.int .i64 m.2.1) ∧ w.cell? ⟨g, off + k * 3 + 2, none⟩ = some (.int .i64 m.2.2) := by
  obtain ⟨g, off, e, hg, hc⟩ := h.2 (by omega)
  obtain ⟨m, hm⟩ : ∃ m, ms[k]? = some m := ⟨_, List.getElem?_eq_getElem hk⟩
  obtain ⟨f0, f1, f2⟩ := flatM_at ms k m hm
  exact ⟨g, off, m, e, hg, hm, List.mem_of_getElem? hm, hc _ _ f0, hc _ _ f1, hc _ _ f2⟩
/-- What a law's argument reads as. -/
def rM : Rel M3 := rTwo rBool (rTwo (rInt .i64) (rInt .i64))
def rB : Rel Bl := rTwo (rInt .u32) (rTwo (rInt .i64) (rSl 3 rM))
def rC : Rel Rep := rTwo (rInt .u32) (rTwo (rSl 3 rB) (rInt .u32))
theorem wf_u32 {n : Int} (h : (Lit.int .u32 n).wf = true) : 0 ≤ n ∧ n < 4294967296 := by
  have := (by simpa [Lit.wf, IntKind.min, IntKind.max, IntKind.signed, IntKind.bits] using h : 0 ≤ n ∧ n ≤ 4294967295)
  omega
theorem flatM_pos (l : List M3) (j : Nat) (u : Value) (h : (flatM l)[j]? = some u) : ∃ x, l[j / 3]? = some x ∧ [Value.bool x.1, .int .i64 x.2.1, .int .i64 x.2.2][j % 3]? = some u := by
  induction l generalizing j with
  | nil => simp [flatM] at h
  | cons y l ih =>
    have e : flatM (y :: l) = [.bool y.1, .int .i64 y.2.1, .int .i64 y.2.2] ++ flatM l := rfl
    rw [e] at h
    rcases Nat.lt_or_ge j 3 with hj | hj
    · rw [List.getElem?_append_left (by simpa using hj)] at h
      exact ⟨y, by rw [Nat.div_eq_of_lt hj]; rfl, by rw [Nat.mod_eq_of_lt hj]; exact h⟩
    · rw [List.getElem?_append_right (by simpa using hj)] at h
      obtain ⟨x, h1, h2⟩ := ih (j - 3) (by simpa using h)
      obtain ⟨i, rfl⟩ : ∃ i, j = i + 3 := ⟨j - 3, by omega⟩
      rw [Nat.add_sub_cancel] at h1 h2
      exact ⟨x, by rw [Nat.add_div_right _ (by omega)]; simpa using h1, by rw [Nat.add_mod_right]; exact h2⟩
theorem els_met {w : World} {A : Option Addr} {n : Nat} {ms : List M3} (h : Els 3 rM w A n ms) : Rd w 3 A n (flatM ms) ∧ ∀ m ∈ ms, okM m := by
  obtain ⟨hl, hn, hc⟩ := h
  refine ⟨⟨by rw [flatM_len, hl], fun h0 => ?_⟩, fun m hm => ?_⟩
  · obtain ⟨b, off, e, hb, hc⟩ := hc h0
    refine ⟨b, off, e, hb (by omega), fun j u hj => ?_⟩
    obtain ⟨x, h1, h2⟩ := flatM_pos ms j u hj
    obtain ⟨c, _, hc2, c1, d1, rfl, h3, c2, d2, h4, ⟨h5, _⟩, h6, _⟩ := hc (j / 3) x h1
    obtain rfl : c1 = _ := h3
    subst h4 h5 h6
    have := hc2 (j % 3) u h2
    rwa [show off + j / 3 * 3 + j % 3 = off + j by omega] at this
  · obtain ⟨i, hi⟩ := List.getElem?_of_mem hm
    have hil := (List.getElem?_eq_some_iff.1 hi).1
    obtain ⟨b, off, e, hb, hc⟩ := hc (by omega)
    obtain ⟨c, _, _, c1, d1, _, _, c2, d2, _, ⟨_, h5⟩, _, h6⟩ := hc i m hi
    exact ⟨(wf_i64 h5).1, (wf_i64 h5).2, (wf_i64 h6).1, (wf_i64 h6).2⟩
theorem els_blk {w : World} {A : Option Addr} {n : Nat} {bs : List Bl} (h : Els 3 rB w A n bs) : Blks w A n bs ∧ ∀ b ∈ bs, okB b := by
  obtain ⟨hl, hn, hc⟩ := h
  refine ⟨⟨hl, fun h0 => ?_⟩, fun x hm => ?_⟩
  · obtain ⟨b, off, e, hb, hc⟩ := hc h0
    refine ⟨b, off, e, hb (by omega), fun i x hx => ?_⟩
    obtain ⟨c, _, hc2, c1, d1, rfl, ⟨h3, _⟩, c2, d2, h4, ⟨h5, _⟩, MA, m, mc, h6, hels⟩ := hc i x hx
    subst h3 h4 h5 h6
    have hm := hels.1
    subst hm
    exact ⟨hc2 0 _ rfl, hc2 1 _ rfl, MA, mc, hc2 2 _ rfl, (els_met hels).1⟩
  · obtain ⟨i, hi⟩ := List.getElem?_of_mem hm
    have hil := (List.getElem?_eq_some_iff.1 hi).1
    obtain ⟨b, off, e, hb, hc⟩ := hc (by omega)
    obtain ⟨c, _, hc2, c1, d1, _, ⟨_, h3⟩, c2, d2, _, ⟨_, h5⟩, MA, m, mc, _, hels⟩ := hc i x hi
    exact ⟨(wf_u32 h3).1, (wf_u32 h3).2, (wf_i64 h5).1, (wf_i64 h5).2, (els_met hels).2⟩
/-- A report's cells. -/
def CR (w : World) (v : Value) (r : Rep) : Prop := ∃ A c, v = .agg #[.int .u32 r.1, .slice A r.2.1.length c, .int .u32 r.2.2] ∧ Blks w A r.2.1.length r.2.1
theorem CR.below {w w' : World} {v : Value} {r : Rep} (h : CR w v r) (hb : Below w.heap.size w w') : CR w' v r := by
  obtain ⟨A, c, e, hbl⟩ := h
  exact ⟨A, c, e, hbl.below hb⟩
theorem arg_rep {w : World} {cs : Array Value} {r : Rep} (h : rC w cs.toList r) : CR w (.agg cs) r ∧ okC r := by
  obtain ⟨c1, d1, h0, ⟨h1, g1⟩, c2, d2, h2, ⟨A, n, c, h3, hels⟩, h4, g4⟩ := h
  subst h1 h2 h3 h4
  have hn := hels.1
  subst hn
  have e : cs = #[.int .u32 r.1, .slice A r.2.1.length c, .int .u32 r.2.2] := by
    apply Array.ext'
    simpa using h0
  subst e
  obtain ⟨h1, h2⟩ := els_blk hels
  exact ⟨⟨A, c, rfl, h1⟩, (wf_u32 g1).1, (wf_u32 g1).2, (wf_u32 g4).1, (wf_u32 g4).2, h2⟩
/-- What may be. -/
def goodM (m : M3) : Bool := decide (0 ≤ m.2.1) && decide (m.2.1 ≤ 3) && decide (0 ≤ m.2.2) && decide (m.2.2 ≤ 8191) && (m.1 || (decide (m.2.1 = 0) && decide (m.2.2 = 0)))
def goodB (b : Bl) : Bool := decide (0 ≤ b.2.1) && decide (b.2.1 ≤ 65535) && decide (b.2.2.length ≤ 4096) && b.2.2.all goodM
def goodC (r : Rep) : Bool := decide (r.2.1.length ≤ 16) && r.2.1.all goodB
theorem goodM_yes {m : M3} (h : goodM m = true) : 0 ≤ m.2.1 ∧ m.2.1 ≤ 3 ∧ 0 ≤ m.2.2 ∧ m.2.2 ≤ 8191 ∧ (m.1 = true ∨ (m.1 = false ∧ m.2.1 = 0 ∧ m.2.2 = 0)) := by
  unfold goodM at h
  obtain ⟨g, e, a⟩ := m
  cases g <;> simp at h ⊢ <;> omega
theorem goodM_no {m : M3} (h : goodM m = false) : m.2.1 < 0 ∨ (¬ m.2.1 < 0 ∧ 3 < m.2.1) ∨ (¬ m.2.1 < 0 ∧ ¬ 3 < m.2.1 ∧ m.2.2 < 0) ∨ (¬ m.2.1 < 0 ∧ ¬ 3 < m.2.1 ∧ ¬ m.2.2 < 0 ∧ 8191 < m.2.2) ∨
    (¬ m.2.1 < 0 ∧ ¬ 3 < m.2.1 ∧ ¬ m.2.2 < 0 ∧ ¬ 8191 < m.2.2 ∧ m.1 = false ∧ (m.2.1 == 0) = false) ∨ (m.2.1 = 0 ∧ ¬ m.2.2 < 0 ∧ ¬ 8191 < m.2.2 ∧ m.1 = false ∧ (m.2.2 == 0) = false) := by
  unfold goodM at h
  obtain ⟨g, e, a⟩ := m
  cases g <;> simp at h ⊢ <;> omega
theorem all_take {α : Type} {p : α → Bool} {l : List α} {i : Nat} {x : α} (hx : l[i]? = some x) (h : (l.take i).all p = true) (hp : p x = true) : (l.take (i + 1)).all p = true := by
  obtain ⟨hi, rfl⟩ := List.getElem?_eq_some_iff.1 hx
  rw [List.take_succ_eq_append_getElem hi, List.all_append, h]
  simp [hp]
theorem all_no {α : Type} {p : α → Bool} {l : List α} {x : α} (hx : x ∈ l) (hp : p x = false) : l.all p = false := by
  cases h : l.all p with
  | false => rfl
  | true => rw [List.all_eq_true] at h; rw [h x hx] at hp; cases hp
end Go.Proofs.Ytmkaflfhmpddbaa.Ccfb
