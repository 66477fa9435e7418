/- How data of an argument's type reads: whole numbers, bools, strings, pairs of fields, slices; whatever program; no condition but those in each. -/
import Derived.Test.YtmedlplgeeeodaaHeap
import Derived.OpenShut
import Derived.WideShapes
import Derived.ChangeSlices
import Derived.DataReads
import Derived.ChangeOld
namespace Go.Proofs.Ytmedlplgeeeodaa.Open
open Go.RowKit Go.Proofs.Ytmedlplgeeeodaa.Heap

def Rel (α : Type) : Type := World → List Value → α → Prop
def rInt (k : IntKind) : Rel Int := fun _ cs n => cs = [.int k n] ∧ (Lit.int k n).wf = true
def rBool : Rel Bool := fun _ cs b => cs = [.bool b]
def rStr : Rel ByteArray := fun _ cs s => cs = [.string s] ∧ s.size ≤ maxLen
def rTwo {α β : Type} (r : Rel α) (q : Rel β) : Rel (α × β) := fun w cs x => ∃ c d, cs = c ++ d ∧ r w c x.1 ∧ q w d x.2
/-- The elements of a slice: A its head, each of sz cells. -/
def Els {α : Type} (sz : Nat) (r : Rel α) (w : World) (A : Option Addr) (n : Nat) (xs : List α) : Prop :=
  xs.length = n ∧ n ≤ maxLen ∧ (0 < n → ∃ b off, A = some ⟨b, off, none⟩ ∧ (0 < sz → b < w.heap.size) ∧
    ∀ i x, xs[i]? = some x → ∃ c, c.length = sz ∧ (∀ j u, c[j]? = some u → w.cell? ⟨b, off + i * sz + j, none⟩ = some u) ∧ r w c x)
def rSl {α : Type} (sz : Nat) (r : Rel α) : Rel (List α) := fun w cs xs => ∃ A n c, cs = [.slice A n c] ∧ Els sz r w A n xs

/-- A type opens as r. -/
def Opens {α : Type} (P : Program) (t : TypeId) (r : Rel α) : Prop :=
  ∀ {H : Type} (enc : TypeId × Value → H) (w : World) (fuel : Nat) (cs : List Value) (x : DataW H × List MemPlace), DataW.trod enc P w 0 (fun _ => true) true fuel t cs = some x → ∃ a, r w cs a
section
variable {P : Program}
theorem opens_int {t : TypeId} {k : IntKind} (ht : P.underlying t = some (.int k)) : Opens P t (rInt k) := fun enc w fuel cs x h => by
  obtain ⟨n, h1, _, h2⟩ := DataW.trod_int ht h
  exact ⟨n, h1, h2⟩
theorem opens_bool {t : TypeId} (ht : P.underlying t = some .bool) : Opens P t rBool := fun enc w fuel cs x h => by
  obtain ⟨b, h1, _⟩ := DataW.trod_bool ht h
  exact ⟨b, h1⟩
theorem opens_str {t : TypeId} (ht : P.underlying t = some .string) : Opens P t rStr := fun enc w fuel cs x h => by
  obtain ⟨s, h1, _, h2⟩ := DataW.trod_string ht h
  exact ⟨s, h1, h2⟩
/-- Fields, from an offset on. -/
def OpensF {α : Type} (P : Program) (fs : List Field) (off tot : Nat) (r : Rel α) : Prop :=
  ∀ {H : Type} (enc : TypeId × Value → H) (w : World) (fuel : Nat) (cs : List Value) (xs : List (DataW H × List MemPlace)), cs.length = tot → xs.length = fs.length →
    (∀ (i : Nat) (f : Field), fs[i]? = some f → DataW.trod enc P w 0 (fun _ => true) true fuel f.type ((cs.drop f.offset).take (P.cellsOf f.type)) = xs[i]?) → ∃ a, r w (cs.drop off) a
theorem opensF_last {α : Type} {f : Field} {off tot : Nat} {r : Rel α} (ho : f.offset = off) (hc : off + P.cellsOf f.type = tot) (h : Opens P f.type r) : OpensF P [f] off tot r :=
  fun enc w fuel cs xs hl hx hf => by
    have h0 := hf 0 f rfl
    rw [List.getElem?_eq_getElem (by simp at hx; omega)] at h0
    obtain ⟨a, ha⟩ := h enc w fuel _ _ h0
    rw [ho, List.take_of_length_le (by rw [List.length_drop]; omega)] at ha
    exact ⟨a, ha⟩
theorem opensF_cons {α β : Type} {f : Field} {fs : List Field} {off nx tot : Nat} {r : Rel α} {q : Rel β} (ho : f.offset = off) (hn : off + P.cellsOf f.type = nx) (h : Opens P f.type r) (hs : OpensF P fs nx tot q) : OpensF P (f :: fs) off tot (rTwo r q) :=
  fun enc w fuel cs xs hl hx hf => by
    obtain ⟨x0, xs', rfl⟩ : ∃ y ys, xs = y :: ys := by
      cases xs with
      | nil => simp at hx
      | cons y ys => exact ⟨y, ys, rfl⟩
    have h0 := hf 0 f rfl
    simp only [List.getElem?_cons_zero] at h0
    obtain ⟨a, ha⟩ := h enc w fuel _ _ h0
    obtain ⟨b, hb⟩ := hs enc w fuel cs xs' hl (by simpa using hx) (fun i g hg => by have := hf (i + 1) g (by simpa using hg); simpa using this)
    refine ⟨(a, b), _, _, ?_, ha, hb⟩
    rw [ho, ← hn, ← List.drop_drop, List.take_append_drop]
theorem opens_struct {α : Type} {t : TypeId} {fs : Array Field} {r : Rel α} {tot : Nat} (ht : P.underlying t = some (.struct fs)) (hc : P.cellsOf t = tot) (h : OpensF P fs.toList 0 tot r) : Opens P t r := fun enc w fuel cs x hx => by
  obtain ⟨xs, n, _, _, h1, h2, h3⟩ := DataW.trod_struct ht hx
  obtain ⟨a, ha⟩ := h enc w n cs xs (h1.trans hc) (by simpa using h2) (fun i f hf => h3 i f (by simpa using hf))
  exact ⟨a, by simpa using ha⟩
theorem addr_add {a : Addr} {n : Nat} {w : World} {u : Value} (h : w.cell? (a.add n) = some u) : (a.add n) = ⟨a.block, a.off + n, none⟩ := by
  unfold Addr.add at h ⊢
  split
  · rename_i h0
    subst h0
    obtain ⟨b, o, s⟩ := a
    cases s with
    | none => rfl
    | some s => simp [World.cell?] at h; split at h <;> simp at h
  · rfl
theorem addr_parts (a : Addr) (n : Nat) : (a.add n).off = a.off + n ∧ (a.add n).block = a.block := by
  unfold Addr.add
  split
  · rename_i h; rw [h]; exact ⟨rfl, rfl⟩
  · exact ⟨rfl, rfl⟩
theorem opens_slice {α : Type} {t e : TypeId} {r : Rel α} {sz : Nat} (ht : P.underlying t = some (.slice e)) (hc : P.cellsOf e = sz) (hsz : 0 < sz) (h : Opens P e r) : Opens P t (rSl sz r) := fun enc w fuel cs x hx => by
  rcases DataW.trod_slice ht hx with ⟨h1, _⟩ | ⟨a, len, cap, elems, rest, n, _, h1, _, _, hl, hm, hlen, hel, hrest⟩
  · exact ⟨[], none, 0, 0, h1, rfl, by simp [maxLen], fun h0 => absurd h0 (by omega)⟩
  · have each : ∀ i, i < len → ∃ c y, w.cells? 0 (a.add (i * sz)) sz = some c ∧ r w c y := by
      intro i hi
      have he := hel i hi
      rw [List.getElem?_eq_getElem (by omega), Option.bind_eq_some_iff, hc] at he
      obtain ⟨c, h2, h3⟩ := he
      obtain ⟨y, hy⟩ := h enc w n c _ h3
      exact ⟨c, y, h2, hy⟩
    have all : ∃ ys : List α, ys.length = len ∧ ∀ i y, ys[i]? = some y → ∃ c, w.cells? 0 (a.add (i * sz)) sz = some c ∧ r w c y := by
      clear hel hlen h1 hl hm hrest
      induction len with
      | zero => exact ⟨[], rfl, fun i y hy => by simp at hy⟩
      | succ m ih =>
        obtain ⟨ys, hys, hall⟩ := ih (fun i hi => each i (by omega))
        obtain ⟨c, y, h2, h3⟩ := each m (by omega)
        refine ⟨ys ++ [y], by simp [hys], fun i z hz => ?_⟩
        rcases Nat.lt_or_ge i ys.length with hi | hi
        · rw [List.getElem?_append_left hi] at hz
          exact hall i z hz
        · rw [List.getElem?_append_right hi] at hz
          have h0 : i - ys.length = 0 := by
            rcases Nat.eq_zero_or_pos (i - ys.length) with h | h
            · exact h
            · rw [List.getElem?_eq_none (by simp; omega)] at hz; cases hz
          rw [h0] at hz
          simp at hz
          subst hz
          have : i = m := by omega
          subst this
          exact ⟨c, h2, h3⟩
    obtain ⟨ys, hys, hall⟩ := all
    refine ⟨ys, some a, len, cap, h1, hys, Nat.le_trans hl hm, fun h0 => ?_⟩
    have hy0 : ∃ y, ys[0]? = some y := ⟨_, List.getElem?_eq_getElem (by omega)⟩
    obtain ⟨y0, hy0⟩ := hy0
    obtain ⟨c0, hc0, _⟩ := hall 0 y0 hy0
    obtain ⟨_, hlc, hcell⟩ := World.cells?_some hc0
    have h00 := hcell 0 (by omega)
    rw [List.getElem?_eq_getElem (by omega)] at h00
    simp only [Nat.zero_mul] at h00
    have ea : (a.add 0).add 0 = ⟨a.block, a.off, none⟩ := by
      have := addr_add h00
      simpa [Addr.add] using this
    have ea' : a = ⟨a.block, a.off, none⟩ := by simpa [Addr.add] using ea
    refine ⟨a.block, a.off, by rw [← ea'], fun _ => World.cells?_block (by rw [Nat.zero_mul, show a.add 0 = a by simp [Addr.add]] at hc0; exact hc0) (by omega), fun i y hy => ?_⟩
    obtain ⟨c, h2, h3⟩ := hall i y hy
    obtain ⟨_, hlc, hcell⟩ := World.cells?_some h2
    refine ⟨c, hlc, fun j u hj => ?_, h3⟩
    have hj' : j < sz := by
      rcases Nat.lt_or_ge j c.length with hh | hh
      · omega
      · rw [List.getElem?_eq_none hh] at hj; cases hj
    have h4 := hcell j hj'
    rw [hj] at h4
    have e4 := addr_add h4
    rw [e4] at h4
    have e5 := addr_parts a (i * sz)
    rw [e5.1, e5.2] at h4
    exact h4
end
theorem Els.ints {k : IntKind} {w : World} {A : Option Addr} {n : Nat} {xs : List Int} (h : Els 1 (rInt k) w A n xs) : RI w k A n xs ∧ ∀ j, j < n → (Lit.int k (xs.getD j 0)).wf = true := by
  obtain ⟨h1, h2, h3⟩ := h
  refine ⟨⟨h1, by simpa [maxLen] using h2, fun h0 => ?_⟩, fun j hj => ?_⟩
  · obtain ⟨b, off, e, hb, hc⟩ := h3 h0
    refine ⟨b, off, e, hb (by omega), fun j hj => ?_⟩
    obtain ⟨c, hl, hcell, rfl, _⟩ := hc j (xs.getD j 0) (by rw [List.getD_eq_getElem?_getD, List.getElem?_eq_getElem (by omega)]; rfl)
    have := hcell 0 _ rfl
    simpa using this
  · obtain ⟨b, off, e, hb, hc⟩ := h3 (by omega)
    obtain ⟨c, hl, hcell, _, hwf⟩ := hc j (xs.getD j 0) (by rw [List.getD_eq_getElem?_getD, List.getElem?_eq_getElem (by omega)]; rfl)
    exact hwf
/-- An array of n elements of sz cells each. -/
def rAr {α : Type} (n sz : Nat) (r : Rel α) : Rel (List α) := fun w cs xs => cs.length = n * sz ∧ xs.length = n ∧ ∀ i x, xs[i]? = some x → r w ((cs.drop (i * sz)).take sz) x
theorem opens_arr {α : Type} {P : Program} {t e : TypeId} {r : Rel α} {n sz : Nat} (ht : P.underlying t = some (.array n e)) (hc : P.cellsOf e = sz) (hn : P.cellsOf t = n * sz) (h : Opens P e r) : Opens P t (rAr n sz r) := fun enc w fuel cs x hx => by
  obtain ⟨xs, m, _, _, h1, h2, h3⟩ := DataW.trod_array ht hx
  have each : ∀ i, i < n → ∃ y, r w ((cs.drop (i * sz)).take sz) y := by
    intro i hi
    have he := h3 i hi
    rw [List.getElem?_eq_getElem (by omega), hc] at he
    exact h enc w m _ _ he
  have all : ∀ k, k ≤ n → ∃ ys : List α, ys.length = k ∧ ∀ i y, ys[i]? = some y → r w ((cs.drop (i * sz)).take sz) y := by
    intro k
    induction k with
    | zero => exact fun _ => ⟨[], rfl, fun i y hy => by simp at hy⟩
    | succ k ih =>
      intro hk
      obtain ⟨ys, hys, hall⟩ := ih (by omega)
      obtain ⟨y, hy⟩ := each k (by omega)
      refine ⟨ys ++ [y], by simp [hys], fun i z hz => ?_⟩
      rcases Nat.lt_or_ge i ys.length with hi | hi
      · rw [List.getElem?_append_left hi] at hz
        exact hall i z hz
      · rw [List.getElem?_append_right hi] at hz
        have h0 : i - ys.length = 0 := by
          rcases Nat.eq_zero_or_pos (i - ys.length) with h | h
          · exact h
          · rw [List.getElem?_eq_none (by simp; omega)] at hz; cases hz
        rw [h0] at hz
        simp at hz
        subst hz
        have : i = k := by omega
        subst this
        exact hy
  obtain ⟨ys, hys, hall⟩ := all n (Nat.le_refl _)
  exact ⟨ys, h1.trans hn, hys, hall⟩
theorem okWide_array {P : Program} {w : World} {r : Reach} {base : Nat} {t e : TypeId} {n : Nat} {v : Value} (ht : P.underlying t = some (.array n e)) (h : Value.okWide P w r base t v) : ∃ cs, v = .agg cs ∧ cs.size = P.cellsOf t := by
  simp only [Value.okWide, ht] at h
  obtain ⟨cs, h1, h2, _⟩ := h
  exact ⟨cs, h1, h2⟩
end Go.Proofs.Ytmedlplgeeeodaa.Open
