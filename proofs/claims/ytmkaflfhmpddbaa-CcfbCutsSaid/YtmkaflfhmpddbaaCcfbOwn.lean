/- A list of blocks of the call's own that grows; no condition but the ranges in each. -/
import Derived.Test.YtmkaflfhmpddbaaCcfbEnc
namespace Go.Proofs.Ytmkaflfhmpddbaa.Ccfb
open Go.RowKit Go.Proofs.Ytmkaflfhmpddbaa.Plain Go.Proofs.Ytmkaflfhmpddbaa.Heap Go.Proofs.Ytmkaflfhmpddbaa.Open Go.Proofs.Ytmkaflfhmpddbaa.Rows Go.Proofs.Ytmkaflfhmpddbaa.Bits

def flatB (l : List (Bl × Value)) : List Value := l.flatMap fun x => [.int .u32 x.1.1, .int .i64 x.1.2.1, x.2]
theorem flatB_append (l m : List (Bl × Value)) : flatB (l ++ m) = flatB l ++ flatB m := by simp [flatB]
theorem flatB_at (l : List (Bl × Value)) (i : Nat) (x : Bl × Value) (h : l[i]? = some x) : (flatB l)[i * 3]? = some (.int .u32 x.1.1) ∧ (flatB l)[i * 3 + 1]? = some (.int .i64 x.1.2.1) ∧ (flatB l)[i * 3 + 2]? = some x.2 := by
  induction l generalizing i with
  | nil => simp at h
  | cons y l ih =>
    have e : flatB (y :: l) = .int .u32 y.1.1 :: .int .i64 y.1.2.1 :: y.2 :: flatB l := rfl
    rw [e]
    cases i with
    | zero =>
      simp at h
      subst h
      exact ⟨rfl, rfl, rfl⟩
    | succ i =>
      simp at h
      have := ih i h
      rw [show (i + 1) * 3 = i * 3 + 1 + 1 + 1 by omega, show i * 3 + 1 + 1 + 1 + 1 = (i * 3 + 1) + 1 + 1 + 1 by omega, show i * 3 + 1 + 1 + 1 + 2 = (i * 3 + 2) + 1 + 1 + 1 by omega]
      simp only [List.getElem?_cons_succ]
      exact this
/-- The blocks bs, listed at lv; F: where their metrics lie; all from block B on. -/
structure OB (B : Nat) (F : Nat → Prop) (w : World) (lv : Value) (bs : List Bl) : Prop where
  ex : ∃ l : List (Bl × Value), l.map (·.1) = bs ∧ RW w 3 lv bs.length (flatB l) ∧ ∀ x ∈ l, ∃ A c, x.2 = .slice A x.1.2.2.length c ∧ Rd w 3 A x.1.2.2.length (flatM x.1.2.2) ∧ ∀ b off, A = some ⟨b, off, none⟩ → 0 < x.1.2.2.length → F b
  own : ∀ g, isAt lv g → B ≤ g
  fb : ∀ g, F g → B ≤ g ∧ ¬ isAt lv g
theorem OB.nil (B : Nat) (w : World) : OB B (fun _ => False) w (.slice none 0 0) [] :=
  ⟨⟨[], rfl, RW.nil _ _, fun x hx => by cases hx⟩, fun g hg => (by obtain ⟨_, _, _, e⟩ := hg; cases e), fun g hg => hg.elim⟩
theorem Rd.kept0 {S : Nat → Prop} {w w' : World} {sz : Nat} {A : Option Addr} {n : Nat} {xs : List Value} (h : Rd w sz A n xs) (hk : Kept S w w') (hS : ∀ b off, A = some ⟨b, off, none⟩ → 0 < n → ¬ S b) : Rd w' sz A n xs :=
  ⟨h.1, fun hn => by
    obtain ⟨b, off, e, hlt, hc⟩ := h.2 hn
    exact ⟨b, off, e, Nat.lt_of_lt_of_le hlt hk.size, fun j u hj => (hk.cell (p := ⟨b, off + j, none⟩) hlt (hS b off e hn)).trans (hc j u hj)⟩⟩
section
variable {B : Nat} {F : Nat → Prop} {w w' : World} {lv : Value} {bs : List Bl}
theorem OB.kept {S : Nat → Prop} (h : OB B F w lv bs) (hk : Kept S w w') (h1 : ∀ g, isAt lv g → ¬ S g) (h2 : ∀ g, F g → ¬ S g) : OB B F w' lv bs := by
  obtain ⟨⟨l, e1, e2, e3⟩, own, fb⟩ := h
  refine ⟨⟨l, e1, e2.kept hk h1, fun x hx => ?_⟩, own, fb⟩
  obtain ⟨A, c, e, hr, hf⟩ := e3 x hx
  exact ⟨A, c, e, Rd.kept0 hr hk (fun b off e0 h0 => h2 b (hf b off e0 h0)), hf⟩
theorem OB.run (h : OB B F w lv bs) (hk : Kept (fun _ => False) w w') : OB B F w' lv bs := h.kept hk (fun _ _ => id) (fun _ _ => id)
theorem OB.lt (h : OB B F w lv bs) {g : Nat} (hg : isAt lv g) : g < w.heap.size := by
  obtain ⟨⟨l, e1, e2, e3⟩, own, fb⟩ := h
  exact e2.lt hg
theorem OB.shape (h : OB B F w lv bs) : ∃ A c, lv = .slice A bs.length c := by
  obtain ⟨⟨l, e1, e2, e3⟩, own, fb⟩ := h
  exact e2.shape
theorem OB.blks {A : Option Addr} {c : Nat} (h : OB B F w (.slice A bs.length c) bs) : Blks w A bs.length bs := by
  obtain ⟨⟨l, e1, e2, e3⟩, own, fb⟩ := h
  refine ⟨rfl, fun hn => ?_⟩
  obtain ⟨g, off, hA, hg, hc⟩ := e2.rd.2 hn
  refine ⟨g, off, hA, hg, fun i x hx => ?_⟩
  rw [← e1, List.getElem?_map] at hx
  cases hl : l[i]? with
  | none => rw [hl] at hx; cases hx
  | some y =>
    rw [hl] at hx
    injection hx with hx
    obtain ⟨f0, f1, f2⟩ := flatB_at l i y hl
    obtain ⟨MA, mc, e, hr, _⟩ := e3 y (List.mem_of_getElem? hl)
    subst hx
    exact ⟨hc _ _ f0, hc _ _ f1, MA, mc, by rw [← e]; exact hc _ _ f2, hr⟩
/-- One block more. -/
theorem OB.push {l : List (Bl × Value)} (h : OB B F w lv bs) (e1 : l.map (·.1) = bs) (e3 : ∀ x ∈ l, ∃ A c, x.2 = .slice A x.1.2.2.length c ∧ Rd w 3 A x.1.2.2.length (flatM x.1.2.2) ∧ ∀ b off, A = some ⟨b, off, none⟩ → 0 < x.1.2.2.length → F b) (hB : B ≤ w.heap.size) {u : Value} {x : Bl} {A : Option Addr} {c : Nat} (hx : Rd w 3 A x.2.2.length (flatM x.2.2)) (hb : ∀ b off, A = some ⟨b, off, none⟩ → 0 < x.2.2.length → B ≤ b ∧ ¬ isAt lv b)
    (hr : RW w' 3 u (bs.length + 1) (flatB l ++ flatB [(x, .slice A x.2.2.length c)])) (hk : Kept (isAt lv) w w') (hn : ∀ g, isAt u g → isAt lv g ∨ g = w.heap.size) (hF : ∀ g, F g → g < w.heap.size) :
    OB B (fun g => F g ∨ (0 < x.2.2.length ∧ ∃ off, A = some ⟨g, off, none⟩)) w' u (bs ++ [x]) := by
  obtain ⟨_, own, fb⟩ := h
  refine ⟨⟨l ++ [(x, .slice A x.2.2.length c)], by rw [List.map_append, e1]; rfl, by rw [flatB_append, List.length_append, List.length_singleton]; exact hr, fun y hy => ?_⟩, fun g hg => ?_, fun g hg => ?_⟩
  · rcases List.mem_append.1 hy with hy | hy
    · obtain ⟨A', c', e, hr', hf⟩ := e3 y hy
      exact ⟨A', c', e, Rd.kept0 hr' hk (fun b off e0 h0 hs => (fb b (hf b off e0 h0)).2 hs), fun b off e0 h0 => .inl (hf b off e0 h0)⟩
    · simp at hy
      subst hy
      exact ⟨A, c, rfl, Rd.kept0 hx hk (fun b off e0 h0 => (hb b off e0 h0).2), fun b off e0 h0 => .inr ⟨h0, off, e0⟩⟩
  · rcases hn g hg with h1 | h1
    · exact own g h1
    · omega
  · rcases hg with hg | ⟨h0, off, e⟩
    · refine ⟨(fb g hg).1, fun hu => ?_⟩
      rcases hn g hu with h1 | h1
      · exact (fb g hg).2 h1
      · have := hF g hg; omega
    · refine ⟨(hb g off e h0).1, fun hu => ?_⟩
      rcases hn g hu with h1 | h1
      · exact (hb g off e h0).2 h1
      · obtain ⟨b', off', e', hlt, _⟩ := hx.2 h0
        rw [e] at e'
        injection e' with e'
        injection e' with e' _
        omega
end
theorem info_metric : (Try.prog.info? 47).map (fun i => (i.zero, i.size, i.bytes)) = some (some (.agg #[.bool false, .int .i64 0, .int .i64 0]), 3, 24) := by kernel_rfl
theorem info_block : (Try.prog.info? 44).map (fun i => (i.zero, i.size, i.bytes)) = some (some (.agg #[.int .u32 0, .int .i64 0, .slice none 0 0]), 3, 40) := by kernel_rfl
theorem rd_src {P : Program} {w : World} {sz n c : Nat} {A : Option Addr} {xs : List Value} {tx e' : TypeId} (hk : P.underlying tx = some (.slice e')) (h : Rd w sz A n xs) (h1 : ∀ u ∈ xs, u.oneCell' = true) : Src P sz tx (.slice A n c) n xs w := by
  rcases A with _ | ad
  · have hn : n = 0 := by
      rcases Nat.eq_zero_or_pos n with h0 | h0
      · exact h0
      · obtain ⟨_, _, e, _⟩ := h.2 h0
        cases e
    subst hn
    have hxs : xs = [] := List.eq_nil_of_length_eq_zero (by simpa using h.1)
    subst hxs
    exact Src.ofNil w hk c
  · refine Src.ofSlice w hk ad n c xs h.1 (fun j u hj => ?_) h1
    rcases Nat.eq_zero_or_pos n with h0 | h0
    · subst h0
      have hxs : xs = [] := List.eq_nil_of_length_eq_zero (by simpa using h.1)
      rw [hxs] at hj
      simp at hj
    · obtain ⟨g, off, e, _, hc⟩ := h.2 h0
      injection e with e
      rw [e, addr_lit]
      exact hc j u hj
end Go.Proofs.Ytmkaflfhmpddbaa.Ccfb
