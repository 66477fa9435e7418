/- Append of a whole row onto a row that may be nil; whatever program; no condition but those in each. -/
import Derived.Test.YtmedlplgeeeodaaPaceRow2
namespace Go.Proofs.Ytmedlplgeeeodaa.Rows
open Go.RowKit Go.Proofs.Ytmedlplgeeeodaa.Heap
section
variable {P : Program}
theorem app_many {w : World} {t ty e : TypeId} {z : Value} {sz bytes : Nat} (ht : P.underlying t = some (.slice e)) (hinfo : (P.info? e).map (fun i => (i.zero, i.size, i.bytes)) = some (some z, sz, bytes)) (hzs : z.cells.size = sz) (hby : bytes ≤ 1000)
    {v : Value} {n : Nat} {xs : List Value} (h : RW w sz v n xs) (A : Option Addr) (m c : Nat) (news : List Value) (hr : Rd w sz A m news) (h1 : ∀ u ∈ news, u.oneCell' = true) (hm : 1 ≤ m) (hn : n + m ≤ 1000000) :
    ∃ v' w', (Builtin.append_ #[t, t] ty #[v, .slice A m c]).run P w = .ok v' w' ∧ RW w' sz v' (n + m) (xs ++ news) ∧ Kept (isAt v) w w' ∧ ∀ g, isAt v' g → isAt v g ∨ g = w.heap.size := by
  obtain ⟨i, hi, hz, hs, hb⟩ := info_parts hinfo
  obtain ⟨sb, so, rfl, hlt, hcell⟩ := hr.2 (by omega)
  have hnews : ∀ j u, news[j]? = some u → w.cell? ((⟨sb, so, none⟩ : Addr).add j) = some u := fun j u hu => by rw [addr_lit]; exact hcell j u hu
  have hl1 : news.length = m * i.size := by rw [hs]; exact hr.1
  rcases h.2 with ⟨rfl, rfl⟩ | ⟨g, off, cap, rfl, hg, h2, h3, h4, h5⟩
  · have hxs : xs = [] := List.eq_nil_of_length_eq_zero (by simpa using h.1)
    subst hxs
    have hrun := run_append_nil (P := P) w t ty e i z ht hi hz ⟨sb, so, none⟩ m c news hl1 hnews (by omega) (by omega) (by
      have h6 : m * i.bytes ≤ m * 1000 := Nat.mul_le_mul_left _ (by omega)
      omega)
    have hge := grownCap_ge w m 0 e
    rw [Nat.zero_add, List.nil_append]
    have hh := heap_alloc_new w.drew (.cells (news.toArray ++ Builtin.zeroCells z.cells (grownCap w m 0 e - m)) e)
    rw [show w.drew.heap.size = w.heap.size from rfl] at hh
    have hcs : (news.toArray ++ Builtin.zeroCells z.cells (grownCap w m 0 e - m)).size = grownCap w m 0 e * sz := by
      rw [Array.size_append, size_zeroCells, hzs]
      simp only [List.size_toArray, hr.1]
      rw [← Nat.add_mul]
      congr 1
      omega
    refine ⟨_, _, hrun, ⟨hr.1, .inr ⟨w.heap.size, 0, grownCap w m 0 e, rfl, by simp, hge, fun j hj => ?_, fun i => ?_, fun j u hj => ?_⟩⟩, ((Kept.refl _ w).drew.alloc _), fun g hg => .inr ?_⟩
    · simp only [World.cell?, hh, Nat.zero_add]
      simp [Array.getElem?_eq_getElem (show j < (news.toArray ++ Builtin.zeroCells z.cells (grownCap w m 0 e - m)).size by omega)]
    · simp only [World.frozen?, hh]
      simp
    · simp only [World.cell?, hh, Nat.zero_add]
      have := (List.getElem?_eq_some_iff.1 hj).1
      rw [Array.getElem?_append_left (by simpa using this)]
      simpa using hj
    · obtain ⟨o, m', c', e⟩ := hg
      injection e with e; injection e with e; injection e with e; exact e.symm
  · obtain ⟨v', w', q1, q2, q3, q4⟩ := app_src (P := P) (ty := ty) (tx := t) ht hinfo hzs hby h (.slice (some ⟨sb, so, none⟩) m c) m news (Src.ofSlice (P := P) w (size := sz) ht ⟨sb, so, none⟩ m c news hr.1 hnews h1) hn
    exact ⟨v', w', q1, q2, q3.mono fun i _ hi => by subst hi; exact ⟨_, _, _, rfl⟩, fun k hk => (q4 k hk).imp (fun e => by subst e; exact ⟨_, _, _, rfl⟩) id⟩
variable {ops : Array Oper} {rest : List Oper} {o : Oper} {a : Act} {Q : Exit → Act → World → Prop}
theorem wp_many {K : Act → World → Prop} {w : World} (s x : Operand) (t : TypeId) (ho : o.op = .call { callee := .builtin .append, args := #[s, x], argTypes := #[t, t] })
    (e : TypeId) (z : Value) (sz bytes : Nat) (ht : P.underlying t = some (.slice e)) (hinfo : (P.info? e).map (fun i => (i.zero, i.size, i.bytes)) = some (some z, sz, bytes)) (hzs : z.cells.size = sz) (hby : bytes ≤ 1000)
    (v : Value) (n : Nat) (xs : List Value) (hs : a.eval s = v) (h : RW w sz v n xs) (A : Option Addr) (m c : Nat) (news : List Value) (hx : a.eval x = .slice A m c) (hr : Rd w sz A m news) (h1 : ∀ u ∈ news, u.oneCell' = true) (hm : 1 ≤ m) (hn : n + m ≤ 1000000)
    (hh : ∀ v' w', RW w' sz v' (n + m) (xs ++ news) → Kept (isAt v) w w' → (∀ g, isAt v' g → isAt v g ∨ g = w.heap.size) → K (a.put o.dst v') w') : o.wp P a w K Q := by
  obtain ⟨v', w', hrun, h2, h3, h4⟩ := app_many (P := P) (ty := o.type) ht hinfo hzs hby h A m c news hr h1 hm hn
  unfold Oper.wp execOp
  simp only [ho, resolve, invoke, builtin, Sem.run_bind, Sem.run_pure, Result.andThen_ok, List.map_toArray, List.map_cons, List.map_nil, hs, hx, hrun]
  exact hh v' w' h2 h3 h4
theorem wpList_many {w : World} (hgd : o.guard = none) (s x : Operand) (t : TypeId) (ho : o.op = .call { callee := .builtin .append, args := #[s, x], argTypes := #[t, t] })
    (e : TypeId) (z : Value) (sz bytes : Nat) (ht : P.underlying t = some (.slice e)) (hinfo : (P.info? e).map (fun i => (i.zero, i.size, i.bytes)) = some (some z, sz, bytes)) (hzs : z.cells.size = sz) (hby : bytes ≤ 1000)
    (v : Value) (n : Nat) (xs : List Value) (hs : a.eval s = v) (h : RW w sz v n xs) (A : Option Addr) (m c : Nat) (news : List Value) (hx : a.eval x = .slice A m c) (hr : Rd w sz A m news) (h1 : ∀ u ∈ news, u.oneCell' = true) (hm : 1 ≤ m) (hn : n + m ≤ 1000000)
    (hh : ∀ v' w', RW w' sz v' (n + m) (xs ++ news) → Kept (isAt v) w w' → (∀ g, isAt v' g → isAt v g ∨ g = w.heap.size) → wpList P ops Q rest (a.put o.dst v') w') : wpList P ops Q (o :: rest) a w :=
  wpList_plain hgd fun _ hK => wp_many s x t ho e z sz bytes ht hinfo hzs hby v n xs hs h A m c news hx hr h1 hm hn fun v' w' h2 h3 h4 => hK _ _ (hh v' w' h2 h3 h4)
end
end Go.Proofs.Ytmedlplgeeeodaa.Rows
