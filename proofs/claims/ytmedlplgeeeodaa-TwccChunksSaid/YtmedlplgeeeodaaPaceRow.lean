/- Rows of elements of several cells, wherever they begin in their block, with room behind them; whatever program; no condition but those in each. -/
import Derived.Test.YtmedlplgeeeodaaHeap
import Derived.Deep.AppendSrc
import Derived.Deep.MidRow
namespace Go.Proofs.Ytmedlplgeeeodaa.Rows
open Go.RowKit Go.Proofs.Ytmedlplgeeeodaa.Heap

/-- The block of a slice. -/
def isAt (v : Value) (g : Nat) : Prop := ∃ off n c, v = .slice (some ⟨g, off, none⟩) n c
def RW (w : World) (sz : Nat) (v : Value) (n : Nat) (xs : List Value) : Prop :=
  xs.length = n * sz ∧ ((v = .slice none 0 0 ∧ n = 0) ∨ ∃ g off cap, v = .slice (some ⟨g, off, none⟩) n cap ∧ g < w.heap.size ∧ n ≤ cap ∧ (∀ j, j < cap * sz → (w.cell? ⟨g, off + j, none⟩).isSome = true) ∧
    (∀ i, w.frozen? ⟨g, i, none⟩ = false) ∧ ∀ j u, xs[j]? = some u → w.cell? ⟨g, off + j, none⟩ = some u)
theorem RW.nil (w : World) (sz : Nat) : RW w sz (.slice none 0 0) 0 [] := ⟨by simp, .inl ⟨rfl, rfl⟩⟩
theorem RW.kept {S : Nat → Prop} {w w' : World} {sz n : Nat} {v : Value} {xs : List Value} (h : RW w sz v n xs) (hk : Kept S w w') (hS : ∀ g, isAt v g → ¬ S g) : RW w' sz v n xs := by
  refine ⟨h.1, ?_⟩
  rcases h.2 with h | ⟨g, off, cap, rfl, h1, h2, h3, h4, h5⟩
  · exact .inl h
  · have hs := hS g ⟨_, _, _, rfl⟩
    exact .inr ⟨g, off, cap, rfl, Nat.lt_of_lt_of_le h1 hk.size, h2, fun j hj => by rw [hk.cell (p := ⟨g, off + j, none⟩) h1 hs]; exact h3 j hj, fun i => (hk.frozen (p := ⟨g, i, none⟩) h1 hs).trans (h4 i), fun j u hj => (hk.cell (p := ⟨g, off + j, none⟩) h1 hs).trans (h5 j u hj)⟩
theorem RW.shape {w : World} {sz n : Nat} {v : Value} {xs : List Value} (h : RW w sz v n xs) : ∃ A c, v = .slice A n c := by
  rcases h.2 with ⟨rfl, rfl⟩ | ⟨g, off, cap, rfl, _⟩
  · exact ⟨_, _, rfl⟩
  · exact ⟨_, _, rfl⟩
theorem RW.lt {w : World} {sz n : Nat} {v : Value} {xs : List Value} (h : RW w sz v n xs) {g : Nat} (hg : isAt v g) : g < w.heap.size := by
  obtain ⟨o, m, c, rfl⟩ := hg
  rcases h.2 with ⟨h, _⟩ | ⟨g', off, cap, h, h1, _⟩
  · cases h
  · injection h with h
    injection h with h
    injection h with h
    subst h
    exact h1
theorem RW.rd {w : World} {sz n : Nat} {A : Option Addr} {c : Nat} {xs : List Value} (h : RW w sz (.slice A n c) n xs) : Rd w sz A n xs := by
  refine ⟨h.1, fun hn => ?_⟩
  rcases h.2 with ⟨_, h0⟩ | ⟨g, off, cap, e, h1, _, _, _, h5⟩
  · omega
  · injection e with e
    subst e
    exact ⟨g, off, rfl, h1, h5⟩
/-- The first element gone: l[1:len(l):len(l)]. -/
theorem RW.tail {w : World} {sz n g off cap : Nat} {xs : List Value} (h : RW w sz (.slice (some ⟨g, off, none⟩) (n + 1) cap) (n + 1) xs) : RW w sz (.slice (some ⟨g, off + sz, none⟩) n n) n (xs.drop sz) := by
  have hm : (n + 1) * sz = n * sz + sz := Nat.succ_mul n sz
  refine ⟨by rw [List.length_drop, h.1, hm]; omega, ?_⟩
  rcases h.2 with ⟨h, _⟩ | ⟨g', off', cap', e, h1, h2, h3, h4, h5⟩
  · cases h
  · injection e with e1 e2 e3
    injection e1 with e1
    injection e1 with e1 e4
    subst e1 e3 e4
    have hc : (n + 1) * sz ≤ cap * sz := Nat.mul_le_mul_right sz h2
    refine .inr ⟨g, off + sz, n, rfl, h1, Nat.le_refl _, fun j hj => ?_, h4, fun j u hj => ?_⟩
    · have := h3 (sz + j) (by omega)
      rwa [← Nat.add_assoc] at this
    · have := h5 (sz + j) u (by rwa [List.getElem?_drop] at hj)
      rwa [← Nat.add_assoc] at this
theorem kept_setCells (g : Nat) : ∀ (vs : List Value) (o : Nat) (w : World), Kept (fun i => i = g) w (w.setCells g o vs)
  | [], _, w => Kept.refl _ w
  | v :: vs, o, w => (Kept.setCell (S := fun i => i = g) (Kept.refl _ w) (p := ⟨g, o, none⟩) (.inl rfl) v).trans (kept_setCells g vs (o + 1) _) (fun _ _ h => h)
theorem addr_lit (g off j : Nat) : (⟨g, off, none⟩ : Addr).add j = ⟨g, off + j, none⟩ := by unfold Addr.add; split <;> simp_all
section
variable {P : Program}
/-- append of one element. -/
theorem app_row {w : World} {t ty e : TypeId} {z : Value} {sz bytes : Nat} (ht : P.underlying t = some (.slice e)) (hinfo : (P.info? e).map (fun i => (i.zero, i.size, i.bytes)) = some (some z, sz, bytes)) (hzs : z.cells.size = sz) (hby : bytes ≤ 1000)
    {v : Value} {n : Nat} {xs : List Value} (h : RW w sz v n xs) (A : Option Addr) (c : Nat) (news : List Value) (hr : Rd w sz A 1 news) (h1 : ∀ u ∈ news, u.oneCell' = true) (hn : n ≤ 1000000) :
    ∃ v' w', (Builtin.append_ #[t, t] ty #[v, .slice A 1 c]).run P w = .ok v' w' ∧ RW w' sz v' (n + 1) (xs ++ news) ∧ Kept (isAt v) w w' ∧ ∀ g, isAt v' g → isAt v g ∨ g = w.heap.size := by
  obtain ⟨i, hi, hz, hs, hb⟩ := info_parts hinfo
  obtain ⟨sb, so, rfl, hlt, hcell⟩ := hr.2 (by omega)
  have hnews : ∀ j u, news[j]? = some u → w.cell? ((⟨sb, so, none⟩ : Addr).add j) = some u := fun j u hu => by rw [addr_lit]; exact hcell j u hu
  have hl1 : news.length = 1 * i.size := by rw [hs]; exact hr.1
  have hlen : (xs ++ news).length = (n + 1) * sz := by rw [List.length_append, h.1, hr.1, Nat.one_mul, Nat.succ_mul]
  have fresh : ∀ (cs : Array Value) (cap : Nat), n + 1 ≤ cap → cs.size = cap * sz → (∀ (j : Nat) (u : Value), (xs ++ news)[j]? = some u → cs[j]? = some u) → RW (w.drew.alloc (.cells cs e)) sz (.slice (some ⟨w.heap.size, 0, none⟩) (n + 1) cap) (n + 1) (xs ++ news) := by
    intro cs cap hcap hcs hc
    have hh := heap_alloc_new w.drew (.cells cs e)
    rw [show w.drew.heap.size = w.heap.size from rfl] at hh
    refine ⟨hlen, .inr ⟨w.heap.size, 0, cap, rfl, by simp, hcap, fun j hj => ?_, fun i => by simp only [World.frozen?, hh]; simp, fun j u hj => ?_⟩⟩
    · simp only [World.cell?, hh, Nat.zero_add]
      simp [Array.getElem?_eq_getElem (show j < cs.size by omega)]
    · simp only [World.cell?, hh, Nat.zero_add]
      exact hc j u hj
  rcases h.2 with ⟨rfl, rfl⟩ | ⟨g, off, cap, rfl, hg, h2, h3, h4, h5⟩
  · have hxs : xs = [] := List.eq_nil_of_length_eq_zero (by simpa using h.1)
    subst hxs
    have hrun := run_append_nil (P := P) w t ty e i z ht hi hz ⟨sb, so, none⟩ 1 c news hl1 hnews (by omega) (by omega) (by rw [hb]; omega)
    have hge := grownCap_ge w 1 0 e
    refine ⟨_, _, hrun, fresh _ _ (by simpa using hge) ?_ fun j u hj => ?_, ((Kept.refl _ w).drew.alloc _), fun g hg => .inr ?_⟩
    · rw [Array.size_append, size_zeroCells, hzs]
      have : news.length = sz := by rw [hr.1, Nat.one_mul]
      simp only [List.size_toArray, this]
      have hm := Nat.sub_add_cancel hge
      calc sz + (grownCap w 1 0 e - 1) * sz = ((grownCap w 1 0 e - 1) + 1) * sz := by rw [Nat.succ_mul]; omega
        _ = _ := by rw [hm]
    · rw [List.nil_append] at hj
      have := (List.getElem?_eq_some_iff.1 hj).1
      rw [Array.getElem?_append_left (by simpa using this)]
      simpa using hj
    · obtain ⟨o, m, c, e⟩ := hg
      injection e with e; injection e with e; injection e with e; exact e.symm
  · by_cases hroom : n + 1 ≤ cap
    · have hsrc := Src.ofSlice (P := P) w (size := i.size) ht ⟨sb, so, none⟩ 1 c news hl1 hnews h1
      have hmul : (n + 1) * sz ≤ cap * sz := Nat.mul_le_mul_right sz hroom
      rw [Nat.succ_mul] at hmul
      have hnl : news.length = sz := by rw [hr.1, Nat.one_mul]
      have hin : ∀ j, j < news.length → (w.cell? ⟨g, off + n * sz + j, none⟩).isSome = true := fun j hj => by
        have := h3 (n * sz + j) (by omega)
        rwa [← Nat.add_assoc] at this
      have hrun := run_append_room_src (P := P) w t t ty e i ht hi g off n cap _ 1 news hsrc hroom
        (fun j hj => by rw [hs]; exact hin j hj) (fun j hj => h4 _)
      rw [hs] at hrun
      have hk := kept_setCells g news (off + n * sz) w
      have hout : ∀ j, j < n * sz → (w.setCells g (off + n * sz) news).cell? ⟨g, off + j, none⟩ = w.cell? ⟨g, off + j, none⟩ := fun j hj => World.cell?_setCells_out g news _ w _ (fun _ _ => .inl (by show off + j < _; omega))
      refine ⟨_, _, hrun, ⟨hlen, .inr ⟨g, off, cap, rfl, Nat.lt_of_lt_of_le hg hk.size, hroom, fun j hj => World.isSome_setCells g news _ w _ (h3 j hj), fun i => (World.frozen?_setCells g news _ w _).trans (h4 i), fun j u hj => ?_⟩⟩, hk.mono fun i _ hi => by subst hi; exact ⟨_, _, _, rfl⟩, fun g' hg' => .inl ?_⟩
      · rcases Nat.lt_or_ge j xs.length with hj2 | hj2
        · rw [List.getElem?_append_left hj2] at hj
          rw [hout j (by rw [← h.1]; exact hj2)]
          exact h5 j u hj
        · rw [List.getElem?_append_right hj2] at hj
          rw [h.1] at hj hj2
          obtain ⟨hj4, hj5⟩ := List.getElem?_eq_some_iff.1 hj
          have := World.cell?_setCells_in g news (off + n * sz) w hin (j - n * sz) hj4
          rw [show off + n * sz + (j - n * sz) = off + j by omega] at this
          rw [this, ← hj5]
      · obtain ⟨o, m, c, e⟩ := hg'
        injection e with e; injection e with e; injection e with e; subst e
        exact ⟨_, _, _, rfl⟩
    · have holds : ∀ j u, xs[j]? = some u → w.cell? ((⟨g, off, none⟩ : Addr).add j) = some u := fun j u hu => by rw [addr_lit]; exact h5 j u hu
      have hrun := run_append_grow (P := P) w t ty e i z ht hi hz ⟨g, off, none⟩ n cap xs (by rw [hs]; exact h.1) holds ⟨sb, so, none⟩ 1 c news hl1 hnews (by omega) (by omega) (growslice_fits (by omega) (by
        have h6 : (n + 1) * i.bytes ≤ (n + 1) * 1000 := Nat.mul_le_mul_left _ (by omega)
        omega))
      have hge := grownCap_ge w (n + 1) cap e
      refine ⟨_, _, hrun, fresh _ _ hge ?_ fun j u hj => ?_, ((Kept.refl _ w).drew.alloc _), fun g hg => .inr ?_⟩
      · rw [Array.size_append, Array.size_append, size_zeroCells, hzs]
        have hnl : news.length = sz := by rw [hr.1, Nat.one_mul]
        simp only [List.size_toArray, hnl, h.1]
        have hm := Nat.sub_add_cancel hge
        calc n * sz + sz + (grownCap w (n + 1) cap e - (n + 1)) * sz = ((grownCap w (n + 1) cap e - (n + 1)) + (n + 1)) * sz := by rw [Nat.add_mul, Nat.succ_mul n sz]; omega
          _ = _ := by rw [hm]
      · have := (List.getElem?_eq_some_iff.1 hj).1
        rw [Array.getElem?_append_left (by simpa using this), show xs.toArray ++ news.toArray = (xs ++ news).toArray by simp]
        simpa using hj
      · obtain ⟨o, m, c, e⟩ := hg
        injection e with e; injection e with e; injection e with e; exact e.symm
variable {ops : Array Oper} {rest : List Oper} {o : Oper} {a : Act} {Q : Exit → Act → World → Prop}
theorem wp_row {K : Act → World → Prop} {w : World} (s x : Operand) (t : TypeId) (ho : o.op = .call { callee := .builtin .append, args := #[s, x], argTypes := #[t, t] })
    (e : TypeId) (z : Value) (sz bytes : Nat) (ht : P.underlying t = some (.slice e)) (hinfo : (P.info? e).map (fun i => (i.zero, i.size, i.bytes)) = some (some z, sz, bytes)) (hzs : z.cells.size = sz) (hby : bytes ≤ 1000)
    (v : Value) (n : Nat) (xs : List Value) (hs : a.eval s = v) (h : RW w sz v n xs) (A : Option Addr) (c : Nat) (news : List Value) (hx : a.eval x = .slice A 1 c) (hr : Rd w sz A 1 news) (h1 : ∀ u ∈ news, u.oneCell' = true) (hn : n ≤ 1000000)
    (hh : ∀ v' w', RW w' sz v' (n + 1) (xs ++ news) → Kept (isAt v) w w' → (∀ g, isAt v' g → isAt v g ∨ g = w.heap.size) → K (a.put o.dst v') w') : o.wp P a w K Q := by
  obtain ⟨v', w', hrun, h2, h3, h4⟩ := app_row (P := P) (ty := o.type) ht hinfo hzs hby h A c news hr h1 hn
  unfold Oper.wp execOp
  simp only [ho, resolve, invoke, builtin, Sem.run_bind, Sem.run_pure, Result.andThen_ok, List.map_toArray, List.map_cons, List.map_nil, hs, hx, hrun]
  exact hh v' w' h2 h3 h4
theorem wpList_row {w : World} (hgd : o.guard = none) (s x : Operand) (t : TypeId) (ho : o.op = .call { callee := .builtin .append, args := #[s, x], argTypes := #[t, t] })
    (e : TypeId) (z : Value) (sz bytes : Nat) (ht : P.underlying t = some (.slice e)) (hinfo : (P.info? e).map (fun i => (i.zero, i.size, i.bytes)) = some (some z, sz, bytes)) (hzs : z.cells.size = sz) (hby : bytes ≤ 1000)
    (v : Value) (n : Nat) (xs : List Value) (hs : a.eval s = v) (h : RW w sz v n xs) (A : Option Addr) (c : Nat) (news : List Value) (hx : a.eval x = .slice A 1 c) (hr : Rd w sz A 1 news) (h1 : ∀ u ∈ news, u.oneCell' = true) (hn : n ≤ 1000000)
    (hh : ∀ v' w', RW w' sz v' (n + 1) (xs ++ news) → Kept (isAt v) w w' → (∀ g, isAt v' g → isAt v g ∨ g = w.heap.size) → wpList P ops Q rest (a.put o.dst v') w') : wpList P ops Q (o :: rest) a w :=
  wpList_plain hgd fun _ hK => wp_row s x t ho e z sz bytes ht hinfo hzs hby v n xs hs h A c news hx hr h1 hn fun v' w' h2 h3 h4 => hK _ _ (hh v' w' h2 h3 h4)
theorem step_row {K : Act → World → Prop} {E : Prop} {w : World} (hgd : o.guard = none) (s x : Operand) (t : TypeId) (ho : o.op = .call { callee := .builtin .append, args := #[s, x], argTypes := #[t, t] })
    (e : TypeId) (z : Value) (sz bytes : Nat) (ht : P.underlying t = some (.slice e)) (hinfo : (P.info? e).map (fun i => (i.zero, i.size, i.bytes)) = some (some z, sz, bytes)) (hzs : z.cells.size = sz) (hby : bytes ≤ 1000)
    (v : Value) (n : Nat) (xs : List Value) (hs : a.eval s = v) (h : RW w sz v n xs) (A : Option Addr) (c : Nat) (news : List Value) (hx : a.eval x = .slice A 1 c) (hr : Rd w sz A 1 news) (h1 : ∀ u ∈ news, u.oneCell' = true) (hn : n ≤ 1000000)
    (hh : ∀ v' w', RW w' sz v' (n + 1) (xs ++ news) → Kept (isAt v) w w' → (∀ g, isAt v' g → isAt v g ∨ g = w.heap.size) → K (a.put o.dst v') w') :
    if Region.wanted o (yielded ops a.tmps) = true then Oper.wp P o a w K Q else E := by
  have hw : Region.wanted o (yielded ops a.tmps) = true := by simp [Region.wanted, hgd]
  rw [if_pos hw]
  exact wp_row s x t ho e z sz bytes ht hinfo hzs hby v n xs hs h A c news hx hr h1 hn hh
end
end Go.Proofs.Ytmedlplgeeeodaa.Rows
