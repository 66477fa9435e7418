/- Appends of whole rows; a drawn region where two may come up; whatever program; no condition but those in each. -/
import Derived.Test.YtmedlplgeeeodaaPaceRow
import Derived.Test.YtmedlplgeeeodaaTail
namespace Go.Proofs.Ytmedlplgeeeodaa.Rows
open Go.RowKit Go.Proofs.Ytmedlplgeeeodaa.Heap

theorem RW.fresh0 (w : World) (t : TypeId) (sz : Nat) : RW (w.alloc (.cells #[] t)) sz (.slice (some ⟨w.heap.size, 0, none⟩) 0 0) 0 [] := by
  have hh := heap_alloc_new w (.cells #[] t)
  exact ⟨by simp, .inr ⟨w.heap.size, 0, 0, rfl, by simp, Nat.le_refl _, fun j hj => by omega, fun i => by simp only [World.frozen?, hh]; simp, fun j u hj => by simp at hj⟩⟩
theorem RW.src {P : Program} {w : World} {sz n c : Nat} {A : Option Addr} {xs : List Value} {tx e' : TypeId} (hk : P.underlying tx = some (.slice e')) (h : RW w sz (.slice A n c) n xs) (h1 : ∀ u ∈ xs, u.oneCell' = true) : Src P sz tx (.slice A n c) n xs w := by
  rcases h.2 with ⟨e, h0⟩ | ⟨g, off, cap, e, _, _, _, _, h5⟩
  · injection e with e1 e2 e3
    subst e1 h0
    have hxs : xs = [] := List.eq_nil_of_length_eq_zero (by simpa using h.1)
    subst hxs
    exact Src.ofNil w hk c
  · injection e with e1 e2 e3
    subst e1
    exact Src.ofSlice w hk ⟨g, off, none⟩ n c xs h.1 (fun j u hj => by rw [addr_lit]; exact h5 j u hj) h1
section
variable {P : Program}
/-- append of a whole row. -/
theorem app_src {w : World} {t tx ty e : TypeId} {z : Value} {sz bytes : Nat} (ht : P.underlying t = some (.slice e)) (hinfo : (P.info? e).map (fun i => (i.zero, i.size, i.bytes)) = some (some z, sz, bytes)) (hzs : z.cells.size = sz) (hby : bytes ≤ 1000)
    {g off n cap : Nat} {xs : List Value} (h : RW w sz (.slice (some ⟨g, off, none⟩) n cap) n xs) (x : Value) (m : Nat) (news : List Value) (hs : Src P sz tx x m news w) (hn : n + m ≤ 1000000) :
    ∃ v' w', (Builtin.append_ #[t, tx] ty #[.slice (some ⟨g, off, none⟩) n cap, x]).run P w = .ok v' w' ∧ RW w' sz v' (n + m) (xs ++ news) ∧ Kept (fun k => k = g) w w' ∧ ∀ k, isAt v' k → k = g ∨ k = w.heap.size := by
  obtain ⟨i, hi, hz, hsz, hb⟩ := info_parts hinfo
  have hlen : (xs ++ news).length = (n + m) * sz := by rw [List.length_append, h.1, hs.newsLen, Nat.add_mul]
  rcases h.2 with ⟨e, _⟩ | ⟨g', off', cap', e, hg, h2, h3, h4, h5⟩
  · cases e
  injection e with e1 e2 e3
  injection e1 with e1
  injection e1 with e1 e4
  subst e1 e3 e4
  by_cases hroom : n + m ≤ cap
  · have hmul : (n + m) * sz ≤ cap * sz := Nat.mul_le_mul_right sz hroom
    rw [Nat.add_mul] at hmul
    have hnl := hs.newsLen
    have hin : ∀ j, j < news.length → (w.cell? ⟨g, off + n * sz + j, none⟩).isSome = true := fun j hj => by
      have := h3 (n * sz + j) (by omega)
      rwa [← Nat.add_assoc] at this
    have hrun := run_append_room_src (P := P) w t tx ty _ i ht hi g off n cap x m news (by rw [hsz]; exact hs) hroom
      (fun j hj => by rw [hsz]; exact hin j hj) (fun j hj => h4 _)
    rw [hsz] at hrun
    have hk := kept_setCells g news (off + n * sz) w
    have hout : ∀ j, j < n * sz → (w.setCells g (off + n * sz) news).cell? ⟨g, off + j, none⟩ = w.cell? ⟨g, off + j, none⟩ := fun j hj => World.cell?_setCells_out g news _ w _ (fun _ _ => .inl (by show off + j < _; omega))
    refine ⟨_, _, hrun, ⟨hlen, .inr ⟨g, off, cap, rfl, Nat.lt_of_lt_of_le hg hk.size, hroom, fun j hj => World.isSome_setCells g news _ w _ (h3 j hj), fun i => (World.frozen?_setCells g news _ w _).trans (h4 i), fun j u hj => ?_⟩⟩, hk, fun g' hg' => .inl ?_⟩
    · rcases Nat.lt_or_ge j xs.length with hj2 | hj2
      · rw [List.getElem?_append_left hj2] at hj
        rw [hout j (by rw [← h.1]; exact hj2)]
        exact h5 j u hj
      · rw [List.getElem?_append_right hj2] at hj
        rw [h.1] at hj hj2
        obtain ⟨hj4, hj5⟩ := List.getElem?_eq_some_iff.1 hj
        have := World.cell?_setCells_in g news (off + n * sz) w hin (j - n * sz) hj4
        rw [show off + n * sz + (j - n * sz) = off + j by omega] at this
        rw [this, ← hj5]
    · obtain ⟨o, m', c, e⟩ := hg'
      injection e with e; injection e with e; injection e with e; exact e.symm
  · have holds : ∀ j u, xs[j]? = some u → w.drew.cell? ((⟨g, off, none⟩ : Addr).add j) = some u := fun j u hu => by rw [addr_lit]; exact h5 j u hu
    have hfc : (Builtin.firstCells i.size n (.slice (some ⟨g, off, none⟩) n cap)).run P w.drew = .ok xs.toArray w.drew := run_firstCells_some w.drew i.size n ⟨g, off, none⟩ n cap xs (by rw [hsz]; exact h.1) holds
    have hrun := run_append_grow_src (P := P) w t tx ty _ i z ht hi hz (some ⟨g, off, none⟩) n cap xs hfc x m news (by rw [hsz]; exact hs) (by omega) (by omega) (growslice_fits (by omega) (by
      have h6 : (n + m) * i.bytes ≤ (n + m) * 1000 := Nat.mul_le_mul_left _ (by omega)
      omega))
    have hge := grownCap_ge w (n + m) cap e
    refine ⟨_, _, hrun, ⟨hlen, .inr ⟨w.heap.size, 0, grownCap w (n + m) cap e, rfl, by simp, hge, fun j hj => ?_, fun i => ?_, fun j u hj => ?_⟩⟩, ((Kept.refl _ w).drew.alloc _), fun g' hg' => .inr ?_⟩
    · have hh := heap_alloc_new w.drew (.cells ((xs ++ news).toArray ++ Builtin.zeroCells z.cells (grownCap w (n + m) cap e - (n + m))) e)
      rw [show w.drew.heap.size = w.heap.size from rfl] at hh
      simp only [World.cell?, hh, Nat.zero_add]
      have hs2 : ((xs ++ news).toArray ++ Builtin.zeroCells z.cells (grownCap w (n + m) cap e - (n + m))).size = grownCap w (n + m) cap e * sz := by
        rw [Array.size_append, size_zeroCells, hzs]
        simp only [List.size_toArray, hlen]
        rw [← Nat.add_mul]
        congr 1
        omega
      simp [Array.getElem?_eq_getElem (show j < ((xs ++ news).toArray ++ Builtin.zeroCells z.cells (grownCap w (n + m) cap e - (n + m))).size by omega)]
    · have hh := heap_alloc_new w.drew (.cells ((xs ++ news).toArray ++ Builtin.zeroCells z.cells (grownCap w (n + m) cap e - (n + m))) e)
      rw [show w.drew.heap.size = w.heap.size from rfl] at hh
      simp only [World.frozen?, hh]
      simp
    · have hh := heap_alloc_new w.drew (.cells ((xs ++ news).toArray ++ Builtin.zeroCells z.cells (grownCap w (n + m) cap e - (n + m))) e)
      rw [show w.drew.heap.size = w.heap.size from rfl] at hh
      simp only [World.cell?, hh, Nat.zero_add]
      have := (List.getElem?_eq_some_iff.1 hj).1
      rw [Array.getElem?_append_left (by simpa using this)]
      simpa using hj
    · obtain ⟨o, m', c, e⟩ := hg'
      injection e with e; injection e with e; injection e with e; exact e.symm
variable {ops : Array Oper} {rest : List Oper} {o : Oper} {a : Act} {Q : Exit → Act → World → Prop}
theorem wp_src {K : Act → World → Prop} {w : World} (s x : Operand) (t tx : TypeId) (ho : o.op = .call { callee := .builtin .append, args := #[s, x], argTypes := #[t, tx] })
    (e : TypeId) (z : Value) (sz bytes : Nat) (ht : P.underlying t = some (.slice e)) (hinfo : (P.info? e).map (fun i => (i.zero, i.size, i.bytes)) = some (some z, sz, bytes)) (hzs : z.cells.size = sz) (hby : bytes ≤ 1000)
    (g off n cap : Nat) (xs : List Value) (hs : a.eval s = .slice (some ⟨g, off, none⟩) n cap) (h : RW w sz (.slice (some ⟨g, off, none⟩) n cap) n xs) (xv : Value) (m : Nat) (news : List Value) (hx : a.eval x = xv) (hr : Src P sz tx xv m news w) (hn : n + m ≤ 1000000)
    (hh : ∀ v' w', RW w' sz v' (n + m) (xs ++ news) → Kept (fun k => k = g) w w' → (∀ k, isAt v' k → k = g ∨ k = w.heap.size) → K (a.put o.dst v') w') : o.wp P a w K Q := by
  obtain ⟨v', w', hrun, h2, h3, h4⟩ := app_src (P := P) (ty := o.type) ht hinfo hzs hby h xv m news hr hn
  unfold Oper.wp execOp
  simp only [ho, resolve, invoke, builtin, Sem.run_bind, Sem.run_pure, Result.andThen_ok, List.map_toArray, List.map_cons, List.map_nil, hs, hx, hrun]
  exact hh v' w' h2 h3 h4
theorem step_src {K : Act → World → Prop} {E : Prop} {w : World} (hgd : o.guard = none) (s x : Operand) (t tx : TypeId) (ho : o.op = .call { callee := .builtin .append, args := #[s, x], argTypes := #[t, tx] })
    (e : TypeId) (z : Value) (sz bytes : Nat) (ht : P.underlying t = some (.slice e)) (hinfo : (P.info? e).map (fun i => (i.zero, i.size, i.bytes)) = some (some z, sz, bytes)) (hzs : z.cells.size = sz) (hby : bytes ≤ 1000)
    (g off n cap : Nat) (xs : List Value) (hs : a.eval s = .slice (some ⟨g, off, none⟩) n cap) (h : RW w sz (.slice (some ⟨g, off, none⟩) n cap) n xs) (xv : Value) (m : Nat) (news : List Value) (hx : a.eval x = xv) (hr : Src P sz tx xv m news w) (hn : n + m ≤ 1000000)
    (hh : ∀ v' w', RW w' sz v' (n + m) (xs ++ news) → Kept (fun k => k = g) w w' → (∀ k, isAt v' k → k = g ∨ k = w.heap.size) → K (a.put o.dst v') w') :
    if Region.wanted o (yielded ops a.tmps) = true then Oper.wp P o a w K Q else E := by
  have hw : Region.wanted o (yielded ops a.tmps) = true := by simp [Region.wanted, hgd]
  rw [if_pos hw]
  exact wp_src s x t tx ho e z sz bytes ht hinfo hzs hby g off n cap xs hs h xv m news hx hr hn hh
theorem wpList_src {w : World} (hgd : o.guard = none) (s x : Operand) (t tx : TypeId) (ho : o.op = .call { callee := .builtin .append, args := #[s, x], argTypes := #[t, tx] })
    (e : TypeId) (z : Value) (sz bytes : Nat) (ht : P.underlying t = some (.slice e)) (hinfo : (P.info? e).map (fun i => (i.zero, i.size, i.bytes)) = some (some z, sz, bytes)) (hzs : z.cells.size = sz) (hby : bytes ≤ 1000)
    (g off n cap : Nat) (xs : List Value) (hs : a.eval s = .slice (some ⟨g, off, none⟩) n cap) (h : RW w sz (.slice (some ⟨g, off, none⟩) n cap) n xs) (xv : Value) (m : Nat) (news : List Value) (hx : a.eval x = xv) (hr : Src P sz tx xv m news w) (hn : n + m ≤ 1000000)
    (hh : ∀ v' w', RW w' sz v' (n + m) (xs ++ news) → Kept (fun k => k = g) w w' → (∀ k, isAt v' k → k = g ∨ k = w.heap.size) → wpList P ops Q rest (a.put o.dst v') w') : wpList P ops Q (o :: rest) a w :=
  wpList_plain hgd fun _ hK => wp_src s x t tx ho e z sz bytes ht hinfo hzs hby g off n cap xs hs h xv m news hx hr hn fun v' w' h2 h3 h4 => hK _ _ (hh v' w' h2 h3 h4)
end
end Go.Proofs.Ytmedlplgeeeodaa.Rows
namespace Go.Proofs.Ytmedlplgeeeodaa.Tail
open Go
/-- Number i or number j comes up. -/
theorem two {P : Program} {ops : Array Oper} {Q : Exit → Act → World → Prop} {md : Region.Mode} {S : World → Prop} (i j : Nat) {n : Nat} {o o2 : Oper} {fuel : Nat} {listed : Array Bool} {a : Act} {w : World} (ho : ops[i]? = some o) (ho2 : ops[j]? = some o2) (hr : decide (Region.ready md ops listed = [i, j]) = true)
    (h : ∀ K' : Act → World → Prop, Shut (∀ a w, S w → AnyT P md ops Q S n fuel (listed.setIfInBounds i true) a w → K' a w) → if Region.wanted o (yielded ops a.tmps) = true then Oper.wp P o a w K' Q else K' (a.put o.dst undef) w)
    (h2 : ∀ K' : Act → World → Prop, Shut (∀ a w, S w → AnyT P md ops Q S n fuel (listed.setIfInBounds j true) a w → K' a w) → if Region.wanted o2 (yielded ops a.tmps) = true then Oper.wp P o2 a w K' Q else K' (a.put o2.dst undef) w) :
    AnyT P md ops Q S n (fuel + 1) listed a w := by
  have hr' : Region.ready md ops listed = [i, j] := of_decide_eq_true hr
  refine ⟨fun h0 => (by rw [hr'] at h0; cases h0), fun k hk => ?_⟩
  rw [hr'] at hk
  have hk2 : k = i ∨ k = j := by simpa using hk
  rcases hk2 with rfl | rfl
  · exact wpOp_step ho fun K' hK => h K' fun a w hS hW => hK a w ⟨fun _ => hS, hW⟩
  · exact wpOp_step ho2 fun K' hK => h2 K' fun a w hS hW => hK a w ⟨fun _ => hS, hW⟩
end Go.Proofs.Ytmedlplgeeeodaa.Tail
