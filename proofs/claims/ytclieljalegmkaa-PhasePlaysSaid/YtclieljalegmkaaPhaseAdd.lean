/- The list of samples: what an append onto it, New and Add come to; no condition but the ranges in each. -/
import Derived.Test.YtclieljalegmkaaPhaseLaw
import Derived.Deep.AppendSrc
namespace Go.Proofs.Ytclieljalegmkaa.Phase
open Go.RowKit Go.Proofs.Ytclieljalegmkaa.Plain Go.Proofs.Ytclieljalegmkaa.Heap Go.Proofs.Ytclieljalegmkaa.Float Go.Proofs.Ytclieljalegmkaa.Open

/-- A list of numbers of the call's own, from block B on, not block p, wherever it begins in its block. -/
def SL (w : World) (B p : Nat) (v : Value) (L : List Int) : Prop :=
  (v = .slice none 0 0 ∧ L = []) ∨ ∃ g off cap cs t, v = .slice (some ⟨g, off, none⟩) L.length cap ∧ B ≤ g ∧ g ≠ p ∧ w.heap[g]? = some (.cells cs t (0, 0)) ∧ L.length ≤ cap ∧ off + cap ≤ cs.size ∧ ∀ j x, L[j]? = some x → cs[off + j]? = some (.int .i64 x)
/-- The block of a slice. -/
def isAt (v : Value) (g : Nat) : Prop := ∃ off n c, v = .slice (some ⟨g, off, none⟩) n c
theorem SL.kept {S : Nat → Prop} {w w' : World} {B p : Nat} {v : Value} {L : List Int} (h : SL w B p v L) (hk : Kept S w w') (hS : ∀ g, isAt v g → ¬ S g) : SL w' B p v L := by
  rcases h with h | ⟨g, off, cap, cs, t, rfl, h1, h2, h3, h4, h5, h6⟩
  · exact .inl h
  · exact .inr ⟨g, off, cap, cs, t, rfl, h1, h2, (hk.block g (Array.getElem?_eq_some_iff.1 h3).1 (hS g ⟨_, _, _, rfl⟩)).trans h3, h4, h5, h6⟩
theorem SL.shape {w : World} {B p : Nat} {v : Value} {L : List Int} (h : SL w B p v L) : ∃ A c, v = .slice A L.length c := by
  rcases h with ⟨rfl, rfl⟩ | ⟨g, off, cap, cs, t, rfl, _⟩
  · exact ⟨_, _, rfl⟩
  · exact ⟨_, _, rfl⟩
theorem info_i64 : (Try.prog.info? 2).map (fun i => (i.zero, i.size, i.bytes)) = some (some (.int .i64 0), 1, 8) := by kernel_rfl
theorem app_one {w : World} {B p : Nat} {v : Value} {L : List Int} (h : SL w B p v L) (A : Option Addr) (c : Nat) (x : Int) (hr : Rd w 1 A 1 [.int .i64 x]) (hB : B ≤ w.heap.size) (hp : p < w.heap.size) (hn : L.length ≤ 1000) (ty : TypeId) :
    ∃ v' w', (Builtin.append_ #[47, 47] ty #[v, .slice A 1 c]).run Try.prog w = .ok v' w' ∧ SL w' B p v' (L ++ [x]) ∧ Kept (isAt v) w w' := by
  obtain ⟨i, hi, hz, hs, hb⟩ := info_parts info_i64
  obtain ⟨sb, so, rfl, hlt, hcell⟩ := hr.2 (by omega)
  have hnews : ∀ j u, [Value.int .i64 x][j]? = some u → w.cell? ((⟨sb, so, none⟩ : Addr).add j) = some u := by
    intro j u hu
    have ha : (⟨sb, so, none⟩ : Addr).add j = ⟨sb, so + j, none⟩ := by unfold Addr.add; split <;> simp_all
    rw [ha]; exact hcell j u hu
  have hl1 : ([Value.int .i64 x] : List Value).length = 1 * i.size := by rw [hs]; rfl
  rcases h with ⟨rfl, rfl⟩ | ⟨g, off, cap, cs, t, rfl, h1, h2, h3, h4, h5, h6⟩
  · have hrun := run_append_nil (P := Try.prog) w 47 ty 2 i (.int .i64 0) Try.underlying47 hi hz ⟨sb, so, none⟩ 1 c [.int .i64 x] hl1 hnews (by omega) (by omega) (by rw [hb]; omega)
    have hge := grownCap_ge w 1 0 2
    refine ⟨_, _, hrun, .inr ⟨w.heap.size, 0, _, _, _, rfl, hB, by omega, heap_alloc_new w.drew _, hge, ?_, fun j y hy => ?_⟩, ((Kept.refl _ w).drew.alloc _)⟩
    · simp [size_zeroCells, Value.cells]; omega
    · rcases j with _ | j
      · simp at hy; subst hy
        rw [Array.getElem?_append_left (by simp)]; rfl
      · simp at hy
  · by_cases hroom : L.length + 1 ≤ cap
    · have hsrc := Src.ofSlice (P := Try.prog) w (size := i.size) Try.underlying47 ⟨sb, so, none⟩ 1 c [.int .i64 x] hl1 hnews (by simp [Value.oneCell'])
      have hin : off + L.length < cs.size := by omega
      have hrun := run_append_room_src (P := Try.prog) w 47 47 ty 2 i Try.underlying47 hi g off L.length cap _ 1 [.int .i64 x] hsrc hroom
        (fun j hj => by
          have : j = 0 := by simpa using hj
          subst this
          rw [hs]
          simp [World.cell?, h3, hin])
        (fun j hj => by simp [World.frozen?, h3])
      rw [hs, Nat.mul_one] at hrun
      have hsc : w.setCells g (off + L.length) [.int .i64 x] = w.setCell ⟨g, off + L.length, none⟩ (.int .i64 x) := rfl
      rw [hsc] at hrun
      refine ⟨_, _, hrun, .inr ⟨g, off, cap, cs.setIfInBounds (off + L.length) (.int .i64 x), t, by simp, h1, h2, by simp [World.setCell, Array.getElem?_modify, h3], by simpa using hroom, by simpa using h5, fun j y hy => ?_⟩, (Kept.refl _ w).setCell (.inl ⟨off, _, _, rfl⟩) _⟩
      rcases Nat.lt_or_ge j L.length with hj | hj
      · rw [List.getElem?_append_left hj] at hy
        rw [Array.getElem?_setIfInBounds_ne (by omega)]
        exact h6 j y hy
      · rw [List.getElem?_append_right hj] at hy
        have h0 : j - L.length = 0 := by
          rcases Nat.eq_zero_or_pos (j - L.length) with h | h
          · exact h
          · rw [List.getElem?_eq_none (by simp; omega)] at hy; cases hy
        rw [h0] at hy
        simp at hy
        subst hy
        have hj2 : j = L.length := by omega
        subst hj2
        simp [hin]
    · have holds : ∀ j u, (nums .i64 L)[j]? = some u → w.cell? ((⟨g, off, none⟩ : Addr).add j) = some u := by
        intro j u hu
        have ha : (⟨g, off, none⟩ : Addr).add j = ⟨g, off + j, none⟩ := by unfold Addr.add; split <;> simp_all
        rw [ha]
        simp only [nums, List.getElem?_map, Option.map_eq_some_iff] at hu
        obtain ⟨y, hy, rfl⟩ := hu
        simp only [World.cell?, h3]
        exact h6 j y hy
      have hrun := run_append_grow (P := Try.prog) w 47 ty 2 i (.int .i64 0) Try.underlying47 hi hz ⟨g, off, none⟩ L.length cap (nums .i64 L) (by simp [nums, hs]) holds ⟨sb, so, none⟩ 1 c [.int .i64 x] hl1 hnews (by omega) (by omega) (growslice_fits (by omega) (by rw [hb]; omega))
      have hge := grownCap_ge w (L.length + 1) cap 2
      refine ⟨_, _, hrun, .inr ⟨w.heap.size, 0, grownCap w (L.length + 1) cap 2, _, _, by simp, hB, by omega, heap_alloc_new w.drew _, by simpa using hge, ?_, fun j y hy => ?_⟩, ((Kept.refl _ w).drew.alloc _)⟩
      · simp [size_zeroCells, Value.cells, nums]; omega
      · rw [Nat.zero_add, Array.getElem?_append_left (by
          have := (List.getElem?_eq_some_iff.1 hy).1
          simpa [nums] using this)]
        rcases Nat.lt_or_ge j L.length with hj | hj
        · rw [List.getElem?_append_left hj] at hy
          rw [Array.getElem?_append_left (by simpa [nums] using hj)]
          simp [nums, hy]
        · rw [List.getElem?_append_right hj] at hy
          have h0 : j - L.length = 0 := by
            rcases Nat.eq_zero_or_pos (j - L.length) with h | h
            · exact h
            · rw [List.getElem?_eq_none (by simp; omega)] at hy; cases hy
          rw [h0] at hy
          simp at hy
          subst hy
          have hj2 : j = L.length := by omega
          subst hj2
          simp [nums]
section
variable {ops : Array Oper} {rest : List Oper} {o : Oper} {a : Act} {Q : Exit → Act → World → Prop}
theorem wpList_one {w : World} (hgd : o.guard = none) (s x : Operand) (ho : o.op = .call { callee := .builtin .append, args := #[s, x], argTypes := #[47, 47] })
    (B p : Nat) (v : Value) (L : List Int) (hs : a.eval s = v) (h : SL w B p v L) (A : Option Addr) (c : Nat) (y : Int) (hx : a.eval x = .slice A 1 c) (hr : Rd w 1 A 1 [.int .i64 y]) (hB : B ≤ w.heap.size) (hp : p < w.heap.size) (hn : L.length ≤ 1000)
    (hh : ∀ v' w', SL w' B p v' (L ++ [y]) → Kept (isAt v) w w' → wpList Try.prog ops Q rest (a.put o.dst v') w') : wpList Try.prog ops Q (o :: rest) a w :=
  wpList_plain hgd fun _ hK => by
    obtain ⟨v', w', hrun, h2, h3⟩ := app_one h A c y hr hB hp hn o.type
    unfold Oper.wp execOp
    simp only [ho, resolve, invoke, builtin, Sem.run_bind, Sem.run_pure, Result.andThen_ok, List.map_toArray, List.map_cons, List.map_nil, hs, hx, hrun]
    exact hK _ _ (hh v' w' h2 h3)
theorem step_one {K : Act → World → Prop} {E : Prop} {w : World} (hgd : o.guard = none) (s x : Operand) (ho : o.op = .call { callee := .builtin .append, args := #[s, x], argTypes := #[47, 47] })
    (B p : Nat) (v : Value) (L : List Int) (hs : a.eval s = v) (h : SL w B p v L) (A : Option Addr) (c : Nat) (y : Int) (hx : a.eval x = .slice A 1 c) (hr : Rd w 1 A 1 [.int .i64 y]) (hB : B ≤ w.heap.size) (hp : p < w.heap.size) (hn : L.length ≤ 1000)
    (hh : ∀ v' w', SL w' B p v' (L ++ [y]) → Kept (isAt v) w w' → K (a.put o.dst v') w') : if Region.wanted o (yielded ops a.tmps) = true then Oper.wp Try.prog o a w K Q else E := by
  have hw : Region.wanted o (yielded ops a.tmps) = true := by simp [Region.wanted, hgd]
  rw [if_pos hw]
  obtain ⟨v', w', hrun, h2, h3⟩ := app_one h A c y hr hB hp hn o.type
  unfold Oper.wp execOp
  simp only [ho, resolve, invoke, builtin, Sem.run_bind, Sem.run_pure, Result.andThen_ok, List.map_toArray, List.map_cons, List.map_nil, hs, hx, hrun]
  exact hh v' w' h2 h3
end
theorem SL.at {w : World} {B p : Nat} {v : Value} {L : List Int} (h : SL w B p v L) {g : Nat} (hg : isAt v g) : B ≤ g := by
  obtain ⟨off, n, c, e⟩ := hg
  rcases h with ⟨rfl, _⟩ | ⟨g', off', cap, cs, t, rfl, h1, _⟩
  · injection e with e; cases e
  · injection e with e
    injection e with e
    injection e with e
    omega
theorem SL.not {w : World} {B p : Nat} {v : Value} {L : List Int} (h : SL w B p v L) : ¬ isAt v p := by
  rintro ⟨off, n, c, e⟩
  rcases h with ⟨rfl, _⟩ | ⟨g, off', cap, cs, t, rfl, _, h2, _⟩
  · injection e with e; cases e
  · injection e with e
    injection e with e
    injection e with e
    exact h2 e
/-- The samples at block p. -/
def PR (w : World) (B p : Nat) (L : List Int) : Prop := ∃ v, w.heap[p]? = some (.cells #[v] 57 (0, 0)) ∧ SL w B p v L
/-- The next samples: the last 64. -/
def pstep (L : List Int) (x : Int) : List Int := if 64 < (L ++ [hold x]).length then (L ++ [hold x]).drop ((L ++ [hold x]).length - 64) else L ++ [hold x]
set_option maxHeartbeats 400000 in
theorem new_any (w : World) : Calls Try.prog 15 #[] w fun e w' => e = .returned (.pointer (some ⟨w.heap.size, 0, none⟩)) ∧ w' = w.alloc (.cells #[.slice none 0 0] 57) := by
  go_enter Try.func15, Try.ntmps15
  go_wp2
  go_ret
  exact ⟨rfl, rfl⟩
set_option maxRecDepth 10000 in
set_option maxHeartbeats 1000000 in
theorem add_walk (B p : Nat) (L : List Int) (x : Int) (w : World) (h : PR w B p L) (hB : B ≤ w.heap.size) (hBp : B ≤ p) (hl : L.length ≤ 64) : Calls Try.prog 16 #[.pointer (some ⟨p, 0, none⟩), .int .i64 x] w
    fun e w' => e = .returned (.tuple #[]) ∧ PR w' B p (pstep L x) ∧ Kept (fun g => B ≤ g) w w' := by
  obtain ⟨v, hb, hs⟩ := h
  have hp : p < w.heap.size := (Array.getElem?_eq_some_iff.1 hb).1
  have c0 : w.cell? ⟨p, 0, none⟩ = some v := by simp [World.cell?, hb]
  have f0 : w.frozen? ⟨p, 0, none⟩ = false := by simp [World.frozen?, hb]
  have HB := Lib.hid hb
  have HS := Lib.hid hs
  clear hb hs
  go_enter Try.func16, Try.ntmps16
  go_wp2_with fail
  have c1 : w.drew.cell? ⟨p, 0, none⟩ = some v := c0
  have n1 := World.new_ne w ⟨p, 0, none⟩ c0
  go_region_law
    (first
      | (go_simp; refine (held_any _ _).mono ?_; rintro e w1 ⟨rfl, rfl⟩)
      | (refine step_one (by rfl) _ _ (by rfl) B p v L (by rfl) (HS.out.kept ((Kept.refl (fun _ => False) w).alloc _).drew (fun _ _ h => h)) _ _ (hold x) (by rfl) (Rd.one w _ _) (by simp; omega) (by simp; omega) (by omega) ?_
         intro v1 w1 hs1 hk1
         obtain ⟨A1, k1, rfl⟩ := hs1.shape
         have HS1 := Lib.hid hs1
         have HK1 := Lib.hid hk1
         have hcp : w1.cell? ⟨p, 0, none⟩ = some v := (hk1.cell (p := ⟨p, 0, none⟩) (by simp; omega) HS.out.not).trans ((((Kept.refl (fun _ => False) w).alloc _).drew).cell (p := ⟨p, 0, none⟩) hp id |>.trans c0)
         have hfp : w1.frozen? ⟨p, 0, none⟩ = false := (hk1.frozen (p := ⟨p, 0, none⟩) (by simp; omega) HS.out.not).trans ((((Kept.refl (fun _ => False) w).alloc _).drew).frozen (p := ⟨p, 0, none⟩) hp id |>.trans f0)
         clear hs1 hk1))
  all_goals
    clear hcp hfp
    generalize hW : World.setCell _ ⟨p, 0, none⟩ _ = W2
    have hk01 : Kept (fun g => B ≤ g) w w1 := ((Kept.refl (isAt v) w).alloc (.cells #[.int .i64 (hold x)] 2)).drew.trans HK1.out (fun _ _ h => h) |>.mono (fun g _ h => HS.out.at h)
    have hk2 : Kept (fun g => B ≤ g) w W2 := by rw [← hW]; exact hk01.setCell (p := ⟨p, 0, none⟩) (.inl hBp) _
    have hp1 : w1.heap[p]? = some (.cells #[v] 57 (0, 0)) := (HK1.out.block p (by simp; omega) HS.out.not).trans ((((Kept.refl (fun _ => False) w).alloc (.cells #[.int .i64 (hold x)] 2)).drew.block p hp id).trans HB.out)
    have hb2 : W2.heap[p]? = some (.cells #[.slice A1 (L ++ [hold x]).length k1] 57 (0, 0)) := by
      rw [← hW]
      simp [World.setCell, Array.getElem?_modify, hp1]
    have hs2 : SL W2 B p (.slice A1 (L ++ [hold x]).length k1) (L ++ [hold x]) := by
      rw [← hW]
      refine HS1.out.kept ((Kept.refl (fun g => g = p) w1).setCell (p := ⟨p, 0, none⟩) (.inl rfl) _) (fun g hg e => ?_)
      subst e
      exact HS1.out.not hg
    have c2 : W2.cell? ⟨p, 0, none⟩ = some (.slice A1 (L ++ [hold x]).length k1) := by simp [World.cell?, hb2]
    have f2 : W2.frozen? ⟨p, 0, none⟩ = false := by simp [World.frozen?, hb2]
    have hlen : (L ++ [hold x]).length = L.length + 1 := by simp
    clear hW hp1 hk01 HS1 HK1 c0 c1
    rcases hs2 with ⟨_, hs2⟩ | ⟨g, off, cap, cs, t, he, h1, h2, h3, h4, h5, h6⟩
    · simp at hs2
    · injection he with he _ hc
      subst he hc
      rw [hlen] at c2 hb2 h4
      have HB2 := Lib.hid hb2
      have HK2 := Lib.hid hk2
      have H3 := Lib.hid h3
      have H6 := Lib.hid h6
      clear hb2 hk2 h3 h6 HB HS
      by_cases hbig : L.length < 64
      · have hst : pstep L x = L ++ [hold x] := by unfold pstep; rw [hlen, if_neg (by omega)]
        go_wp2
        refine bodyPost_end (results_none rfl _ _ _) rfl ⟨rfl, ?_, ?_⟩
        · exact ⟨_, HB2.out, .inr ⟨g, off, k1, cs, t, by rw [hlen], h1, h2, H3.out, by rw [hlen]; exact h4, h5, H6.out⟩⟩
        · exact HK2.out
      · have h64 : L.length = 64 := by omega
        go_wp2
        refine bodyPost_end (results_none rfl _ _ _) rfl ⟨rfl, ?_, ?_⟩
        · have hst : pstep L x = (L ++ [hold x]).drop 1 := by
            unfold pstep
            rw [hlen, if_pos (by omega), show L.length + 1 - 64 = 1 by omega]
          rw [hst]
          have hl2 : ((L ++ [hold x]).drop 1).length = 64 := by simp; omega
          refine ⟨_, (by have hh := HB2.out; simp [World.setCell, Array.getElem?_modify, hh]; rfl), .inr ⟨g, off + 1, k1 - 1, cs, t, by rw [hl2], h1, h2, ?_, by rw [hl2]; omega, by omega, fun j y hy => ?_⟩⟩
          · exact ((Kept.refl (fun g => g = p) W2).setCell (p := ⟨p, 0, none⟩) (.inl rfl) _).block g (Array.getElem?_eq_some_iff.1 H3.out).1 h2 |>.trans H3.out
          · rw [List.getElem?_drop] at hy
            have := H6.out (1 + j) y hy
            rwa [show off + 1 + j = off + (1 + j) by omega]
        · exact HK2.out.setCell (p := ⟨p, 0, none⟩) (.inl hBp) _
end Go.Proofs.Ytclieljalegmkaa.Phase
