/- The document's history: what New, Send, InFlight, Count, Next come to; no condition but the ranges in each. -/
import Derived.Test.YtfemmbipglpalaaHistExp
import Derived.Test.YtfemmbipglpalaaPaceRow2
import Derived.Test.YtfemmbipglpalaaWrapLaw
namespace Go.Proofs.Ytfemmbipglpalaa.History
open Go.RowKit Go.Proofs.Ytfemmbipglpalaa.Plain Go.Proofs.Ytfemmbipglpalaa.Heap Go.Proofs.Ytfemmbipglpalaa.Maps Go.Proofs.Ytfemmbipglpalaa.Rows

theorem flat3_len (l : List E3) : (flat3 l).length = l.length * 3 := by
  induction l with
  | nil => rfl
  | cons x l ih =>
    have e : flat3 (x :: l) = [.int .i64 x.1, .int .i64 x.2.1, .int .i64 x.2.2] ++ flat3 l := rfl
    rw [e, List.length_append, ih, List.length_cons]
    simp
    omega
theorem flat3_at (l : List E3) (i : Nat) (x : E3) (h : l[i]? = some x) : (flat3 l)[i * 3]? = some (.int .i64 x.1) ∧ (flat3 l)[i * 3 + 1]? = some (.int .i64 x.2.1) ∧ (flat3 l)[i * 3 + 2]? = some (.int .i64 x.2.2) := by
  induction l generalizing i with
  | nil => simp at h
  | cons y l ih =>
    have e : flat3 (y :: l) = .int .i64 y.1 :: .int .i64 y.2.1 :: .int .i64 y.2.2 :: flat3 l := rfl
    rw [e]
    cases i with
    | zero =>
      simp at h
      subst h
      exact ⟨rfl, rfl, rfl⟩
    | succ i =>
      simp at h
      have := ih i h
      rw [show (i + 1) * 3 = i * 3 + 1 + 1 + 1 by omega, show i * 3 + 1 + 1 + 1 + 1 = (i * 3 + 1) + 1 + 1 + 1 by omega, show i * 3 + 1 + 1 + 1 + 2 = (i * 3 + 2) + 1 + 1 + 1 by omega]
      simp only [List.getElem?_cons_succ]
      exact this
theorem two_kept {S : Nat → Prop} {w w' : World} {Y b j k : Nat} {u v : Value} (hk : Kept S w w') (h : w.cell? ⟨Y, j, none⟩ = some u ∧ w.cell? ⟨b, k, none⟩ = some v) (hY : S Y → False) (hb : S b → False) : w'.cell? ⟨Y, j, none⟩ = some u ∧ w'.cell? ⟨b, k, none⟩ = some v :=
  ⟨(hk.cell (p := ⟨Y, j, none⟩) (World.block_lt_of_cell? w ⟨Y, j, none⟩ h.1) hY).trans h.1, (hk.cell (p := ⟨b, k, none⟩) (World.block_lt_of_cell? w ⟨b, k, none⟩ h.2) hb).trans h.2⟩
def qcells (h : HS) (v : Value) : Array Value := #[.int .i64 h.timeout, v, .int .i64 h.next, .int .i64 h.last]
/-- The document's history at block p, its list at v. -/
structure QR (w : World) (p : Nat) (h : HS) (v : Value) : Prop where
  b : w.heap[p]? = some (.cells (qcells h v) 79 (0, 0))
  row : RW w 3 v h.l.length (flat3 h.l)
  ne : ¬ isAt v p
theorem QR.cells {w : World} {p : Nat} {h : HS} {v : Value} (hr : QR w p h v) : w.cell? ⟨p, 0, none⟩ = some (.int .i64 h.timeout) ∧ w.cell? ⟨p, 1, none⟩ = some v ∧ w.cell? ⟨p, 2, none⟩ = some (.int .i64 h.next) ∧ w.cell? ⟨p, 3, none⟩ = some (.int .i64 h.last) ∧ (∀ i, w.frozen? ⟨p, i, none⟩ = false) ∧ p < w.heap.size := by
  have hb := hr.b
  exact ⟨by simp [World.cell?, hb, qcells], by simp [World.cell?, hb, qcells], by simp [World.cell?, hb, qcells], by simp [World.cell?, hb, qcells], fun i => by simp [World.frozen?, hb], (Array.getElem?_eq_some_iff.1 hb).1⟩
theorem QR.kept {S : Nat → Prop} {w w' : World} {p : Nat} {h : HS} {v : Value} (hr : QR w p h v) (hk : Kept S w w') (hp : ¬ S p) (hv : ∀ g, isAt v g → ¬ S g) : QR w' p h v :=
  ⟨(hk.block p hr.cells.2.2.2.2.2 hp).trans hr.b, hr.row.kept hk hv, hr.ne⟩
theorem QR.run {w w' : World} {p : Nat} {h : HS} {v : Value} (hr : QR w p h v) (hk : Kept (fun _ => False) w w') : QR w' p h v := hr.kept hk id (fun _ _ => id)
theorem QR.set {w : World} {p : Nat} {h h' : HS} {v : Value} (hr : QR w p h v) (i : Nat) (u : Value) (hc : (qcells h v).setIfInBounds i u = qcells h' v) (hl : h'.l = h.l) : QR (w.setCell ⟨p, i, none⟩ u) p h' v := by
  have hk : Kept (fun g => g = p) w (w.setCell ⟨p, i, none⟩ u) := Kept.setCell (S := fun g => g = p) (Kept.refl _ _) (.inl rfl) u
  refine ⟨?_, by rw [hl]; exact hr.row.kept hk (fun g hg e => hr.ne (e ▸ hg)), hr.ne⟩
  have hb := hr.b
  simp [World.setCell, Array.getElem?_modify, hb, hc]
theorem QR.setRow {w w' : World} {p : Nat} {h h' : HS} {v u : Value} (hr : QR w p h v) (hk : Kept (fun _ => False) w w') (hu : RW w' 3 u h'.l.length (flat3 h'.l)) (hn : ∀ g, isAt u g → w.heap.size ≤ g) (hc : (qcells h v).setIfInBounds 1 u = qcells h' u) : QR (w'.setCell ⟨p, 1, none⟩ u) p h' u := by
  have hp := hr.cells.2.2.2.2.2
  have hb : w'.heap[p]? = some (.cells (qcells h v) 79 (0, 0)) := (hk.block p hp id).trans hr.b
  refine ⟨?_, hu.kept (Kept.setCell (S := fun g => g = p) (Kept.refl _ _) (p := ⟨p, 1, none⟩) (.inl rfl) u) (fun g hg e => by have := hn g hg; omega), fun e => by have := hn p e; omega⟩
  simp [World.setCell, Array.getElem?_modify, hb, hc]
set_option maxHeartbeats 400000 in
theorem rnew_bad (t : Int) (w : World) (h : t < 1 ∨ 1125899906842624 < t) : Calls Try.prog 19 #[.int .i64 t] w fun e w' => e = .returned (.tuple #[.pointer none, .int .i64 1]) ∧ w' = w := by
  have h' : t < 1 ∨ (¬ t < 1 ∧ 1125899906842624 < t) := by omega
  clear h
  rcases h' with h | ⟨h, h2⟩
  all_goals
    go_enter Try.func19, Try.ntmps19
    go_wp2
    go_ret2
    exact ⟨rfl, rfl⟩
theorem rnew_any (t : Int) (w : World) (h : ¬ t < 1) (h2 : ¬ 1125899906842624 < t) : Calls Try.prog 19 #[.int .i64 t] w
    fun e w' => ∃ p, e = .returned (.tuple #[.pointer (some ⟨p, 0, none⟩), .int .i64 0]) ∧ QR w' p ⟨t, 0, 0, 0, 0, []⟩ (.slice none 0 0) ∧ w.heap.size ≤ p ∧ Kept (fun _ => False) w w' := by
  go_enter Try.func19, Try.ntmps19
  go_wp2
  go_ret2
  have h := heap_alloc_new w (.cells (qcells ⟨t, 0, 0, 0, 0, []⟩ (.slice none 0 0)) 79)
  exact ⟨w.heap.size, rfl, ⟨h, RW.nil _ _, fun hg => by obtain ⟨_, _, _, e⟩ := hg; cases e⟩, Nat.le_refl _, (Kept.refl _ w).alloc _⟩
theorem rcount_any (p : Nat) (w : World) (h : HS) (v : Value) (hr : QR w p h v) : Calls Try.prog 27 #[.pointer (some ⟨p, 0, none⟩)] w fun e w' => e = .returned (.int .i64 (h.l.length : Int)) ∧ w = w' := by
  obtain ⟨A, c, rfl⟩ := hr.row.shape
  obtain ⟨c0, c1, c2, c3, hf, _⟩ := hr.cells
  go_enter Try.func27, Try.ntmps27
  go_wp2
  go_ret
  exact ⟨rfl, rfl⟩
theorem rnext_any (p : Nat) (w : World) (h : HS) (v : Value) (hr : QR w p h v) : Calls Try.prog 28 #[.pointer (some ⟨p, 0, none⟩)] w fun e w' => e = .returned (.int .i64 h.next) ∧ w = w' := by
  obtain ⟨c0, c1, c2, c3, hf, _⟩ := hr.cells
  go_enter Try.func28, Try.ntmps28
  go_wp2
  go_ret
  exact ⟨rfl, rfl⟩
/-- An element of the list, where it lies. -/
theorem QR.at {w : World} {p : Nat} {h : HS} {A : Option Addr} {n c : Nat} (hr : QR w p h (.slice A n c)) {i : Nat} {x : E3} (hx : h.l[i]? = some x) : ∃ g off, A = some ⟨g, off, none⟩ ∧ g < w.heap.size ∧ w.cell? ⟨g, off + i * 3, none⟩ = some (.int .i64 x.1) ∧ w.cell? ⟨g, off + i * 3 + 1, none⟩ = some (.int .i64 x.2.1) ∧ w.cell? ⟨g, off + i * 3 + 2, none⟩ = some (.int .i64 x.2.2) := by
  have hi := (List.getElem?_eq_some_iff.1 hx).1
  obtain ⟨A', c', e⟩ := hr.row.shape
  injection e with e1 e2 e3
  subst e2
  obtain ⟨g, off, hA, hg, hc⟩ := hr.row.rd.2 (by omega)
  obtain ⟨f0, f1, f2⟩ := flat3_at _ _ _ hx
  exact ⟨g, off, hA, hg, hc _ _ f0, hc _ _ f1, hc _ _ f2⟩
theorem sumS_take {l : List E3} {i : Nat} {x : E3} (h : l[i]? = some x) : sumS (l.take (i + 1)) = sumS (l.take i) + x.2.1 := by
  obtain ⟨hi, rfl⟩ := List.getElem?_eq_some_iff.1 h
  rw [List.take_succ_eq_append_getElem hi]
  unfold sumS
  rw [List.map_append, List.sum_append]
  simp
theorem measI (n : Int) (k : Nat) (h : (k : Int) < n) : (n - (intOf (.int .i64 ((k : Int) + 1)))).toNat < (n - intOf (.int .i64 (k : Int))).toNat := by simp [intOf]; omega
set_option maxHeartbeats 1000000 in
theorem rflying_any (p : Nat) (w : World) (h : HS) (v : Value) (hr : QR w p h v) (ok : okH h) : Calls Try.prog 26 #[.pointer (some ⟨p, 0, none⟩)] w fun e w' => e = .returned (.int .i64 h.flying) ∧ w = w' := by
  obtain ⟨A, c, rfl⟩ := hr.row.shape
  obtain ⟨c0, c1, c2, c3, hf, _⟩ := hr.cells
  have HR := Lib.hid hr
  have OK := Lib.hid ok
  obtain ⟨L, hL⟩ : ∃ L, L = h.l.length := ⟨_, rfl⟩
  have hlen := ok.len
  rw [← hL] at c1 hlen
  have HL := Lib.hid hL
  have hlen' : (L : Int) ≤ 1024 := by omega
  clear hr ok hL c0 c2 c3 hf hlen
  go_enter Try.func26, Try.ntmps26
  go_wp2_with fail
  go_loopw [3, 4] (fun sv iv wx => ∃ i : Nat, (i : Int) ≤ (L : Int) ∧ iv = .int .i64 (i : Int) ∧ sv = .int .i64 (sumS (h.l.take i)) ∧ wx = w) (fun _ iv _ => ((L : Int) - intOf iv).toNat)
  case atStart => exact ⟨0, by omega, rfl, by simp [sumS], rfl⟩
  case round =>
    obtain ⟨i, hi, rfl, rfl, rfl⟩ := hrel
    have hb := sumS_bd (l := h.l.take i) (fun x hx => OK.out.size x (List.mem_of_mem_take hx))
    have hti : (h.l.take i).length ≤ i := List.length_take_le _ _
    obtain ⟨D, hD⟩ : ∃ D, D = sumS (h.l.take i) := ⟨_, rfl⟩
    rw [← hD] at hb
    rw [← hD]
    have HD := Lib.hid hD
    obtain ⟨b0, b1⟩ := hb
    clear hD
    by_cases hil : (i : Int) < (L : Int)
    · obtain ⟨x, hx⟩ : ∃ x, h.l[i]? = some x := ⟨_, List.getElem?_eq_getElem (by rw [← HL.out]; omega)⟩
      obtain ⟨g, off, rfl, hg, x0, x1, x2⟩ := HR.out.at hx
      obtain ⟨z0, z1⟩ := OK.out.size x (List.mem_of_getElem? hx)
      have HS := Lib.hid (sumS_take hx)
      obtain ⟨y1, y2, y3⟩ := x
      simp only at x0 x1 x2 z0 z1
      clear hx
      go_wp2_with fail
      go_roundw
      case rel => exact ⟨i + 1, by omega, by go_num, by rw [HS.out, ← HD.out], trivial⟩
      case measure => exact measI L i hil
    · have e4 : i = L := by omega
      have hall : D = h.flying := by rw [HD.out, e4, HL.out, List.take_length]; exact OK.out.sum.symm
      subst hall
      go_wp2_with fail
      go_ret
      exact ⟨rfl, rfl⟩
theorem rsend_bad (size at_ : Int) (p : Nat) (w : World) (h : sendBad size at_) : Calls Try.prog 20 #[.pointer (some ⟨p, 0, none⟩), .int .i64 size, .int .i64 at_] w fun e w' => e = .returned (.tuple #[.int .i64 0, .int .i64 1]) ∧ w = w' := by
  have h' : size < 0 ∨ (¬ size < 0 ∧ 1500 < size) ∨ (¬ size < 0 ∧ ¬ 1500 < size ∧ at_ < 0) ∨ (¬ size < 0 ∧ ¬ 1500 < size ∧ ¬ at_ < 0 ∧ 1125899906842624 < at_) := by unfold sendBad at h; omega
  clear h
  rcases h' with h | ⟨h, h2⟩ | ⟨h, h2, h3⟩ | ⟨h, h2, h3, h4⟩
  all_goals
    go_enter Try.func20, Try.ntmps20
    go_wp2
    go_ret2
    exact ⟨rfl, rfl⟩
theorem rsend_early (size at_ : Int) (p : Nat) (w : World) (h : HS) (v : Value) (hr : QR w p h v) (hb : ¬ sendBad size at_) (hl : at_ < h.last) : Calls Try.prog 20 #[.pointer (some ⟨p, 0, none⟩), .int .i64 size, .int .i64 at_] w fun e w' => e = .returned (.tuple #[.int .i64 0, .int .i64 130]) ∧ w = w' := by
  obtain ⟨c0, c1, c2, c3, hf, _⟩ := hr.cells
  have b1 : ¬ size < 0 := fun e => hb (.inl e)
  have b2 : ¬ 1500 < size := fun e => hb (.inr (.inl e))
  have b3 : ¬ at_ < 0 := fun e => hb (.inr (.inr (.inl e)))
  have b4 : ¬ 1125899906842624 < at_ := fun e => hb (.inr (.inr (.inr e)))
  clear hr hf hb
  go_enter Try.func20, Try.ntmps20
  go_wp2
  go_ret2
  exact ⟨rfl, rfl⟩
theorem rsend_full (size at_ : Int) (p : Nat) (w : World) (h : HS) (v : Value) (hr : QR w p h v) (hb : ¬ sendBad size at_) (hl : ¬ at_ < h.last) (hn : h.l.length = 1024) : Calls Try.prog 20 #[.pointer (some ⟨p, 0, none⟩), .int .i64 size, .int .i64 at_] w fun e w' => e = .returned (.tuple #[.int .i64 0, .int .i64 250]) ∧ w = w' := by
  obtain ⟨A, c, rfl⟩ := hr.row.shape
  obtain ⟨c0, c1, c2, c3, hf, _⟩ := hr.cells
  rw [hn] at c1
  have b1 : ¬ size < 0 := fun e => hb (.inl e)
  have b2 : ¬ 1500 < size := fun e => hb (.inr (.inl e))
  have b3 : ¬ at_ < 0 := fun e => hb (.inr (.inr (.inl e)))
  have b4 : ¬ 1125899906842624 < at_ := fun e => hb (.inr (.inr (.inr e)))
  clear hr hf hb hn
  go_enter Try.func20, Try.ntmps20
  go_wp2
  go_ret2
  exact ⟨rfl, rfl⟩
theorem rsend_end {w X w3 : World} {p L cap cap3 : Nat} {h : HS} {size at_ nx : Int} {A A3 : Option Addr} (hr : QR X p { h with last := at_ } (.slice A h.l.length cap)) (hnx : nx = h.next) (hL : L = h.l.length) (hkx : Kept (fun g => g = p) w X) (hk : Kept (fun _ => False) X w3)
    (hn : ∀ g, isAt (.slice A3 (L + 1) cap3) g → X.heap.size ≤ g) (hr3 : RW w3 3 (.slice A3 (L + 1) cap3) (L + 1) (flat3 h.l ++ [.int .i64 nx, .int .i64 size, .int .i64 at_])) :
    ∃ u, QR ((w3.setCell ⟨p, 1, none⟩ (.slice A3 (L + 1) cap3)).setCell ⟨p, 2, none⟩ (.int .i64 (nx + 1))) p { h with next := nx + 1, last := at_, flying := h.flying + size, l := h.l ++ [(nx, size, at_)] } u ∧ (∀ g, isAt u g → w.heap.size ≤ g) ∧ Kept (fun g => g = p) w ((w3.setCell ⟨p, 1, none⟩ (.slice A3 (L + 1) cap3)).setCell ⟨p, 2, none⟩ (.int .i64 (nx + 1))) := by
  refine ⟨_, QR.set (h := { h with last := at_, flying := h.flying + size, l := h.l ++ [(nx, size, at_)] }) (QR.setRow hr hk ?_ hn ?_) 2 _ ?_ rfl, fun g hg => Nat.le_trans hkx.size (hn g hg), ?_⟩
  · have e : flat3 (h.l ++ [(nx, size, at_)]) = flat3 h.l ++ [.int .i64 nx, .int .i64 size, .int .i64 at_] := by rw [flat3_append]; rfl
    show RW w3 3 _ (h.l ++ [(nx, size, at_)]).length _
    rw [e, List.length_append, List.length_singleton, ← hL]
    exact hr3
  · subst hnx; rfl
  · rfl
  · refine Kept.setCell (S := fun g => g = p) (Kept.setCell (S := fun g => g = p) (Kept.trans (S := fun g => g = p) hkx hk (fun _ _ e => e.elim)) (p := ⟨p, 1, none⟩) (.inl rfl) _) (p := ⟨p, 2, none⟩) (.inl rfl) _
set_option linter.unusedSimpArgs false in
set_option maxRecDepth 10000 in
set_option maxHeartbeats 4000000 in
theorem rsend_good (size at_ : Int) (p : Nat) (w : World) (h : HS) (v : Value) (hr : QR w p h v) (hb : ¬ sendBad size at_) (hl : ¬ at_ < h.last) (hn : ¬ h.l.length = 1024) (hlen : h.l.length ≤ 1024) (hn0 : 0 ≤ h.next) (hn1 : h.next ≤ 1125899906842624) :
    Calls Try.prog 20 #[.pointer (some ⟨p, 0, none⟩), .int .i64 size, .int .i64 at_] w fun e w' => e = .returned (.tuple #[.int .i64 (h.next % 65536), .int .i64 0]) ∧
      ∃ u, QR w' p { h with next := h.next + 1, last := at_, flying := h.flying + size, l := h.l ++ [(h.next, size, at_)] } u ∧ (∀ g, isAt u g → w.heap.size ≤ g) ∧ Kept (fun g => g = p) w w' := by
  obtain ⟨A, cap, rfl⟩ := hr.row.shape
  obtain ⟨c0, c1, c2, c3, hf, hp⟩ := hr.cells
  have b1 : ¬ size < 0 := fun e => hb (.inl e)
  have b2 : ¬ 1500 < size := fun e => hb (.inr (.inl e))
  have b3 : ¬ at_ < 0 := fun e => hb (.inr (.inr (.inl e)))
  have b4 : ¬ 1125899906842624 < at_ := fun e => hb (.inr (.inr (.inr e)))
  obtain ⟨L, hL⟩ : ∃ L, L = h.l.length := ⟨_, rfl⟩
  obtain ⟨nx, hnx⟩ : ∃ nx, nx = h.next := ⟨_, rfl⟩
  rw [← hnx] at c2 hn0 hn1
  rw [← hL] at c1 hn hlen
  rw [← hnx]
  have hne : ((L : Int) == 1024) = false := by simp; omega
  have hL3 : L ≤ 1000000 := by omega
  have HR := Lib.hid hr
  have HL := Lib.hid hL
  have HX := Lib.hid hnx
  clear hr hb hL hnx hlen hn c0
  go_enter Try.func20, Try.ntmps20
  go_upto_region 8 with fail
  generalize hX : World.setCell w ⟨p, 3, none⟩ _ = X
  have HRX := Lib.hid (show QR X p { h with last := at_ } (.slice A h.l.length cap) by rw [← hX]; exact HR.out.set 3 _ rfl rfl)
  have HKX := Lib.hid (show Kept (fun g => g = p) w X by rw [← hX]; exact Kept.setCell (S := fun g => g = p) (Kept.refl _ _) (p := ⟨p, 3, none⟩) (.inl rfl) _)
  clear hX c1 c2 c3 hf
  obtain ⟨d0, d1, d2, d3, df, _⟩ := HRX.out.cells
  have HSX : X.drew.cell? ⟨p, 1, none⟩ = some (.slice A L cap) ∧ X.drew.cell? ⟨p, 2, none⟩ = some (.int .i64 nx) := by rw [HL.out, HX.out]; exact ⟨d1, d2⟩
  have HDF := Lib.hid df
  clear d0 d1 d2 d3 df
  have HRW := Lib.hid (fun (Y : World) (hk : Kept (fun _ => False) X Y) => show RW Y 3 (.slice A L cap) L (flat3 h.l) from by
    have h1 := (HRX.out.run hk).row
    rw [HL.out]
    exact h1)
  have HS := HSX
  refine Tail.start 17 (fun w' => w'.cell? ⟨p, 1, none⟩ = some (.slice A L cap) ∧ w'.cell? ⟨p, 2, none⟩ = some (.int .i64 nx)) (by kernel_rfl) ?_
  refine Tail.take 0 rfl (by kernel_rfl) (fun _ _ _ h => h) (by rfl) HS (fun w hSw => by (try dsimp only at hSw); go_simp; (try with_reducible rfl)) ?_
  try simp only [Act.put, List.setIfInBounds_toArray, List.set_cons_zero, List.set_cons_succ]
  refine Tail.take 2 rfl (by kernel_rfl) (fun _ _ _ h => h) (by rfl) HS (fun w hSw => by (try dsimp only at hSw); go_simp; (try with_reducible rfl)) ?_
  try simp only [Act.put, List.setIfInBounds_toArray, List.set_cons_zero, List.set_cons_succ]
  refine Tail.take 3 rfl (by kernel_rfl) (fun _ _ _ h => h) (by rfl) HS (fun w hSw => by (try dsimp only at hSw); go_simp; (try with_reducible rfl)) ?_
  try simp only [Act.put, List.setIfInBounds_toArray, List.set_cons_zero, List.set_cons_succ]
  refine Tail.take 4 rfl (by kernel_rfl) (fun _ _ _ h => h) (by rfl) HS (fun w hSw => by (try dsimp only at hSw); go_simp; (try with_reducible rfl)) ?_
  try simp only [Act.put, List.setIfInBounds_toArray, List.set_cons_zero, List.set_cons_succ]
  refine Tail.take 5 rfl (by kernel_rfl) (fun _ _ _ h => h) (by rfl) HS (fun w hSw => by (try dsimp only at hSw); go_simp; (try with_reducible rfl)) ?_
  try simp only [Act.put, List.setIfInBounds_toArray, List.set_cons_zero, List.set_cons_succ]
  refine Tail.take 7 rfl (by kernel_rfl) (fun _ _ _ h => h) (by rfl) HS (fun w hSw => by (try dsimp only at hSw); go_simp; (try with_reducible rfl)) ?_
  try simp only [Act.put, List.setIfInBounds_toArray, List.set_cons_zero, List.set_cons_succ]
  refine Tail.take 8 rfl (by kernel_rfl) (fun _ _ _ h => h) (by rfl) HS (fun w hSw => by (try dsimp only at hSw); go_simp; (try with_reducible rfl)) ?_
  try simp only [Act.put, List.setIfInBounds_toArray, List.set_cons_zero, List.set_cons_succ]
  refine Tail.take 9 rfl (by kernel_rfl) (fun _ _ _ h => h) (by rfl) HS (fun w hSw => by (try dsimp only at hSw); go_simp; (try with_reducible rfl)) ?_
  try simp only [Act.put, List.setIfInBounds_toArray, List.set_cons_zero, List.set_cons_succ]
  refine Tail.take 10 rfl (by kernel_rfl) (fun _ _ _ h => h) (by rfl) HS (fun w hSw => by (try dsimp only at hSw); go_simp; (try with_reducible rfl)) ?_
  try simp only [Act.put, List.setIfInBounds_toArray, List.set_cons_zero, List.set_cons_succ]
  refine Tail.take 11 rfl (by kernel_rfl) (fun _ _ _ h => h) (by rfl) HS (fun w hSw => by (try dsimp only at hSw); go_simp; (try with_reducible rfl)) ?_
  try simp only [Act.put, List.setIfInBounds_toArray, List.set_cons_zero, List.set_cons_succ]
  refine Tail.take 12 rfl (by kernel_rfl) (fun _ _ _ h => h) (by rfl) HS (fun w hSw => by (try dsimp only at hSw); go_simp; (try with_reducible rfl)) ?_
  try simp only [Act.put, List.setIfInBounds_toArray, List.set_cons_zero, List.set_cons_succ]
  refine Tail.take 13 rfl (by kernel_rfl) (fun _ _ _ h => h) (by rfl) HS (fun w hSw => by (try dsimp only at hSw); go_simp; (try with_reducible rfl)) ?_
  try simp only [Act.put, List.setIfInBounds_toArray, List.set_cons_zero, List.set_cons_succ]
  refine Tail.two 1 14 rfl rfl (by kernel_rfl) (fun K hK => ?_) (fun K hK => ?_)
  · go_simp
    have HS : (X.alloc (.cells #[] 38)).drew.cell? ⟨p, 1, none⟩ = some (.slice A L cap) ∧ (X.alloc (.cells #[] 38)).drew.cell? ⟨p, 2, none⟩ = some (.int .i64 nx) := two_kept ((Kept.refl (fun _ => False) X.drew).alloc _) HSX (fun h => h) (fun h => h)
    refine hK.out _ _ HS ?_
    clear hK K
    try simp only [Act.put, List.setIfInBounds_toArray, List.set_cons_zero, List.set_cons_succ]
    have HE0 := Lib.hid (show RW (X.alloc (.cells #[] 38)).drew 3 (.slice (some ⟨X.heap.size, 0, none⟩) 0 0) 0 [] from RW.kept (RW.fresh0 X _ 3) (Kept.refl (fun _ => False) _).drew (fun _ _ => id))
    refine Tail.two 6 14 rfl rfl (by kernel_rfl) (fun K hK => ?_) (fun K hK => ?_)
    · refine step_src rfl (.tmp 39) (.tmp 43) 34 34 rfl 38 (.agg #[.int .i64 0, .int .i64 0, .int .i64 0]) 3 24 Try.underlying34 info_sent rfl (by omega) (X.heap.size) 0 0 0 [] rfl HE0.out (.slice A L cap) L (flat3 h.l) rfl (RW.src Try.underlying34 (HRW.out _ (((Kept.refl (fun _ => False) X).alloc _).drew)) (flat3_one _)) (by omega) ?_
      intro v1 w2 hr1 hk1 hn1
      simp only [Nat.zero_add, List.nil_append] at hr1
      obtain ⟨A1, cap1, rfl⟩ := hr1.shape
      have HK2 := Lib.hid (show Kept (fun _ => False) X w2 from Kept.trans (S := fun _ => False) (((Kept.refl (fun _ => False) X).alloc _).drew) hk1 (fun g hg e => by omega))
      have HN2 := Lib.hid (show ∀ g, isAt (.slice A1 L cap1) g → X.heap.size ≤ g from fun g hg => by have h1 := hn1 g hg; simp at h1; omega)
      have HR2 := Lib.hid (show RW w2 3 (.slice A1 L cap1) L (flat3 h.l) from hr1)
      have HS : w2.cell? ⟨p, 1, none⟩ = some (.slice A L cap) ∧ w2.cell? ⟨p, 2, none⟩ = some (.int .i64 nx) := two_kept HK2.out HSX (fun h => h) (fun h => h)
      clear hr1 hk1 hn1
      refine hK.out _ _ HS ?_
      clear hK K
      try simp only [Act.put, List.setIfInBounds_toArray, List.set_cons_zero, List.set_cons_succ]
      refine Tail.one 14 rfl (by kernel_rfl) (fun K hK => ?_)
      go_simp
      have HS : (w2.alloc (.cells #[.int .i64 nx, .int .i64 size, .int .i64 at_] 38)).cell? ⟨p, 1, none⟩ = some (.slice A L cap) ∧ (w2.alloc (.cells #[.int .i64 nx, .int .i64 size, .int .i64 at_] 38)).cell? ⟨p, 2, none⟩ = some (.int .i64 nx) := two_kept (HK2.out.alloc _) HSX (fun h => h) (fun h => h)
      refine hK.out _ _ HS ?_
      clear hK K
      try simp only [Act.put, List.setIfInBounds_toArray, List.set_cons_zero, List.set_cons_succ]
      have HRD := Lib.hid (show Rd (w2.alloc (.cells #[.int .i64 nx, .int .i64 size, .int .i64 at_] 38)) 3 (some ⟨w2.heap.size, 0, none⟩) 1 [.int .i64 nx, .int .i64 size, .int .i64 at_] from Rd.block (w := w2.alloc (.cells #[.int .i64 nx, .int .i64 size, .int .i64 at_] 38)) (heap_alloc_new w2 _) (by simp))
      refine Tail.one 15 rfl (by kernel_rfl) (fun K hK => ?_)
      refine step_row rfl (.tmp 44) (.tmp 52) 34 rfl 38 (.agg #[.int .i64 0, .int .i64 0, .int .i64 0]) 3 24 Try.underlying34 info_sent rfl (by omega) (.slice A1 L cap1) L (flat3 h.l) rfl (HR2.out.kept ((Kept.refl (fun _ => False) _).alloc _) (fun _ _ => id)) _ _ [.int .i64 nx, .int .i64 size, .int .i64 at_] rfl HRD.out (by simp [Value.oneCell']) (by omega) ?_
      intro v3 w3 hr3 hk3 hn3
      obtain ⟨A3, cap3, rfl⟩ := hr3.shape
      have HK3 := Lib.hid (show Kept (fun _ => False) X w3 from Kept.trans (S := fun _ => False) (HK2.out.trans ((Kept.refl (fun _ => False) _).alloc _) (fun _ _ h => h)) hk3 (fun g hg e => by have := HN2.out g e; omega))
      have HN3 := Lib.hid (show ∀ g, isAt (.slice A3 (L + 1) cap3) g → X.heap.size ≤ g from fun g hg => by
        have h0 := HK2.out.size
        rcases hn3 g hg with h1 | h1
        · exact HN2.out g h1
        · (try simp at h1); omega)
      have HR3 := Lib.hid hr3
      have HS : w3.cell? ⟨p, 1, none⟩ = some (.slice A L cap) ∧ w3.cell? ⟨p, 2, none⟩ = some (.int .i64 nx) := two_kept HK3.out HSX (fun h => h) (fun h => h)
      clear hr3 hk3 hn3
      refine hK.out _ _ HS ?_
      clear hK K
      try simp only [Act.put, List.setIfInBounds_toArray, List.set_cons_zero, List.set_cons_succ]
      refine Tail.take 16 rfl (by kernel_rfl) (fun _ _ _ h => h) (by rfl) HS (fun w hSw => by (try dsimp only at hSw); go_simp; (try with_reducible rfl)) ?_
      try simp only [Act.put, List.setIfInBounds_toArray, List.set_cons_zero, List.set_cons_succ]
      refine Tail.tail 17 rfl (by kernel_rfl) ?_
      simp only [List.drop_succ_cons, List.drop_zero]
      obtain ⟨_, z2⟩ := HS
      have zf1 : w3.frozen? ⟨p, 1, none⟩ = false := (HK3.out.frozen (p := ⟨p, 1, none⟩) (Nat.lt_of_lt_of_le hp HKX.out.size) id).trans (HDF.out 1)
      have zf2 : w3.frozen? ⟨p, 2, none⟩ = false := (HK3.out.frozen (p := ⟨p, 2, none⟩) (Nat.lt_of_lt_of_le hp HKX.out.size) id).trans (HDF.out 2)
      go_wp2_with (first | (go_at_call 33; refine (Fn.ref_cut_yes nx 16 65536 _ (by omega) (by omega) rfl (by omega) (by omega)).mono ?_; rintro e w4 ⟨rfl, rfl⟩))
      go_ret2
      exact ⟨rfl, rsend_end HRX.out HX.out HL.out HKX.out HK3.out HN3.out HR3.out⟩
    · go_simp
      have HS : ((X.alloc (.cells #[] 38)).alloc (.cells #[.int .i64 nx, .int .i64 size, .int .i64 at_] 38)).drew.cell? ⟨p, 1, none⟩ = some (.slice A L cap) ∧ ((X.alloc (.cells #[] 38)).alloc (.cells #[.int .i64 nx, .int .i64 size, .int .i64 at_] 38)).drew.cell? ⟨p, 2, none⟩ = some (.int .i64 nx) := two_kept (((Kept.refl (fun _ => False) X.drew).alloc _).alloc _) HSX (fun h => h) (fun h => h)
      refine hK.out _ _ HS ?_
      clear hK K
      try simp only [Act.put, List.setIfInBounds_toArray, List.set_cons_zero, List.set_cons_succ]
      have HE0 := Lib.hid (show RW ((X.alloc (.cells #[] 38)).alloc (.cells #[.int .i64 nx, .int .i64 size, .int .i64 at_] 38)).drew 3 (.slice (some ⟨X.heap.size, 0, none⟩) 0 0) 0 [] from RW.kept (RW.fresh0 X _ 3) ((Kept.refl (fun _ => False) _).alloc _).drew (fun _ _ => id))
      have HRD := Lib.hid (show Rd ((X.alloc (.cells #[] 38)).alloc (.cells #[.int .i64 nx, .int .i64 size, .int .i64 at_] 38)).drew 3 (some ⟨X.heap.size + 1, 0, none⟩) 1 [.int .i64 nx, .int .i64 size, .int .i64 at_] from by have h := Rd.block (w := ((X.alloc (.cells #[] 38)).alloc (.cells #[.int .i64 nx, .int .i64 size, .int .i64 at_] 38)).drew) (heap_alloc_new (X.alloc (.cells #[] 38)) (.cells #[.int .i64 nx, .int .i64 size, .int .i64 at_] 38)) (sz := 3) (n := 1) (by simp); simpa using h)
      refine Tail.one 6 rfl (by kernel_rfl) (fun K hK => ?_)
      refine step_src rfl (.tmp 39) (.tmp 43) 34 34 rfl 38 (.agg #[.int .i64 0, .int .i64 0, .int .i64 0]) 3 24 Try.underlying34 info_sent rfl (by omega) (X.heap.size) 0 0 0 [] rfl HE0.out (.slice A L cap) L (flat3 h.l) rfl (RW.src Try.underlying34 (HRW.out _ ((((Kept.refl (fun _ => False) X).alloc _).alloc _).drew)) (flat3_one _)) (by omega) ?_
      intro v1 w2 hr1 hk1 hn1
      simp only [Nat.zero_add, List.nil_append] at hr1
      obtain ⟨A1, cap1, rfl⟩ := hr1.shape
      have HK2 := Lib.hid (show Kept (fun _ => False) X w2 from Kept.trans (S := fun _ => False) ((((Kept.refl (fun _ => False) X).alloc _).alloc _).drew) hk1 (fun g hg e => by omega))
      have HN2 := Lib.hid (show ∀ g, isAt (.slice A1 L cap1) g → X.heap.size ≤ g from fun g hg => by have h1 := hn1 g hg; simp at h1; omega)
      have HR2 := Lib.hid (show RW w2 3 (.slice A1 L cap1) L (flat3 h.l) from hr1)
      have HRD2 := Lib.hid (HRD.out.kept hk1 (fun b off e => by injection e with e; injection e with e; omega))
      have HS : w2.cell? ⟨p, 1, none⟩ = some (.slice A L cap) ∧ w2.cell? ⟨p, 2, none⟩ = some (.int .i64 nx) := two_kept HK2.out HSX (fun h => h) (fun h => h)
      clear hr1 hk1 hn1
      refine hK.out _ _ HS ?_
      clear hK K
      try simp only [Act.put, List.setIfInBounds_toArray, List.set_cons_zero, List.set_cons_succ]
      refine Tail.one 15 rfl (by kernel_rfl) (fun K hK => ?_)
      refine step_row rfl (.tmp 44) (.tmp 52) 34 rfl 38 (.agg #[.int .i64 0, .int .i64 0, .int .i64 0]) 3 24 Try.underlying34 info_sent rfl (by omega) (.slice A1 L cap1) L (flat3 h.l) rfl (HR2.out.kept (Kept.refl (fun _ => False) _) (fun _ _ => id)) _ _ [.int .i64 nx, .int .i64 size, .int .i64 at_] rfl HRD2.out (by simp [Value.oneCell']) (by omega) ?_
      intro v3 w3 hr3 hk3 hn3
      obtain ⟨A3, cap3, rfl⟩ := hr3.shape
      have HK3 := Lib.hid (show Kept (fun _ => False) X w3 from Kept.trans (S := fun _ => False) (HK2.out.trans (Kept.refl (fun _ => False) _) (fun _ _ h => h)) hk3 (fun g hg e => by have := HN2.out g e; omega))
      have HN3 := Lib.hid (show ∀ g, isAt (.slice A3 (L + 1) cap3) g → X.heap.size ≤ g from fun g hg => by
        have h0 := HK2.out.size
        rcases hn3 g hg with h1 | h1
        · exact HN2.out g h1
        · (try simp at h1); omega)
      have HR3 := Lib.hid hr3
      have HS : w3.cell? ⟨p, 1, none⟩ = some (.slice A L cap) ∧ w3.cell? ⟨p, 2, none⟩ = some (.int .i64 nx) := two_kept HK3.out HSX (fun h => h) (fun h => h)
      clear hr3 hk3 hn3
      refine hK.out _ _ HS ?_
      clear hK K
      try simp only [Act.put, List.setIfInBounds_toArray, List.set_cons_zero, List.set_cons_succ]
      refine Tail.take 16 rfl (by kernel_rfl) (fun _ _ _ h => h) (by rfl) HS (fun w hSw => by (try dsimp only at hSw); go_simp; (try with_reducible rfl)) ?_
      try simp only [Act.put, List.setIfInBounds_toArray, List.set_cons_zero, List.set_cons_succ]
      refine Tail.tail 17 rfl (by kernel_rfl) ?_
      simp only [List.drop_succ_cons, List.drop_zero]
      obtain ⟨_, z2⟩ := HS
      have zf1 : w3.frozen? ⟨p, 1, none⟩ = false := (HK3.out.frozen (p := ⟨p, 1, none⟩) (Nat.lt_of_lt_of_le hp HKX.out.size) id).trans (HDF.out 1)
      have zf2 : w3.frozen? ⟨p, 2, none⟩ = false := (HK3.out.frozen (p := ⟨p, 2, none⟩) (Nat.lt_of_lt_of_le hp HKX.out.size) id).trans (HDF.out 2)
      go_wp2_with (first | (go_at_call 33; refine (Fn.ref_cut_yes nx 16 65536 _ (by omega) (by omega) rfl (by omega) (by omega)).mono ?_; rintro e w4 ⟨rfl, rfl⟩))
      go_ret2
      exact ⟨rfl, rsend_end HRX.out HX.out HL.out HKX.out HK3.out HN3.out HR3.out⟩
  · go_simp
    have HS : (X.alloc (.cells #[.int .i64 nx, .int .i64 size, .int .i64 at_] 38)).drew.cell? ⟨p, 1, none⟩ = some (.slice A L cap) ∧ (X.alloc (.cells #[.int .i64 nx, .int .i64 size, .int .i64 at_] 38)).drew.cell? ⟨p, 2, none⟩ = some (.int .i64 nx) := two_kept ((Kept.refl (fun _ => False) X.drew).alloc _) HSX (fun h => h) (fun h => h)
    refine hK.out _ _ HS ?_
    clear hK K
    try simp only [Act.put, List.setIfInBounds_toArray, List.set_cons_zero, List.set_cons_succ]
    refine Tail.one 1 rfl (by kernel_rfl) (fun K hK => ?_)
    go_simp
    have HS : ((X.alloc (.cells #[.int .i64 nx, .int .i64 size, .int .i64 at_] 38)).alloc (.cells #[] 38)).drew.cell? ⟨p, 1, none⟩ = some (.slice A L cap) ∧ ((X.alloc (.cells #[.int .i64 nx, .int .i64 size, .int .i64 at_] 38)).alloc (.cells #[] 38)).drew.cell? ⟨p, 2, none⟩ = some (.int .i64 nx) := two_kept (((Kept.refl (fun _ => False) X.drew).alloc _).alloc _) HSX (fun h => h) (fun h => h)
    refine hK.out _ _ HS ?_
    clear hK K
    try simp only [Act.put, List.setIfInBounds_toArray, List.set_cons_zero, List.set_cons_succ]
    have HE0 := Lib.hid (show RW ((X.alloc (.cells #[.int .i64 nx, .int .i64 size, .int .i64 at_] 38)).alloc (.cells #[] 38)).drew 3 (.slice (some ⟨X.heap.size + 1, 0, none⟩) 0 0) 0 [] from by have h := RW.kept (RW.fresh0 (X.alloc (.cells #[.int .i64 nx, .int .i64 size, .int .i64 at_] 38)) 38 3) (Kept.refl (fun _ => False) _).drew (fun _ _ => id); simpa using h)
    have HRD := Lib.hid (show Rd ((X.alloc (.cells #[.int .i64 nx, .int .i64 size, .int .i64 at_] 38)).alloc (.cells #[] 38)).drew 3 (some ⟨X.heap.size, 0, none⟩) 1 [.int .i64 nx, .int .i64 size, .int .i64 at_] from (Rd.block (w := X.alloc (.cells #[.int .i64 nx, .int .i64 size, .int .i64 at_] 38)) (heap_alloc_new X (.cells #[.int .i64 nx, .int .i64 size, .int .i64 at_] 38)) (sz := 3) (n := 1) (by simp)).kept ((Kept.refl (fun _ => False) _).alloc _).drew (fun _ _ _ => id))
    refine Tail.one 6 rfl (by kernel_rfl) (fun K hK => ?_)
    refine step_src rfl (.tmp 39) (.tmp 43) 34 34 rfl 38 (.agg #[.int .i64 0, .int .i64 0, .int .i64 0]) 3 24 Try.underlying34 info_sent rfl (by omega) ((X.heap.size + 1)) 0 0 0 [] rfl HE0.out (.slice A L cap) L (flat3 h.l) rfl (RW.src Try.underlying34 (HRW.out _ ((((Kept.refl (fun _ => False) X).alloc _).alloc _).drew)) (flat3_one _)) (by omega) ?_
    intro v1 w2 hr1 hk1 hn1
    simp only [Nat.zero_add, List.nil_append] at hr1
    obtain ⟨A1, cap1, rfl⟩ := hr1.shape
    have HK2 := Lib.hid (show Kept (fun _ => False) X w2 from Kept.trans (S := fun _ => False) ((((Kept.refl (fun _ => False) X).alloc _).alloc _).drew) hk1 (fun g hg e => by omega))
    have HN2 := Lib.hid (show ∀ g, isAt (.slice A1 L cap1) g → X.heap.size ≤ g from fun g hg => by have h1 := hn1 g hg; simp at h1; omega)
    have HR2 := Lib.hid (show RW w2 3 (.slice A1 L cap1) L (flat3 h.l) from hr1)
    have HRD2 := Lib.hid (HRD.out.kept hk1 (fun b off e => by injection e with e; injection e with e; omega))
    have HS : w2.cell? ⟨p, 1, none⟩ = some (.slice A L cap) ∧ w2.cell? ⟨p, 2, none⟩ = some (.int .i64 nx) := two_kept HK2.out HSX (fun h => h) (fun h => h)
    clear hr1 hk1 hn1
    refine hK.out _ _ HS ?_
    clear hK K
    try simp only [Act.put, List.setIfInBounds_toArray, List.set_cons_zero, List.set_cons_succ]
    refine Tail.one 15 rfl (by kernel_rfl) (fun K hK => ?_)
    refine step_row rfl (.tmp 44) (.tmp 52) 34 rfl 38 (.agg #[.int .i64 0, .int .i64 0, .int .i64 0]) 3 24 Try.underlying34 info_sent rfl (by omega) (.slice A1 L cap1) L (flat3 h.l) rfl (HR2.out.kept (Kept.refl (fun _ => False) _) (fun _ _ => id)) _ _ [.int .i64 nx, .int .i64 size, .int .i64 at_] rfl HRD2.out (by simp [Value.oneCell']) (by omega) ?_
    intro v3 w3 hr3 hk3 hn3
    obtain ⟨A3, cap3, rfl⟩ := hr3.shape
    have HK3 := Lib.hid (show Kept (fun _ => False) X w3 from Kept.trans (S := fun _ => False) (HK2.out.trans (Kept.refl (fun _ => False) _) (fun _ _ h => h)) hk3 (fun g hg e => by have := HN2.out g e; omega))
    have HN3 := Lib.hid (show ∀ g, isAt (.slice A3 (L + 1) cap3) g → X.heap.size ≤ g from fun g hg => by
      have h0 := HK2.out.size
      rcases hn3 g hg with h1 | h1
      · exact HN2.out g h1
      · (try simp at h1); omega)
    have HR3 := Lib.hid hr3
    have HS : w3.cell? ⟨p, 1, none⟩ = some (.slice A L cap) ∧ w3.cell? ⟨p, 2, none⟩ = some (.int .i64 nx) := two_kept HK3.out HSX (fun h => h) (fun h => h)
    clear hr3 hk3 hn3
    refine hK.out _ _ HS ?_
    clear hK K
    try simp only [Act.put, List.setIfInBounds_toArray, List.set_cons_zero, List.set_cons_succ]
    refine Tail.take 16 rfl (by kernel_rfl) (fun _ _ _ h => h) (by rfl) HS (fun w hSw => by (try dsimp only at hSw); go_simp; (try with_reducible rfl)) ?_
    try simp only [Act.put, List.setIfInBounds_toArray, List.set_cons_zero, List.set_cons_succ]
    refine Tail.tail 17 rfl (by kernel_rfl) ?_
    simp only [List.drop_succ_cons, List.drop_zero]
    obtain ⟨_, z2⟩ := HS
    have zf1 : w3.frozen? ⟨p, 1, none⟩ = false := (HK3.out.frozen (p := ⟨p, 1, none⟩) (Nat.lt_of_lt_of_le hp HKX.out.size) id).trans (HDF.out 1)
    have zf2 : w3.frozen? ⟨p, 2, none⟩ = false := (HK3.out.frozen (p := ⟨p, 2, none⟩) (Nat.lt_of_lt_of_le hp HKX.out.size) id).trans (HDF.out 2)
    go_wp2_with (first | (go_at_call 33; refine (Fn.ref_cut_yes nx 16 65536 _ (by omega) (by omega) rfl (by omega) (by omega)).mono ?_; rintro e w4 ⟨rfl, rfl⟩))
    go_ret2
    exact ⟨rfl, rsend_end HRX.out HX.out HL.out HKX.out HK3.out HN3.out HR3.out⟩
theorem rsend_any (size at_ : Int) (p : Nat) (w : World) (h : HS) (v : Value) (hr : QR w p h v) (ok : okH h) : Calls Try.prog 20 #[.pointer (some ⟨p, 0, none⟩), .int .i64 size, .int .i64 at_] w
    fun e w' => e = .returned (.tuple #[.int .i64 (hsend h size at_).2.1, .int .i64 (hsend h size at_).2.2]) ∧ ∃ u, QR w' p (hsend h size at_).1 u ∧ (∀ g, isAt u g → isAt v g ∨ w.heap.size ≤ g) ∧ Kept (fun g => g = p) w w' := by
  unfold hsend
  by_cases hb : sendBad size at_
  · rw [if_pos hb]
    exact (rsend_bad size at_ p w hb).mono fun _ _ ⟨h1, h2⟩ => ⟨h1, v, h2 ▸ hr, fun g hg => .inl hg, h2 ▸ Kept.refl _ _⟩
  · rw [if_neg hb]
    by_cases hl : at_ < h.last
    · rw [if_pos hl]
      exact (rsend_early size at_ p w h v hr hb hl).mono fun _ _ ⟨h1, h2⟩ => ⟨h1, v, h2 ▸ hr, fun g hg => .inl hg, h2 ▸ Kept.refl _ _⟩
    · rw [if_neg hl]
      by_cases hn : h.l.length = 1024
      · rw [if_pos hn]
        exact (rsend_full size at_ p w h v hr hb hl hn).mono fun _ _ ⟨h1, h2⟩ => ⟨h1, v, h2 ▸ hr, fun g hg => .inl hg, h2 ▸ Kept.refl _ _⟩
      · rw [if_neg hn]
        exact (rsend_good size at_ p w h v hr hb hl hn ok.len ok.next0 (by have := ok.next1; omega)).mono fun _ _ ⟨h1, u, h2, h3, h4⟩ => ⟨h1, u, h2, fun g hg => .inr (h3 g hg), h4⟩
end Go.Proofs.Ytfemmbipglpalaa.History
