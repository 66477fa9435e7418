/- The document's history: what Hear comes to; no condition but the ranges in each. -/
import Derived.Test.YtfemmbipglpalaaHistRef2
import Derived.Laws.Rows
namespace Go.Proofs.Ytfemmbipglpalaa.History
open Go.RowKit Go.Proofs.Ytfemmbipglpalaa.Plain Go.Proofs.Ytfemmbipglpalaa.Heap Go.Proofs.Ytfemmbipglpalaa.Maps Go.Proofs.Ytfemmbipglpalaa.Rows

theorem flat6_len (l : List A6) : (flat6 l).length = l.length * 6 := by
  induction l with
  | nil => rfl
  | cons x l ih =>
    have e : flat6 (x :: l) = [.int .i64 x.1.1, .int .i64 x.1.2.1, .int .i64 x.1.2.2, .int .i64 x.2.1, .bool x.2.2.1, .bool x.2.2.2] ++ flat6 l := rfl
    rw [e, List.length_append, ih, List.length_cons]
    simp
    omega
theorem hear_none {h : HS} (ok : okH h) (hz : h.next = 0) (rs : List R5) : hearL h rs = (h, [], []) := by
  have hl : h.l = [] := by
    cases e : h.l with
    | nil => rfl
    | cons x l => have := ok.lt x (by rw [e]; exact List.mem_cons_self ..); omega
  unfold hearL
  induction rs with
  | nil => rfl
  | cons x rs ih =>
    rw [List.foldl_cons]
    have : hear1 (h, [], []) x = (h, [], []) := by
      unfold hear1
      simp [hl, findE]
    rw [this]
    exact ih
/-- The place of a number. -/
theorem find_at {k : Int} {l : List E3} : (findE k l = none ∧ ∀ x ∈ l, x.1 ≠ k) ∨ ∃ j x, l[j]? = some x ∧ x.1 = k ∧ findE k l = some x ∧ (∀ i y, i < j → l[i]? = some y → y.1 ≠ k) ∧ eraseE k l = l.take j ++ l.drop (j + 1) := by
  induction l with
  | nil => exact .inl ⟨rfl, fun x hx => by cases hx⟩
  | cons y l ih =>
    by_cases h : k = y.1
    · refine .inr ⟨0, y, rfl, h.symm, by unfold findE; rw [if_pos h], fun i z hi => by omega, by unfold eraseE; rw [if_pos h]; rfl⟩
    · rcases ih with ⟨h1, h2⟩ | ⟨j, x, h1, h2, h3, h4, h5⟩
      · refine .inl ⟨by unfold findE; rw [if_neg h]; exact h1, fun x hx => ?_⟩
        rcases List.mem_cons.1 hx with rfl | hx
        · exact fun e => h e.symm
        · exact h2 x hx
      · refine .inr ⟨j + 1, x, by simpa using h1, h2, by unfold findE; rw [if_neg h]; exact h3, fun i z hi hz => ?_, by unfold eraseE; rw [if_neg h, h5]; rfl⟩
        cases i with
        | zero => simp at hz; subst hz; exact fun e => h e.symm
        | succ i => exact h4 i z (by omega) (by simpa using hz)
/-- What Hear holds while it runs. -/
structure HG (w wx : World) (p b4 : Nat) (v0 : Value) (s : H3) (v gv lv : Value) : Prop where
  qr : QR wx p s.1 v
  c4 : wx.heap[b4]? = some (.cells #[.slice none 0 0, .slice none 0 0] 59 (0, 0))
  c5 : wx.heap[b4 + 1]? = some (.cells #[gv, lv] 59 (0, 0))
  rg : RW wx 6 gv s.2.1.length (flat6 s.2.1)
  rl : RW wx 3 lv s.2.2.length (flat3 s.2.2)
  ag : ∀ g, isAt gv g → b4 + 2 ≤ g
  al : ∀ g, isAt lv g → b4 + 2 ≤ g
  dg : ∀ g, isAt gv g → ¬ isAt lv g ∧ ¬ isAt v g
  dl : ∀ g, isAt lv g → ¬ isAt v g
  av : ∀ g, isAt v g → isAt v0 g ∨ b4 + 2 ≤ g
  lv0 : ∀ g, isAt v0 g → g < b4
  bp : p < b4
  sz : b4 + 2 ≤ wx.heap.size
  kp : ∀ g, g < b4 → g ≠ p → wx.heap[g]? = w.heap[g]?
  kk : Kept (fun g => g = p) w wx
  bw : b4 = w.heap.size
section
variable {w wx w' : World} {p b4 : Nat} {v0 v gv lv : Value} {s : H3}
theorem HG.run (h : HG w wx p b4 v0 s v gv lv) (hk : Kept (fun _ => False) wx w') : HG w w' p b4 v0 s v gv lv :=
  ⟨h.qr.run hk, (hk.block b4 (by have := h.sz; omega) id).trans h.c4, (hk.block (b4 + 1) (by have := h.sz; omega) id).trans h.c5, h.rg.kept hk (fun _ _ => id), h.rl.kept hk (fun _ _ => id), h.ag, h.al, h.dg, h.dl, h.av, h.lv0, h.bp, Nat.le_trans h.sz hk.size,
    fun g hg hp => (hk.block g (by have := h.sz; omega) id).trans (h.kp g hg hp), h.kk.trans hk (fun _ _ e => e.elim), h.bw⟩
theorem HG.got (h : HG w wx p b4 v0 s v gv lv) {u : Value} {x : A6} (hr : RW w' 6 u (s.2.1.length + 1) (flat6 s.2.1 ++ flat6 [x])) (hk : Kept (isAt gv) wx w') (hn : ∀ g, isAt u g → isAt gv g ∨ g = wx.heap.size) : HG w (w'.setCell ⟨b4 + 1, 0, none⟩ u) p b4 v0 (s.1, s.2.1 ++ [x], s.2.2) v u lv := by
  have hs := h.sz
  have hbp := h.bp
  have hbw := h.bw
  have np : ¬ isAt gv p := fun e => by have := h.ag p e; omega
  have n4 : ¬ isAt gv b4 := fun e => by have := h.ag b4 e; omega
  have n5 : ¬ isAt gv (b4 + 1) := fun e => by have := h.ag (b4 + 1) e; omega
  have hk2 : Kept (fun g => g = b4 + 1) w' (w'.setCell ⟨b4 + 1, 0, none⟩ u) := Kept.setCell (S := fun g => g = b4 + 1) (Kept.refl _ _) (p := ⟨b4 + 1, 0, none⟩) (.inl rfl) u
  have hsz := hk.size
  have hau : ∀ g, isAt u g → b4 + 2 ≤ g := fun g hg => by rcases hn g hg with e | e; exact h.ag g e; omega
  have h5 : w'.heap[b4 + 1]? = some (.cells #[gv, lv] 59 (0, 0)) := (hk.block (b4 + 1) (by omega) n5).trans h.c5
  refine ⟨(h.qr.kept hk np (fun g hg e => (h.dg g e).2 hg)).kept hk2 (by omega) (fun g hg e => ?_), ?_, ?_, ?_, ?_, hau, h.al, fun g hg => ⟨fun e => ?_, fun e => ?_⟩, h.dl, h.av, h.lv0, h.bp, Nat.le_trans (Nat.le_trans hs hsz) hk2.size, fun g hg hp => ?_, ?_, hbw⟩
  · rcases h.av g hg with e1 | e1
    · have := h.lv0 g e1; omega
    · omega
  · exact (hk2.block b4 (by omega) (by omega)).trans ((hk.block b4 (by omega) n4).trans h.c4)
  · simp [World.setCell, Array.getElem?_modify, h5]
  · simp only [List.length_append, List.length_singleton, flat6_append]
    exact hr.kept hk2 (fun g hg e => by have := hau g hg; omega)
  · exact (h.rl.kept hk (fun g hg e => (h.dg g e).1 hg)).kept hk2 (fun g hg e => by have := h.al g hg; omega)
  · rcases hn g hg with e1 | e1
    · exact (h.dg g e1).1 e
    · have := h.rl.lt e; omega
  · rcases hn g hg with e1 | e1
    · exact (h.dg g e1).2 e
    · have := h.qr.row.lt e; omega
  · exact ((hk2.block g (by omega) (by omega)).trans (hk.block g (by omega) (fun e => by have := h.ag g e; omega))).trans (h.kp g hg hp)
  · exact Kept.trans (S := fun g => g = p) (Kept.trans (S := fun g => g = p) h.kk hk (fun g hg e => by have := h.ag g e; omega)) hk2 (fun g hg e => by omega)
theorem HG.lost (h : HG w wx p b4 v0 s v gv lv) {u : Value} {x : E3} (hr : RW w' 3 u (s.2.2.length + 1) (flat3 s.2.2 ++ flat3 [x])) (hk : Kept (isAt lv) wx w') (hn : ∀ g, isAt u g → isAt lv g ∨ g = wx.heap.size) : HG w (w'.setCell ⟨b4 + 1, 1, none⟩ u) p b4 v0 (s.1, s.2.1, s.2.2 ++ [x]) v gv u := by
  have hs := h.sz
  have hbp := h.bp
  have hbw := h.bw
  have np : ¬ isAt lv p := fun e => by have := h.al p e; omega
  have n4 : ¬ isAt lv b4 := fun e => by have := h.al b4 e; omega
  have n5 : ¬ isAt lv (b4 + 1) := fun e => by have := h.al (b4 + 1) e; omega
  have hk2 : Kept (fun g => g = b4 + 1) w' (w'.setCell ⟨b4 + 1, 1, none⟩ u) := Kept.setCell (S := fun g => g = b4 + 1) (Kept.refl _ _) (p := ⟨b4 + 1, 1, none⟩) (.inl rfl) u
  have hsz := hk.size
  have hau : ∀ g, isAt u g → b4 + 2 ≤ g := fun g hg => by rcases hn g hg with e | e; exact h.al g e; omega
  have h5 : w'.heap[b4 + 1]? = some (.cells #[gv, lv] 59 (0, 0)) := (hk.block (b4 + 1) (by omega) n5).trans h.c5
  refine ⟨(h.qr.kept hk np (fun g hg e => h.dl g e hg)).kept hk2 (by omega) (fun g hg e => ?_), ?_, ?_, ?_, ?_, h.ag, hau, fun g hg => ⟨fun e => ?_, (h.dg g hg).2⟩, fun g hg e => ?_, h.av, h.lv0, h.bp, Nat.le_trans (Nat.le_trans hs hsz) hk2.size, fun g hg hp => ?_, ?_, hbw⟩
  · rcases h.av g hg with e1 | e1
    · have := h.lv0 g e1; omega
    · omega
  · exact (hk2.block b4 (by omega) (by omega)).trans ((hk.block b4 (by omega) n4).trans h.c4)
  · simp [World.setCell, Array.getElem?_modify, h5]
  · exact (h.rg.kept hk (fun g hg e => (h.dg g hg).1 e)).kept hk2 (fun g hg e => by have := h.ag g hg; omega)
  · simp only [List.length_append, List.length_singleton, flat3_append]
    exact hr.kept hk2 (fun g hg e => by have := hau g hg; omega)
  · rcases hn g e with e1 | e1
    · exact (h.dg g hg).1 e1
    · have := h.rg.lt hg; omega
  · rcases hn g hg with e1 | e1
    · exact h.dl g e1 e
    · have := h.qr.row.lt e; omega
  · exact ((hk2.block g (by omega) (by omega)).trans (hk.block g (by omega) (fun e => by have := h.al g e; omega))).trans (h.kp g hg hp)
  · exact Kept.trans (S := fun g => g = p) (Kept.trans (S := fun g => g = p) h.kk hk (fun g hg e => by have := h.al g e; omega)) hk2 (fun g hg e => by omega)
theorem HG.erased (h : HG w wx p b4 v0 s v gv lv) {u : Value} {h' : HS} (hk : Kept (fun _ => False) wx w') (hu : RW w' 3 u h'.l.length (flat3 h'.l)) (hn : ∀ g, isAt u g → wx.heap.size ≤ g) (hc : (qcells s.1 v).setIfInBounds 1 u = qcells h' u) : HG w (w'.setCell ⟨p, 1, none⟩ u) p b4 v0 (h', s.2.1, s.2.2) u gv lv := by
  have hs := h.sz
  have hbp := h.bp
  have hbw := h.bw
  have h1 := h.run hk
  have hk2 : Kept (fun g => g = p) w' (w'.setCell ⟨p, 1, none⟩ u) := Kept.setCell (S := fun g => g = p) (Kept.refl _ _) (p := ⟨p, 1, none⟩) (.inl rfl) u
  refine ⟨h.qr.setRow hk hu hn hc, (hk2.block b4 (by have := h1.sz; omega) (by omega)).trans h1.c4, (hk2.block (b4 + 1) (by have := h1.sz; omega) (by omega)).trans h1.c5, h1.rg.kept hk2 (fun g hg e => by have := h.ag g hg; omega), h1.rl.kept hk2 (fun g hg e => by have := h.al g hg; omega), h.ag, h.al,
    fun g hg => ⟨(h.dg g hg).1, fun e => by have h2 := hn g e; have h3 := h.rg.lt hg; omega⟩, fun g hg e => by have h2 := hn g e; have h3 := h.rl.lt hg; omega, fun g hg => .inr (by have := hn g hg; omega), h.lv0, h.bp, Nat.le_trans h1.sz hk2.size, fun g hg hp => (hk2.block g (by have := h1.sz; omega) hp).trans (h1.kp g hg hp), h1.kk.trans hk2 (fun _ _ e => e), hbw⟩
end
/-- What the document's Hear leaves. -/
def RHeard (w : World) (p : Nat) (v0 : Value) (s : H3) (e : Ending) (w' : World) : Prop :=
  ∃ gA gc lA lc u, e = .returned (.agg #[.slice gA s.2.1.length gc, .slice lA s.2.2.length lc]) ∧ RW w' 6 (.slice gA s.2.1.length gc) s.2.1.length (flat6 s.2.1) ∧ RW w' 3 (.slice lA s.2.2.length lc) s.2.2.length (flat3 s.2.2) ∧ QR w' p s.1 u ∧ (∀ g, isAt u g → isAt v0 g ∨ w.heap.size ≤ g) ∧ Kept (fun g => g = p) w w'
theorem zero_heard (w : World) : (zeroValue 59).run Try.prog w = .ok (.agg #[.slice none 0 0, .slice none 0 0]) w := by rfl
/-- Cells kept. -/
theorem ck {S : Nat → Prop} {w w' : World} (hk : Kept S w w') {b i : Nat} {u : Value} (h : w.cell? ⟨b, i, none⟩ = some u) (hb : ¬ S b) : w'.cell? ⟨b, i, none⟩ = some u :=
  (hk.cell (p := ⟨b, i, none⟩) (World.block_lt_of_cell? w ⟨b, i, none⟩ h) hb).trans h
theorem two_cells {w : World} {b : Nat} {x y : Value} {t : TypeId} (h : w.heap[b]? = some (.cells #[x, y] t (0, 0))) : w.cell? ⟨b, 0, none⟩ = some x ∧ w.cell? ⟨b, 1, none⟩ = some y ∧ w.frozen? ⟨b, 0, none⟩ = false ∧ w.frozen? ⟨b, 1, none⟩ = false := by
  refine ⟨by simp [World.cell?, h], by simp [World.cell?, h], by simp [World.frozen?, h], by simp [World.frozen?, h]⟩
theorem stored2 {w : World} {b : Nat} {x y u z : Value} {t : TypeId} (h : w.heap[b]? = some (.cells #[x, y] t (0, 0))) : ((w.setCell ⟨b, 0, none⟩ u).setCell ⟨b, 1, none⟩ z).heap[b]? = some (.cells #[u, z] t (0, 0)) := by
  simp [World.setCell, Array.getElem?_modify, h]
theorem heard_size : (Try.prog.info? 59).map (·.size) = some 2 := by kernel_rfl
theorem ret_heard {R : Ending → World → Prop} {a : Act} {w : World} {b : Nat} {x y : Value} (h : w.heap[b]? = some (.cells #[x, y] 59 (0, 0))) (ha : a.tmps.getD 4 undef = .pointer (some ⟨b, 0, none⟩)) (hd : a.defers = []) (hR : R (.returned (.agg #[x, y])) w) :
    bodyPost Try.prog Try.f21 R .ret a w :=
  bodyPost_ret (results_cell_row (P := Try.prog) rfl a.tmps w b _ _ _ _ ha h Try.underlying59 rfl heard_size) hd hR
set_option maxHeartbeats 1000000 in
theorem rhear_zero (p : Nat) (h : HS) (v : Value) (A : Option Addr) (n c : Nat) (rs : List R5) (w : World) (hr : QR w p h v) (ok : okH h) (hz0 : h.next = 0) :
    Calls Try.prog 21 #[.pointer (some ⟨p, 0, none⟩), .slice A n c] w (RHeard w p v (hearL h rs)) := by
  have hz := zero_heard
  rw [hear_none ok hz0]
  obtain ⟨c0, c1, c2, c3, hf, hp⟩ := hr.cells
  rw [hz0] at c2
  have HR := Lib.hid hr
  clear hr ok hf c0 c1 c3
  go_enter Try.func21, Try.ntmps21
  go_wp2_with fail
  generalize hW : World.alloc (World.alloc w _) _ = W
  have hk : Kept (fun _ => False) w W := by rw [← hW]; exact ((Kept.refl _ w).alloc _).alloc _
  have e4 : W.heap[w.heap.size]? = some (.cells #[.slice none 0 0, .slice none 0 0] 59 (0, 0)) := by
    rw [← hW]
    exact (Below.heap_alloc (w.alloc (.cells #[.slice none 0 0, .slice none 0 0] 59)) _ w.heap.size (by simp)).trans (heap_alloc_new w _)
  have e5 : W.heap[w.heap.size + 1]? = some (.cells #[.slice none 0 0, .slice none 0 0] 59 (0, 0)) := by
    rw [← hW]
    have := heap_alloc_new (w.alloc (.cells #[.slice none 0 0, .slice none 0 0] 59)) (.cells #[.slice none 0 0, .slice none 0 0] 59)
    simpa using this
  replace c2 := ck hk c2 id
  have HK := Lib.hid hk
  clear hW hk
  obtain ⟨b4, hb4⟩ : ∃ b4, b4 = w.heap.size := ⟨_, rfl⟩
  simp only [← hb4] at e4 e5 ⊢
  have HB := Lib.hid hb4
  clear hb4
  obtain ⟨x0, x1, x2, x3⟩ := two_cells e4
  obtain ⟨y0, y1, y2, y3⟩ := two_cells e5
  go_loopw [6] (fun iv wx => iv = .int .i64 0 ∧ wx = W) (fun _ _ => 0)
  case atStart => exact ⟨rfl, rfl⟩
  case round =>
    obtain ⟨rfl, rfl⟩ := hrel
    go_wp2_with fail
    all_goals
      (try simp only [Exit.inBlock, Exit.then])
      refine ret_heard (stored2 e4) ?_ ?_ ?_
      · rfl
      · rfl
      have hkk : Kept (fun g => g = p) w ((wr.setCell ⟨b4, 0, none⟩ (.slice none 0 0)).setCell ⟨b4, 1, none⟩ (.slice none 0 0)) := ((HK.out.mono (S' := fun g => g = p) (fun _ _ e => e.elim)).setCell (p := ⟨b4, 0, none⟩) (.inr (by rw [HB.out]; exact Nat.le_refl _)) _).setCell (p := ⟨b4, 1, none⟩) (.inr (by rw [HB.out]; exact Nat.le_refl _)) _
      refine ⟨none, 0, none, 0, v, rfl, by simpa [flat6] using RW.nil _ _, by simpa [flat3] using RW.nil _ _, ?_, fun g hg => .inl hg, hkk⟩
      exact (HR.out.run HK.out).kept ((Kept.refl (fun g => g = b4) wr).setCell (p := ⟨b4, 0, none⟩) (.inl rfl) _ |>.setCell (p := ⟨b4, 1, none⟩) (.inl rfl) _) (by have := HB.out; omega) (fun g hg e => by have := HR.out.row.lt hg; have := HB.out; omega)
section
variable {P : Program}
/-- append of a whole row. -/
theorem app_srcS {w : World} {t tx ty e : TypeId} {z : Value} {sz bytes : Nat} (ht : P.underlying t = some (.slice e)) (hinfo : (P.info? e).map (fun i => (i.zero, i.size, i.bytes)) = some (some z, sz, bytes)) (hzs : z.cells.size = sz) (hby : bytes ≤ 1000)
    {g off n cap : Nat} {xs : List Value} (h : RW w sz (.slice (some ⟨g, off, none⟩) n cap) n xs) (x : Value) (m : Nat) (news : List Value) (hs : Src P sz tx x m news w) (hn : n + m ≤ 1000000) :
    ∃ v' w', (Builtin.append_ #[t, tx] ty #[.slice (some ⟨g, off, none⟩) n cap, x]).run P w = .ok v' w' ∧ RW w' sz v' (n + m) (xs ++ news) ∧ Kept (fun k => k = g) w w' ∧ (∀ k, isAt v' k → k = g ∨ k = w.heap.size) ∧ ∃ g' o' c', v' = .slice (some ⟨g', o', none⟩) (n + m) c' := by
  obtain ⟨i, hi, hz, hsz, hb⟩ := info_parts hinfo
  have hlen : (xs ++ news).length = (n + m) * sz := by rw [List.length_append, h.1, hs.newsLen, Nat.add_mul]
  rcases h.2 with ⟨e, _⟩ | ⟨g', off', cap', e, hg, h2, h3, h4, h5⟩
  · cases e
  injection e with e1 e2 e3
  injection e1 with e1
  injection e1 with e1 e4
  subst e1 e3 e4
  by_cases hroom : n + m ≤ cap
  · have hmul : (n + m) * sz ≤ cap * sz := Nat.mul_le_mul_right sz hroom
    rw [Nat.add_mul] at hmul
    have hnl := hs.newsLen
    have hin : ∀ j, j < news.length → (w.cell? ⟨g, off + n * sz + j, none⟩).isSome = true := fun j hj => by
      have := h3 (n * sz + j) (by omega)
      rwa [← Nat.add_assoc] at this
    have hrun := run_append_room_src (P := P) w t tx ty _ i ht hi g off n cap x m news (by rw [hsz]; exact hs) hroom
      (fun j hj => by rw [hsz]; exact hin j hj) (fun j hj => h4 _)
    rw [hsz] at hrun
    have hk := kept_setCells g news (off + n * sz) w
    have hout : ∀ j, j < n * sz → (w.setCells g (off + n * sz) news).cell? ⟨g, off + j, none⟩ = w.cell? ⟨g, off + j, none⟩ := fun j hj => World.cell?_setCells_out g news _ w _ (fun _ _ => .inl (by show off + j < _; omega))
    refine ⟨_, _, hrun, ⟨hlen, .inr ⟨g, off, cap, rfl, Nat.lt_of_lt_of_le hg hk.size, hroom, fun j hj => World.isSome_setCells g news _ w _ (h3 j hj), fun i => (World.frozen?_setCells g news _ w _).trans (h4 i), fun j u hj => ?_⟩⟩, hk, fun g' hg' => .inl ?_, _, _, _, rfl⟩
    · rcases Nat.lt_or_ge j xs.length with hj2 | hj2
      · rw [List.getElem?_append_left hj2] at hj
        rw [hout j (by rw [← h.1]; exact hj2)]
        exact h5 j u hj
      · rw [List.getElem?_append_right hj2] at hj
        rw [h.1] at hj hj2
        obtain ⟨hj4, hj5⟩ := List.getElem?_eq_some_iff.1 hj
        have := World.cell?_setCells_in g news (off + n * sz) w hin (j - n * sz) hj4
        rw [show off + n * sz + (j - n * sz) = off + j by omega] at this
        rw [this, ← hj5]
    · obtain ⟨o, m', c, e⟩ := hg'
      injection e with e; injection e with e; injection e with e; exact e.symm
  · have holds : ∀ j u, xs[j]? = some u → w.drew.cell? ((⟨g, off, none⟩ : Addr).add j) = some u := fun j u hu => by rw [addr_lit]; exact h5 j u hu
    have hfc : (Builtin.firstCells i.size n (.slice (some ⟨g, off, none⟩) n cap)).run P w.drew = .ok xs.toArray w.drew := run_firstCells_some w.drew i.size n ⟨g, off, none⟩ n cap xs (by rw [hsz]; exact h.1) holds
    have hrun := run_append_grow_src (P := P) w t tx ty _ i z ht hi hz (some ⟨g, off, none⟩) n cap xs hfc x m news (by rw [hsz]; exact hs) (by omega) (by omega) (growslice_fits (by omega) (by
      have h6 : (n + m) * i.bytes ≤ (n + m) * 1000 := Nat.mul_le_mul_left _ (by omega)
      omega))
    have hge := grownCap_ge w (n + m) cap e
    refine ⟨_, _, hrun, ⟨hlen, .inr ⟨w.heap.size, 0, grownCap w (n + m) cap e, rfl, by simp, hge, fun j hj => ?_, fun i => ?_, fun j u hj => ?_⟩⟩, ((Kept.refl _ w).drew.alloc _), fun g' hg' => .inr ?_, _, _, _, rfl⟩
    · have hh := heap_alloc_new w.drew (.cells ((xs ++ news).toArray ++ Builtin.zeroCells z.cells (grownCap w (n + m) cap e - (n + m))) e)
      rw [show w.drew.heap.size = w.heap.size from rfl] at hh
      simp only [World.cell?, hh, Nat.zero_add]
      have hs2 : ((xs ++ news).toArray ++ Builtin.zeroCells z.cells (grownCap w (n + m) cap e - (n + m))).size = grownCap w (n + m) cap e * sz := by
        rw [Array.size_append, size_zeroCells, hzs]
        simp only [List.size_toArray, hlen]
        rw [← Nat.add_mul]
        congr 1
        omega
      simp [Array.getElem?_eq_getElem (show j < ((xs ++ news).toArray ++ Builtin.zeroCells z.cells (grownCap w (n + m) cap e - (n + m))).size by omega)]
    · have hh := heap_alloc_new w.drew (.cells ((xs ++ news).toArray ++ Builtin.zeroCells z.cells (grownCap w (n + m) cap e - (n + m))) e)
      rw [show w.drew.heap.size = w.heap.size from rfl] at hh
      simp only [World.frozen?, hh]
      simp
    · have hh := heap_alloc_new w.drew (.cells ((xs ++ news).toArray ++ Builtin.zeroCells z.cells (grownCap w (n + m) cap e - (n + m))) e)
      rw [show w.drew.heap.size = w.heap.size from rfl] at hh
      simp only [World.cell?, hh, Nat.zero_add]
      have := (List.getElem?_eq_some_iff.1 hj).1
      rw [Array.getElem?_append_left (by simpa using this)]
      simpa using hj
    · obtain ⟨o, m', c, e⟩ := hg'
      injection e with e; injection e with e; injection e with e; exact e.symm
variable {ops : Array Oper} {rest : List Oper} {o : Oper} {a : Act} {Q : Exit → Act → World → Prop}
theorem wp_srcS {K : Act → World → Prop} {w : World} (s x : Operand) (t tx : TypeId) (ho : o.op = .call { callee := .builtin .append, args := #[s, x], argTypes := #[t, tx] })
    (e : TypeId) (z : Value) (sz bytes : Nat) (ht : P.underlying t = some (.slice e)) (hinfo : (P.info? e).map (fun i => (i.zero, i.size, i.bytes)) = some (some z, sz, bytes)) (hzs : z.cells.size = sz) (hby : bytes ≤ 1000)
    (g off n cap : Nat) (xs : List Value) (hs : a.eval s = .slice (some ⟨g, off, none⟩) n cap) (h : RW w sz (.slice (some ⟨g, off, none⟩) n cap) n xs) (xv : Value) (m : Nat) (news : List Value) (hx : a.eval x = xv) (hr : Src P sz tx xv m news w) (hn : n + m ≤ 1000000)
    (hh : ∀ v' w', RW w' sz v' (n + m) (xs ++ news) → Kept (fun k => k = g) w w' → (∀ k, isAt v' k → k = g ∨ k = w.heap.size) → (∃ g' o' c', v' = .slice (some ⟨g', o', none⟩) (n + m) c') → K (a.put o.dst v') w') : o.wp P a w K Q := by
  obtain ⟨v', w', hrun, h2, h3, h4, h5⟩ := app_srcS (P := P) (ty := o.type) ht hinfo hzs hby h xv m news hr hn
  unfold Oper.wp execOp
  simp only [ho, resolve, invoke, builtin, Sem.run_bind, Sem.run_pure, Result.andThen_ok, List.map_toArray, List.map_cons, List.map_nil, hs, hx, hrun]
  exact hh v' w' h2 h3 h4 h5
theorem step_srcS {K : Act → World → Prop} {E : Prop} {w : World} (hgd : o.guard = none) (s x : Operand) (t tx : TypeId) (ho : o.op = .call { callee := .builtin .append, args := #[s, x], argTypes := #[t, tx] })
    (e : TypeId) (z : Value) (sz bytes : Nat) (ht : P.underlying t = some (.slice e)) (hinfo : (P.info? e).map (fun i => (i.zero, i.size, i.bytes)) = some (some z, sz, bytes)) (hzs : z.cells.size = sz) (hby : bytes ≤ 1000)
    (g off n cap : Nat) (xs : List Value) (hs : a.eval s = .slice (some ⟨g, off, none⟩) n cap) (h : RW w sz (.slice (some ⟨g, off, none⟩) n cap) n xs) (xv : Value) (m : Nat) (news : List Value) (hx : a.eval x = xv) (hr : Src P sz tx xv m news w) (hn : n + m ≤ 1000000)
    (hh : ∀ v' w', RW w' sz v' (n + m) (xs ++ news) → Kept (fun k => k = g) w w' → (∀ k, isAt v' k → k = g ∨ k = w.heap.size) → (∃ g' o' c', v' = .slice (some ⟨g', o', none⟩) (n + m) c') → K (a.put o.dst v') w') :
    if Region.wanted o (yielded ops a.tmps) = true then Oper.wp P o a w K Q else E := by
  have hw : Region.wanted o (yielded ops a.tmps) = true := by simp [Region.wanted, hgd]
  rw [if_pos hw]
  exact wp_srcS s x t tx ho e z sz bytes ht hinfo hzs hby g off n cap xs hs h xv m news hx hr hn hh
end
theorem src_take {P : Program} {w : World} {sz g off n cap k : Nat} {xs : List Value} {tx e' : TypeId} (hk : P.underlying tx = some (.slice e')) (h : RW w sz (.slice (some ⟨g, off, none⟩) n cap) n xs) (h1 : ∀ u ∈ xs, u.oneCell' = true) (hkn : k ≤ n) : Src P sz tx (.slice (some ⟨g, off, none⟩) k cap) k (xs.take (k * sz)) w := by
  rcases h.2 with ⟨e, _⟩ | ⟨g', off', cap', e, _, _, _, _, h5⟩
  · cases e
  · injection e with e1 e2 e3
    injection e1 with e1
    injection e1 with e1 e4
    subst e1 e3 e4
    refine Src.ofSlice w hk ⟨g, off, none⟩ k cap _ ?_ (fun j u hj => ?_) (fun u hu => h1 u (List.mem_of_mem_take hu))
    · rw [List.length_take, h.1]; have := Nat.mul_le_mul_right sz hkn; omega
    · rw [addr_lit]
      rw [List.getElem?_take] at hj
      split at hj
      · exact h5 j u hj
      · cases hj
theorem src_drop {P : Program} {w : World} {sz g off n cap a : Nat} {xs : List Value} {tx e' : TypeId} (hk : P.underlying tx = some (.slice e')) (h : RW w sz (.slice (some ⟨g, off, none⟩) n cap) n xs) (h1 : ∀ u ∈ xs, u.oneCell' = true) (hkn : a ≤ n) : Src P sz tx (.slice (if cap = a then some ⟨g, off, none⟩ else some ⟨g, off + a * sz, none⟩) (n - a) (cap - a)) (n - a) (xs.drop (a * sz)) w := by
  rcases h.2 with ⟨e, _⟩ | ⟨g', off', cap', e, _, h2, _, _, h5⟩
  · cases e
  · injection e with e1 e2 e3
    injection e1 with e1
    injection e1 with e1 e4
    subst e1 e3 e4
    have hl : (xs.drop (a * sz)).length = (n - a) * sz := by rw [List.length_drop, h.1, Nat.sub_mul]
    by_cases hc : cap = a
    · rw [if_pos hc]
      have : n - a = 0 := by omega
      refine Src.ofSlice w hk ⟨g, off, none⟩ (n - a) (cap - a) _ hl (fun j u hj => ?_) (fun u hu => h1 u (List.mem_of_mem_drop hu))
      rw [this, Nat.zero_mul] at hl
      rw [List.eq_nil_of_length_eq_zero hl] at hj
      simp at hj
    · rw [if_neg hc]
      refine Src.ofSlice w hk ⟨g, off + a * sz, none⟩ (n - a) (cap - a) _ hl (fun j u hj => ?_) (fun u hu => h1 u (List.mem_of_mem_drop hu))
      rw [addr_lit, Nat.add_assoc]
      rw [List.getElem?_drop] at hj
      exact h5 _ u hj
theorem flat3_take (l : List E3) (k : Nat) : (flat3 l).take (k * 3) = flat3 (l.take k) := by
  induction l generalizing k with
  | nil => simp [flat3]
  | cons x l ih =>
    cases k with
    | zero => simp [flat3]
    | succ k =>
      have e : flat3 (x :: l) = .int .i64 x.1 :: .int .i64 x.2.1 :: .int .i64 x.2.2 :: flat3 l := rfl
      rw [e, List.take_succ_cons, show (k + 1) * 3 = k * 3 + 1 + 1 + 1 by omega]
      simp only [List.take_succ_cons]
      rw [ih]
      rfl
theorem flat3_drop (l : List E3) (k : Nat) : (flat3 l).drop (k * 3) = flat3 (l.drop k) := by
  induction l generalizing k with
  | nil => simp [flat3]
  | cons x l ih =>
    cases k with
    | zero => simp [flat3]
    | succ k =>
      have e : flat3 (x :: l) = .int .i64 x.1 :: .int .i64 x.2.1 :: .int .i64 x.2.2 :: flat3 l := rfl
      rw [e, List.drop_succ_cons, show (k + 1) * 3 = k * 3 + 1 + 1 + 1 by omega]
      simp only [List.drop_succ_cons]
      exact ih k
end Go.Proofs.Ytfemmbipglpalaa.History
