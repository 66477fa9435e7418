/- HistoryOnce: what it comes to; no condition but what data there is. -/
import Derived.Test.YtfemmbipglpalaaHistLaw6
namespace Go.Proofs.Ytfemmbipglpalaa.History
open Go.RowKit Go.Proofs.Ytfemmbipglpalaa.Plain Go.Proofs.Ytfemmbipglpalaa.Heap Go.Proofs.Ytfemmbipglpalaa.Maps Go.Proofs.Ytfemmbipglpalaa.Open

theorem info_int : (Try.prog.info? 3).map (fun i => (i.zero, i.size, i.bytes)) = some (some (.int .i64 0), 1, 8) := by kernel_rfl
theorem info_rep : (Try.prog.info? 51).map (fun i => (i.zero, i.size, i.bytes)) = some (some (.agg #[.int .i64 0, .bool false, .int .i64 0, .bool false, .bool false]), 5, 32) := by kernel_rfl
theorem flat5_one (l : List R5) : ∀ u ∈ flat5 l, u.oneCell' = true := by
  intro u hu
  simp only [flat5, List.mem_flatMap] at hu
  obtain ⟨x, _, hx⟩ := hu
  simp at hx
  rcases hx with rfl | rfl | rfl | rfl | rfl <;> rfl
theorem flat5_len (l : List R5) : (flat5 l).length = l.length * 5 := by
  induction l with
  | nil => rfl
  | cons x l ih =>
    have e : flat5 (x :: l) = .int .i64 x.1 :: .bool x.2.1 :: .int .i64 x.2.2.1 :: .bool x.2.2.2.1 :: .bool x.2.2.2.2 :: flat5 l := rfl
    rw [e]
    simp only [List.length_cons, ih]
    omega
theorem flat5_at (l : List R5) (j : Nat) (u : Value) (h : (flat5 l)[j]? = some u) : ∃ x, l[j / 5]? = some x ∧ [Value.int .i64 x.1, .bool x.2.1, .int .i64 x.2.2.1, .bool x.2.2.2.1, .bool x.2.2.2.2][j % 5]? = some u := by
  induction l generalizing j with
  | nil => simp [flat5] at h
  | cons x l ih =>
    have e : flat5 (x :: l) = [.int .i64 x.1, .bool x.2.1, .int .i64 x.2.2.1, .bool x.2.2.2.1, .bool x.2.2.2.2] ++ flat5 l := rfl
    rw [e] at h
    by_cases hj : j < 5
    · rw [List.getElem?_append_left (by simpa using hj)] at h
      rw [Nat.div_eq_of_lt hj, Nat.mod_eq_of_lt hj]
      exact ⟨x, rfl, h⟩
    · rw [List.getElem?_append_right (by simpa using Nat.le_of_not_lt hj)] at h
      obtain ⟨y, h1, h2⟩ := ih (j - 5) (by simpa using h)
      refine ⟨y, ?_, by rwa [show (j - 5) % 5 = j % 5 by omega] at h2⟩
      rw [show j / 5 = (j - 5) / 5 + 1 by omega]
      simpa using h1
abbrev rRep : Rel R5 := rTwo (rInt .i64) (rTwo rBool (rTwo (rInt .i64) (rTwo rBool rBool)))
theorem els_rd {w : World} {A : Option Addr} {n : Nat} {xs : List R5} (h : Els 5 rRep w A n xs) : Rd w 5 A n (flat5 xs) := by
  obtain ⟨hl, _, h3⟩ := h
  refine ⟨by rw [flat5_len, hl], fun hn => ?_⟩
  obtain ⟨b, off, rfl, hb, hc⟩ := h3 hn
  refine ⟨b, off, rfl, hb (by omega), fun j u hj => ?_⟩
  obtain ⟨x, h1, h2⟩ := flat5_at xs j u hj
  obtain ⟨c, hc1, hc2, hr⟩ := hc _ x h1
  obtain ⟨c1, d1, rfl, ⟨rfl, _⟩, c2, d2, rfl, h4, c3, d3, rfl, ⟨rfl, _⟩, c4, d4, rfl, h5, h6⟩ := hr
  obtain rfl : c2 = _ := h4
  obtain rfl : c4 = _ := h5
  obtain rfl : d4 = _ := h6
  have := hc2 (j % 5) u h2
  rwa [show off + j / 5 * 5 + j % 5 = off + j by omega] at this
/-- A slice within the slice. -/
theorem row_at {w : World} {A : Option Addr} {n : Nat} {zs : List (List R5)} (h : Els 1 (rSl 5 rRep) w A n zs) {k : Nat} (hk : k < n) :
    ∃ b off, A = some ⟨b, off, none⟩ ∧ b < w.heap.size ∧ ∃ A1 n1 c1 rs, w.cell? ⟨b, off + k, none⟩ = some (.slice A1 n1 c1) ∧ rs.length = n1 ∧ n1 ≤ maxLen ∧ Rd w 5 A1 n1 (flat5 rs) := by
  obtain ⟨hl, _, h3⟩ := h
  obtain ⟨b, off, rfl, hb, hc⟩ := h3 (by omega)
  obtain ⟨x, hx⟩ : ∃ x, zs[k]? = some x := ⟨_, List.getElem?_eq_getElem (by omega)⟩
  obtain ⟨c, hc1, hc2, A1, n1, c1, rfl, he⟩ := hc k x hx
  refine ⟨b, off, rfl, hb (by omega), A1, n1, c1, x, ?_, he.1, he.2.1, els_rd he⟩
  have := hc2 0 _ rfl
  simpa using this
/-- Hear, of one that was sent nothing too. -/
theorem HB.hear0 {B : Nat} {w0 w : World} {p r : Nat} {h : HS} (hb : HB B w0 w p r h) (ok : okH h) (A : Option Addr) (n c : Nat) (rs : List R5) (now : Int) (hrd : Rd w 5 A n (flat5 rs)) (hlen : rs.length = n) (hn1 : n ≤ 1000000) (hA : ∀ b off, A = some ⟨b, off, none⟩ → b ≠ p ∧ b ≠ r) :
    Calls Try.prog 14 #[.pointer (some ⟨p, 0, none⟩), .slice A n c, .int .i64 now] w
      fun e w' => ∃ gv lv mg ml, e = .returned (.tuple #[gv, lv]) ∧ HB B w0 w' p r (hearL h rs).1 ∧ HH w w' p r w.heap.size (hearL h rs) gv lv mg ml := by
  by_cases h0 : h.next = 0
  · have hl : h.l = [] := by
      cases hh : h.l with
      | nil => rfl
      | cons x l =>
        have := ok.lt x (by rw [hh]; simp)
        omega
    have he : ∀ l : List R5, hearL h l = (h, [], []) := by
      intro l
      induction l with
      | nil => rfl
      | cons x l ih =>
        show List.foldl hear1 (hear1 (h, [], []) x) l = _
        have : hear1 (h, [], []) x = (h, [], []) := by
          unfold hear1
          simp only [hl]
          rfl
        rw [this]
        exact ih
    rw [he]
    obtain ⟨c0, c1, c2, c3, c4, c5, hf, hp, hrl⟩ := hb.hr.cells
    refine (hear_zero p r h _ now w hb.hr h0).mono ?_
    rintro e w' ⟨rfl, rfl⟩
    exact ⟨_, _, 0, 0, rfl, hb, hb.hr, ok, ⟨by simp [flat6], .inl ⟨rfl, rfl⟩⟩, ⟨by simp [flat3], .inl ⟨rfl, rfl⟩⟩, rfl, rfl, (fun b e => by simp [Value.ownBlock] at e), Nat.le_refl _, hp, hrl, Kept.refl _ _⟩
  · exact hb.hear ok (by have := ok.next0; omega) A n c rs now hrd hlen hn1 hA
/-- The history and what was told. -/
structure OS (B : Nat) (w0 w : World) (p r g k : Nat) (h : HS) (O : List Int) : Prop where
  hb : HB B w0 w p r h
  row : w.rowIs g 3 k (tvv O)
  gb : B ≤ g
  gp : g ≠ p
  gr : g ≠ r
  sz : g < w.heap.size
section
variable {B : Nat} {w0 w w' : World} {p r g k : Nat} {h : HS} {O O' : List Int}
theorem OS.run (x : OS B w0 w p r g k h O) (hb : Below w.heap.size w w') : OS B w0 w' p r g k h O :=
  ⟨x.hb.run hb, x.row.of_block (hb.block g x.sz), x.gb, x.gp, x.gr, Nat.lt_of_lt_of_le x.sz hb.size⟩
theorem OS.set (x : OS B w0 w p r g k h O) (s : Nat) (u : Value) (hu : ∀ i, (if i = s then u else tvv O i) = tvv O' i) : OS B w0 (w.setCell ⟨g, s, none⟩ u) p r g k h O' := by
  have hk : Kept (fun i => i = g) w (w.setCell ⟨g, s, none⟩ u) := Kept.setCell (S := fun i => i = g) (Kept.refl _ _) (.inl rfl) u
  exact ⟨⟨x.hb.hr.kept hk (fun e => x.gp e.symm) (fun e => x.gr e.symm), x.hb.bp, x.hb.br, Nat.le_trans x.hb.sz hk.size, x.hb.below.trans (hk.below x.hb.sz (fun i e => by rw [e]; exact x.gb))⟩,
    (x.row.set s u).congr (fun i _ => hu i), x.gb, x.gp, x.gr, Nat.lt_of_lt_of_le x.sz hk.size⟩
theorem OS.told (x : OS B w0 w p r g k h O) (ho : ∀ y, y ∈ O ↔ y ∈ O') : OS B w0 w p r g k h O' :=
  ⟨x.hb, x.row.congr fun i _ => by unfold tvv; rw [tv_congr ho], x.gb, x.gp, x.gr, x.sz⟩
end
theorem flat6_get (l : List A6) (i : Nat) (x : A6) (h : l[i]? = some x) : (flat6 l)[i * 6]? = some (.int .i64 x.1.1) ∧ (flat6 l)[i * 6 + 2]? = some (.int .i64 x.1.2.2) := by
  induction l generalizing i with
  | nil => simp at h
  | cons y l ih =>
    have e : flat6 (y :: l) = .int .i64 y.1.1 :: .int .i64 y.1.2.1 :: .int .i64 y.1.2.2 :: .int .i64 y.2.1 :: .bool y.2.2.1 :: .bool y.2.2.2 :: flat6 l := rfl
    rw [e]
    cases i with
    | zero =>
      simp at h
      subst h
      exact ⟨rfl, rfl⟩
    | succ i =>
      simp at h
      have := ih i h
      rw [show (i + 1) * 6 = i * 6 + 1 + 1 + 1 + 1 + 1 + 1 by omega, show i * 6 + 1 + 1 + 1 + 1 + 1 + 1 + 2 = (i * 6 + 2) + 1 + 1 + 1 + 1 + 1 + 1 by omega]
      simp only [List.getElem?_cons_succ]
      exact this
/-- What Hear told, beside what was told before. -/
structure RS (B : Nat) (w0 w : World) (p r g k : Nat) (s : H3) (O : List Int) (Ag Al : Option Addr) : Prop where
  os : OS B w0 w p r g k s.1 O
  rg : Rd w 6 Ag s.2.1.length (flat6 s.2.1)
  rl : Rd w 3 Al s.2.2.length (flat3 s.2.2)
  ng : ∀ b off, Ag = some ⟨b, off, none⟩ → b ≠ g
  nl : ∀ b off, Al = some ⟨b, off, none⟩ → b ≠ g
section
variable {B : Nat} {w0 w w' : World} {p r g k : Nat} {s : H3} {O O' : List Int} {Ag Al : Option Addr}
theorem RS.run (x : RS B w0 w p r g k s O Ag Al) (hb : Below w.heap.size w w') : RS B w0 w' p r g k s O Ag Al :=
  ⟨x.os.run hb, x.rg.below hb, x.rl.below hb, x.ng, x.nl⟩
theorem RS.set (x : RS B w0 w p r g k s O Ag Al) (j : Nat) (u : Value) (hu : ∀ i, (if i = j then u else tvv O i) = tvv O' i) : RS B w0 (w.setCell ⟨g, j, none⟩ u) p r g k s O' Ag Al :=
  have hk : Kept (fun i => i = g) w (w.setCell ⟨g, j, none⟩ u) := Kept.setCell (S := fun i => i = g) (Kept.refl _ _) (.inl rfl) u
  ⟨x.os.set j u hu, x.rg.kept hk x.ng, x.rl.kept hk x.nl, x.ng, x.nl⟩
end
/-- Hear, beside what was told. -/
theorem OS.hear {B : Nat} {w0 w : World} {p r g k : Nat} {h : HS} (o : OS B w0 w p r g k h (ks h.l)) (on : On k h) (A : Option Addr) (n c : Nat) (rs : List R5) (now : Int) (hrd : Rd w 5 A n (flat5 rs)) (hlen : rs.length = n) (hn1 : n ≤ 1000000) (hA : ∀ b off, A = some ⟨b, off, none⟩ → b ≠ p ∧ b ≠ r) :
    Calls Try.prog 14 #[.pointer (some ⟨p, 0, none⟩), .slice A n c, .int .i64 now] w
      fun e w' => ∃ Ag Al mg ml cg cl, e = .returned (.tuple #[.slice Ag mg cg, .slice Al ml cl]) ∧ mg = (hearL h rs).2.1.length ∧ ml = (hearL h rs).2.2.length ∧ RS B w0 w' p r g k (hearL h rs) (ks (all3 (hearL h rs))) Ag Al := by
  refine (o.hb.hear0 on.ok A n c rs now hrd hlen hn1 hA).mono ?_
  rintro e w' ⟨gv, lv, mg, ml, rfl, h1, h2⟩
  obtain ⟨Ag, cg, rfl⟩ := own_slice h2.og
  obtain ⟨Al, cl, rfl⟩ := own_slice h2.ol
  have hg : ∀ (A : Option Addr) (m c : Nat) (sz : Nat) (t : TypeId) (xs : List Value), w'.ownsRow w.heap.size t sz (.slice A m c) m xs → ∀ b off, A = some ⟨b, off, none⟩ → b ≠ g := by
    rintro A m c sz t xs ho b off rfl
    have := own_ge ho (k := b) rfl
    have := o.sz
    omega
  refine ⟨Ag, Al, mg, ml, cg, cl, rfl, h2.lg, h2.ll, ⟨h1, o.row.of_block (h2.kp.block g o.sz ?_) |>.congr fun i _ => ?_, o.gb, o.gp, o.gr, Nat.lt_of_lt_of_le o.sz h2.kp.size⟩, h2.lg ▸ Rd.of_own h2.og, h2.ll ▸ Rd.of_own h2.ol, hg _ _ _ _ _ _ h2.og, hg _ _ _ _ _ _ h2.ol⟩
  · have h3 := o.gp; have h4 := o.gr; have h5 := o.sz; omega
  · unfold tvv
    rw [tv_congr fun x => ((on.hear rs).2.2.2 x).symm]
end Go.Proofs.Ytfemmbipglpalaa.History
