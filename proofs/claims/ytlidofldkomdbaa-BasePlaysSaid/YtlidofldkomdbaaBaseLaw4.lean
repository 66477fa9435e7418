/- BaseAbove: what it comes to; no condition but what data there is. -/
import Derived.Test.YtlidofldkomdbaaBaseLaw3
namespace Go.Proofs.Ytlidofldkomdbaa.Base
open Go.RowKit Go.Proofs.Ytlidofldkomdbaa.Plain Go.Proofs.Ytlidofldkomdbaa.Heap Go.Proofs.Ytlidofldkomdbaa.Open

theorem add_br (at_ delay : Int) (p : Nat) (w : World) (s : BS) (h : BR w p s) (ok : okB s) : Calls Try.prog 10 #[.pointer (some ⟨p, 0, none⟩), .int .i64 at_, .int .i64 delay] w
    fun e w' => e = .returned (.int .i64 (bstep s at_ delay).2) ∧ BR w' p (bstep s at_ delay).1 ∧ Kept (fun k => k = p) w w' := by
  have hr := row_bd ok at_
  have h3 := s3_ok ok at_ delay ((hold at_ 0 1125899906842624 / s.width) % s.rows).toNat
  have hl := lst_bd h3.least s.rows.toNat
  have e0 := ok.rows0
  have e1 := ok.rows1
  have hj0 := Int.emod_nonneg (hold at_ 0 1125899906842624 / s.width) (show s.rows ≠ 0 by omega)
  by_cases hle : hold at_ 0 1125899906842624 / s.width ≤ (up s (hold at_ 0 1125899906842624 / s.width)).newest - s.rows
  · have hs : bstep s at_ delay = (up s (hold at_ 0 1125899906842624 / s.width), 0) := by unfold bstep; exact if_pos hle
    rw [hs]
    have hu : ¬ (s.any = false ∨ s.newest < hold at_ 0 1125899906842624 / s.width) := by
      intro hu
      unfold up at hle
      rw [if_pos hu] at hle
      simp only at hle
      omega
    have hup : up s (hold at_ 0 1125899906842624 / s.width) = { s with queue := 0 } := by unfold up; rw [if_neg hu]
    rw [hup] at hle ⊢
    have ha : s.any = true := by
      cases h : s.any with
      | false => exact absurd (.inl h) hu
      | true => rfl
    exact add_old at_ delay p w s h s.rows.toNat (by omega) (by omega) (by omega) ok.width ok.new0 ok.new1 _ rfl ha hle
  · unfold bstep
    simp only [if_neg hle]
    exact add_new at_ delay p w s h s.rows.toNat (by omega) (by omega) (by omega) ok.width ok.new0 ok.new1 _ _ rfl rfl _ (by omega) _ rfl hl hle
/-- Two bases of the call's own. -/
structure PB (B : Nat) (w0 w : World) (p q : Nat) (s t : BS) : Prop where
  ne : p ≠ q
  bp : B ≤ p
  bq : B ≤ q
  sz : B ≤ w.heap.size
  below : Below B w0 w
  l : BR w p s
  r : BR w q t
section
variable {B : Nat} {w0 w : World} {p q : Nat} {s t : BS}
theorem PB.left (h : PB B w0 w p q s t) (ok : okB s) (at_ delay : Int) : Calls Try.prog 10 #[.pointer (some ⟨p, 0, none⟩), .int .i64 at_, .int .i64 delay] w
    fun e w' => e = .returned (.int .i64 (bstep s at_ delay).2) ∧ PB B w0 w' p q (bstep s at_ delay).1 t :=
  (add_br at_ delay p w s h.l ok).mono fun _ _ ⟨h1, h2, h3⟩ => ⟨h1, h.ne, h.bp, h.bq, Nat.le_trans h.sz h3.size, h.below.trans (h3.below h.sz (fun i hi => by rw [hi]; exact h.bp)), h2, h.r.kept h3 (fun e => h.ne e.symm)⟩
theorem PB.right (h : PB B w0 w p q s t) (ok : okB t) (at_ delay : Int) : Calls Try.prog 10 #[.pointer (some ⟨q, 0, none⟩), .int .i64 at_, .int .i64 delay] w
    fun e w' => e = .returned (.int .i64 (bstep t at_ delay).2) ∧ PB B w0 w' p q s (bstep t at_ delay).1 :=
  (add_br at_ delay q w t h.r ok).mono fun _ _ ⟨h1, h2, h3⟩ => ⟨h1, h.ne, h.bp, h.bq, Nat.le_trans h.sz h3.size, h.below.trans (h3.below h.sz (fun i hi => by rw [hi]; exact h.bq)), h.l.kept h3 h.ne, h2⟩
theorem PB.run (h : PB B w0 w p q s t) {w' : World} (hb : Below w.heap.size w w') : PB B w0 w' p q s t :=
  ⟨h.ne, h.bp, h.bq, Nat.le_trans h.sz hb.size, below_then h.below h.sz hb, h.l.kept (Kept.of_below (S := fun _ => False) hb) id, h.r.kept (Kept.of_below (S := fun _ => False) hb) id⟩
theorem PB.drew (h : PB B w0 w p q s t) : PB B w0 w.drew p q s t := h.run (below_drewN (Below.refl _ _) 1)
theorem PB.drewN (h : PB B w0 w p q s t) (k : Nat) : PB B w0 (w.drewN k) p q s t := h.run (below_drewN (Below.refl _ _) k)
theorem PB.least (h : PB B w0 w p q s t) (ok : okB s) : Calls Try.prog 11 #[.pointer (some ⟨p, 0, none⟩)] w
    fun e w' => e = .returned (.tuple #[.int .i64 (lst s s.rows.toNat).1, .bool (lst s s.rows.toNat).2]) ∧ PB B w0 w' p q s t := by
  have e0 := ok.rows0
  have e1 := ok.rows1
  have e2 := ok.new0
  have e3 := ok.new1
  exact (least_any p w s h.l s.rows.toNat (by omega) (by omega) (by omega) (IntWalk.i64_in _ (by omega))).mono fun _ _ ⟨h1, h2⟩ => ⟨h1, h.run h2⟩
theorem PB.queue (h : PB B w0 w p q s t) : Calls Try.prog 16 #[.pointer (some ⟨p, 0, none⟩)] w
    fun e w' => e = .returned (.int .i64 s.queue) ∧ PB B w0 w' p q s t :=
  (queue_any p w s h.l).mono fun _ _ ⟨h1, h2⟩ => ⟨h1, h2 ▸ h⟩
end
def shift (d : Int) (h : List (Int × Int)) : List (Int × Int) := h.map fun x => (x.1, x.2 + d)
theorem IsL.shift {h : List (Int × Int)} {lo l d : Int} (hl : IsL h lo (l, true)) : IsL (shift d h) lo (l + d, true) := by
  rcases hl with ⟨hl, _⟩ | ⟨_, ⟨x, h1, h2, h3⟩, h4⟩
  · cases hl
  · refine .inr ⟨rfl, ⟨(x.1, x.2 + d), List.mem_map.2 ⟨x, h1, rfl⟩, h2, by simp only at h3 ⊢; omega⟩, fun y hy hc => ?_⟩
    obtain ⟨z, hz, rfl⟩ := List.mem_map.1 hy
    have := h4 z hz hc
    simp only at this ⊢
    omega
/-- Two bases, the second one with d more in all delays. -/
structure TW (R d : Int) (s t : BS) : Prop where
  oks : okB s
  okt : okB t
  ws : s.width = 1000
  wt : t.width = 1000
  rs : s.rows = R
  rt : t.rows = R
  nw : s.newest = t.newest
  an : s.any = t.any
  inv : ∃ h, Inv s h ∧ Inv t (Base.shift d h)
theorem tw_step {R d at_ D : Int} {s t : BS} (h : TW R d s t) (h1 : 0 ≤ at_) (h2 : at_ < 1099511627776) (h3 : -1099511627776 < D) (h4 : D < 1099511627776) (h5 : -1099511627776 < d) (h6 : d < 1099511627776) :
    TW R d (bstep s at_ D).1 (bstep t at_ (D + d)).1 ∧ (bstep t at_ (D + d)).2 = (bstep s at_ D).2 ∧ 0 ≤ (bstep s at_ D).2 ∧ ∃ L, lst (bstep s at_ D).1 R.toNat = (L, true) ∧ (0 < (bstep s at_ D).2 → L = D - (bstep s at_ D).2) ∧ (bstep s at_ D).2 ≤ 4503599627370496 := by
  obtain ⟨oks, okt, ws, wt, rs, rt, nw, an, h, is, it⟩ := h
  have H1 : hold D (-1125899906842624) 1125899906842624 = D := hold_id (by omega) (by omega)
  have H2 : hold (D + d) (-1125899906842624) 1125899906842624 = D + d := hold_id (by omega) (by omega)
  obtain ⟨n, hn⟩ : ∃ n, n = at_ / 1000 := ⟨_, rfl⟩
  have N1 : hold at_ 0 1125899906842624 / s.width = n := by rw [ws, hold_id (by omega) (by omega), hn]
  have N2 : hold at_ 0 1125899906842624 / t.width = n := by rw [wt, hold_id (by omega) (by omega), hn]
  obtain ⟨r1, w1, n1, a1, v1, v1'⟩ := bstep_facts s at_ D n D N1 H1
  obtain ⟨r2, w2, n2, a2, v2, v2'⟩ := bstep_facts t at_ (D + d) n (D + d) N2 H2
  have hu : (up s n).newest = (up t n).newest := by unfold up; rw [an, nw]; split <;> rfl
  have i1 := inv_step is oks at_ D
  rw [N1, H1] at i1
  have i2 := inv_step it okt at_ (D + d)
  rw [N2, H2] at i2
  have hsh : shift d h ++ [(n, D + d)] = shift d (h ++ [(n, D)]) := by simp [shift]
  rw [hsh] at i2
  have o1 := bstep_ok oks at_ D
  have o2 := bstep_ok okt at_ (D + d)
  have l1 := lst_inv i1 o1
  have l2 := lst_inv i2 o2
  have e0 := oks.rows0
  obtain ⟨x, hx, hx2⟩ := i1.has a1
  rw [r1, rs] at l1
  rw [r2, rt] at l2
  rw [rs] at v1 v1'
  rw [rt] at v2 v2'
  rcases l1 with ⟨_, l1⟩ | ⟨la, lb, lc⟩
  · exact absurd (by omega) (l1 x hx)
  · obtain ⟨L, hL⟩ : ∃ L, lst (bstep s at_ D).1 R.toNat = (L, true) := ⟨_, Prod.ext rfl la⟩
    rw [hL] at lb lc v1'
    have l1' : IsL (h ++ [(n, D)]) ((bstep s at_ D).1.newest - R) (L, true) := .inr ⟨rfl, lb, lc⟩
    have l3 := l1'.shift (d := d)
    rw [n1, hu, ← n2] at l3
    have hL2 := l2.uniq l3
    rw [hL2] at v2'
    refine ⟨⟨o1, o2, w1.trans ws, w2.trans wt, r1.trans rs, r2.trans rt, by rw [n1, n2, hu], by rw [a1, a2], _, i1, i2⟩, ?_⟩
    by_cases hle : n ≤ (up s n).newest - R
    · rw [v1 hle, v2 (by rw [← hu]; exact hle)]
      exact ⟨rfl, Int.le_refl _, L, hL, by omega, by omega⟩
    · have hl := lc (n, D) (by simp) (by simp only; omega)
      simp only at hl
      have hLb : ∃ y ∈ h ++ [(n, D)], y.2 = L := by obtain ⟨y, hy, _, hy2⟩ := lb; exact ⟨y, hy, hy2⟩
      rw [v1' hle, v2' (by rw [← hu]; exact hle)]
      refine ⟨by simp only; omega, by simp only; omega, L, hL, by simp only; omega, ?_⟩
      have := lst_bd o1.least R.toNat
      rw [hL] at this
      simp only at this ⊢
      omega
/-- A sample at a place of a slice. -/
theorem smp_at {w : World} {A : Option Addr} {n : Nat} {zs : List (Int × Int)} (h : Els 2 (rTwo (rInt .i64) (rInt .i64)) w A n zs) {k : Nat} (hk : k < n) :
    ∃ b off, A = some ⟨b, off, none⟩ ∧ b < w.heap.size ∧ ∃ a0 a1, zs[k]? = some (a0, a1) ∧ (Lit.int .i64 a0).wf = true ∧ (Lit.int .i64 a1).wf = true ∧ w.cell? ⟨b, off + k * 2, none⟩ = some (.int .i64 a0) ∧ w.cell? ⟨b, off + k * 2 + 1, none⟩ = some (.int .i64 a1) := by
  obtain ⟨hl, _, h3⟩ := h
  obtain ⟨b, off, rfl, hb, hc⟩ := h3 (by omega)
  obtain ⟨x, hx⟩ : ∃ x, zs[k]? = some x := ⟨_, List.getElem?_eq_getElem (by omega)⟩
  obtain ⟨c, hc1, hc2, c1, c2, hc, ⟨h1, g1⟩, h2, g2⟩ := hc k x hx
  subst h1 h2 hc
  exact ⟨b, off, rfl, hb (by omega), x.1, x.2, hx, g1, g2, hc2 0 _ rfl, hc2 1 _ rfl⟩
set_option maxHeartbeats 1000000 in
set_option maxRecDepth 10000 in
theorem BaseAbove_any (rows : Int) (A : Option Addr) (n c : Nat) (zs : List (Int × Int)) (by_ : Int) (w : World) (_ : (Lit.int .i64 rows).wf = true) (h1 : Els 2 (rTwo (rInt .i64) (rInt .i64)) w A n zs) (_ : (Lit.int .i64 by_).wf = true) :
    Calls Try.prog 6 #[.int .i64 rows, .slice A n c, .int .i64 by_] w fun e w' => e = .returned (.bool true) ∧ Below w.heap.size w w' := by
  have R1 := Lib.hid h1
  clear h1
  have m0 := Int.emod_nonneg rows (show (64 : Int) ≠ 0 by omega)
  have m1 := Int.emod_lt_of_pos rows (show (0 : Int) < 64 by omega)
  have b1 := tmod_bd by_ (m := 1099511627776) (by omega)
  obtain ⟨d, ed⟩ : ∃ d, by_.tmod 1099511627776 = d := ⟨_, rfl⟩
  rw [ed] at b1
  have td : wrap64 d = d := w64 (by omega) (by omega)
  go_enter Try.func6, Try.ntmps6
  go_wp2_with fail
  refine (mod_any rows 64 _ (by decide) (by decide)).mono ?_
  rintro e w1 ⟨rfl, rfl⟩
  obtain ⟨k, hk⟩ : ∃ k, k = 1 + rows % 64 := ⟨_, rfl⟩
  have tk : wrap64 (1 + rows % 64) = k := by rw [hk]; exact w64 (by omega) (by omega)
  have k1 : 1 ≤ k := by omega
  have k2 : k ≤ 64 := by omega
  have ok0 := fresh_ok (width := 1000) (rows := k) (by omega) k1 k2
  clear hk m0 m1
  generalize rows % 64 = m at *
  go_wp2_with fail
  simp only [tk]
  refine (new_bb 1000 k _ (by decide) (by decide) (by omega) (by omega)).mono ?_
  rintro e w1 ⟨rfl, h1, h1b⟩
  have H1 := Lib.hid (And.intro h1 h1b); clear h1 h1b
  go_wp2_with fail
  refine (new_bb 1000 k _ (by decide) (by decide) (by omega) (by omega)).mono ?_
  rintro e w2 ⟨rfl, h2, h2b⟩
  obtain ⟨p, hp⟩ : ∃ p, p = w.heap.size := ⟨_, rfl⟩
  obtain ⟨q, hq⟩ : ∃ q, q = w1.heap.size := ⟨_, rfl⟩
  have hlt : p < q := by
    have := H1.out.1.2.2.2.lt
    omega
  have H2 := Lib.hid (show PB w.heap.size w w2 p q (fresh 1000 k) (fresh 1000 k) from ⟨by omega, by omega, by omega, by have := h2b.size; omega, below_then H1.out.2 H1.out.2.size h2b, by rw [hp]; exact H1.out.1.2.2.2.kept (Kept.of_below (S := fun _ => False) h2b) id, by rw [hq]; exact h2.2.2.2⟩)
  rw [← hp, ← hq]
  have HP := Lib.hid hp
  clear h2 h2b hp hq tk H1 hlt
  go_wp2
  go_loopw [13] (fun iv wr => ∃ (i : Nat) (s t : BS), i ≤ 100 ∧ iv = .int .i64 i ∧ TW k d s t ∧ PB w.heap.size w wr p q s t) (fun iv _ => 100 - (intOf iv).toNat)
  case atStart => exact ⟨0, _, _, by omega, rfl, ⟨ok0, ok0, rfl, rfl, rfl, rfl, rfl, rfl, [], inv_fresh _ _, inv_fresh _ _⟩, H2.out⟩
  case round =>
    obtain ⟨i, s, t, hi, rfl, ht, hb⟩ := hrel
    have HT := Lib.hid ht
    have HB := Lib.hid hb
    clear ht hb H2
    by_cases hlt : i < n
    · by_cases hlt2 : (i : Int) < 100
      · obtain ⟨b, off, rfl, hbl, a0, a1, hz, _, _, q0, q1⟩ := smp_at R1.out hlt
        have x0 : wr.cell? ⟨b, off + i * 2, none⟩ = some (.int .i64 a0) := (HB.out.below.cell (p := ⟨b, off + i * 2, none⟩) hbl).trans q0
        have x1 : wr.cell? ⟨b, off + i * 2 + 1, none⟩ = some (.int .i64 a1) := (HB.out.below.cell (p := ⟨b, off + i * 2 + 1, none⟩) hbl).trans q1
        have c1 := tmod_bd a1 (m := 1099511627776) (by omega)
        obtain ⟨D, eD⟩ : ∃ D, a1.tmod 1099511627776 = D := ⟨_, rfl⟩
        rw [eD] at c1
        have c0 := Int.emod_nonneg a0 (show (1099511627776 : Int) ≠ 0 by omega)
        have c2 := Int.emod_lt_of_pos a0 (show (0 : Int) < 1099511627776 by omega)
        obtain ⟨T, eT⟩ : ∃ T, a0 % 1099511627776 = T := ⟨_, rfl⟩
        rw [eT] at c0 c2
        have HS := Lib.hid (tw_step (R := k) (d := d) (at_ := T) (D := D) HT.out c0 c2 c1.1 c1.2 b1.1 b1.2)
        have ET := Lib.hid eT
        have tD : wrap64 D = D := w64 (by omega) (by omega)
        have tDd : wrap64 (D + d) = D + d := w64 (by omega) (by omega)
        clear q0 q1 hz eT
        go_wp2_with fail
        go_region_held3 (fun w' => w'.cell? ⟨b, off + i * 2, none⟩ = some (.int .i64 a0) ∧ w'.cell? ⟨b, off + i * 2 + 1, none⟩ = some (.int .i64 a1)) (first | assumption | exact ⟨x0, x1⟩)
          (first | (go_at_call 18; refine (mod64_any a0 1099511627776 _ (by decide) (by decide)).mono ?_; rintro e w3 ⟨rfl, rfl⟩; rw [ET.out]))
        obtain ⟨X, eX⟩ : ∃ X, (bstep s T D).2 = X := ⟨_, rfl⟩
        have hsx := HS.out
        rw [eX] at hsx
        obtain ⟨g1, g2, g3, L, g4, g5, g6⟩ := hsx
        have EX := Lib.hid eX
        have G1 := Lib.hid g1
        have G2 := Lib.hid g2
        have G4 := Lib.hid g4
        have hgr : (bstep s T D).1.rows = k := g1.rs
        have GR := Lib.hid hgr
        have GQ := Lib.hid ((bstep_queue s T D).trans eX)
        clear g1 g2 g4 eX HS hgr
        have nx : ¬ X < 0 := by omega
        rcases (by omega : X = 0 ∨ (0 < X ∧ D - X = L)) with hX | ⟨hX, hXL⟩
        all_goals
          clear g5
          have tX : wrap64 (D - X) = D - X := w64 (by omega) (by omega)
          try subst hX
          try rw [hXL] at tX
          go_wp2_with fail
          refine (HB.out.drew.left HT.out.oks T D).mono ?_
          rintro e w3 ⟨rfl, h3⟩
          rw [EX.out]
          have H3 := Lib.hid h3; clear h3
          go_wp2_with fail
          refine (H3.out.right HT.out.okt T (D + d)).mono ?_
          rintro e w4 ⟨rfl, h4⟩
          rw [G2.out]
          have H4 := Lib.hid h4; clear h4
          go_wp2_with fail
          refine (H4.out.queue).mono ?_
          rintro e w5 ⟨rfl, h5⟩
          rw [GQ.out]
          have H5 := Lib.hid h5; clear h5
          go_wp2_with fail
          refine (H5.out.least G1.out.oks).mono ?_
          rintro e w6 ⟨rfl, h6⟩
          rw [GR.out, G4.out]
          have H6 := Lib.hid h6; clear h6
          go_wp2
          go_roundw
          case rel => exact ⟨i + 1, _, _, by omega, by go_num, G1.out, H6.out⟩
          case measure => simp [intOf]; omega
      · go_wp2_with fail
        refine (wakes_any _).mono ?_
        rintro e w3 ⟨rfl, hb⟩
        go_wp2
        go_ret
        exact ⟨rfl, below_then HB.out.below HB.out.sz hb⟩
    · go_wp2_with fail
      refine (wakes_any _).mono ?_
      rintro e w3 ⟨rfl, hb⟩
      go_wp2
      go_ret
      exact ⟨rfl, below_then HB.out.below HB.out.sz hb⟩
end Go.Proofs.Ytlidofldkomdbaa.Base
