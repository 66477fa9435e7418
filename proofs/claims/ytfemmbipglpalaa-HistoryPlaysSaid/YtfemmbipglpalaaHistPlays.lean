/- The law HistoryPlays; no condition but that the arguments are of their kinds. -/
import Derived.Test.YtfemmbipglpalaaHistPQ
import Derived.Deep.CutBlock
namespace Go.Proofs.Ytfemmbipglpalaa.History
open Go.RowKit Go.Proofs.Ytfemmbipglpalaa.Plain Go.Proofs.Ytfemmbipglpalaa.Heap Go.Proofs.Ytfemmbipglpalaa.Maps Go.Proofs.Ytfemmbipglpalaa.Rows Go.Proofs.Ytfemmbipglpalaa.Open

abbrev Stp : Type := Int × Int × Int × List R5
def rStp : Rel Stp := rTwo (rInt .i64) (rTwo (rInt .i64) (rTwo (rInt .i64) (rSl 5 rRep)))
theorem stp_at {w : World} {A : Option Addr} {n : Nat} {zs : List Stp} (h : Els 4 rStp w A n zs) {k : Nat} (hk : k < n) :
    ∃ b off kd sz at_ rs RA rc, A = some ⟨b, off, none⟩ ∧ b < w.heap.size ∧ -9223372036854775808 ≤ at_ ∧ at_ ≤ 9223372036854775807 ∧ w.cell? ⟨b, off + k * 4, none⟩ = some (.int .i64 kd) ∧ w.cell? ⟨b, off + k * 4 + 1, none⟩ = some (.int .i64 sz) ∧ w.cell? ⟨b, off + k * 4 + 2, none⟩ = some (.int .i64 at_) ∧
      w.cell? ⟨b, off + k * 4 + 3, none⟩ = some (.slice RA rs.length rc) ∧ Rd w 5 RA rs.length (flat5 rs) := by
  obtain ⟨hl, _, h3⟩ := h
  obtain ⟨b, off, rfl, hb, hc⟩ := h3 (by omega)
  obtain ⟨x, hx⟩ : ∃ x, zs[k]? = some x := ⟨_, List.getElem?_eq_getElem (by omega)⟩
  obtain ⟨c, hc1, hc2, c1, c2, hc, ⟨h1, g1⟩, d1, d2, hd, ⟨h2, g2⟩, e1, e2, he, ⟨h3, g3⟩, RA, m, rc, hs, hels⟩ := hc k x hx
  have hm := hels.1
  subst h1 h2 h3 hs he hd hc
  subst hm
  exact ⟨b, off, x.1, x.2.1, x.2.2.1, x.2.2.2, RA, rc, rfl, hb (by omega), (wf_i64 g3).1, (wf_i64 g3).2, hc2 0 _ rfl, hc2 1 _ rfl, hc2 2 _ rfl, hc2 3 _ rfl, els_rd hels⟩
theorem Rd.kept0 {S : Nat → Prop} {w w' : World} {sz : Nat} {A : Option Addr} {n : Nat} {xs : List Value} (h : Rd w sz A n xs) (hk : Kept S w w') (hS : ∀ b off, A = some ⟨b, off, none⟩ → 0 < n → ¬ S b) : Rd w' sz A n xs :=
  ⟨h.1, fun hn => by
    obtain ⟨b, off, e, hlt, hc⟩ := h.2 hn
    exact ⟨b, off, e, Nat.lt_of_lt_of_le hlt hk.size, fun j u hj => (hk.cell (p := ⟨b, off + j, none⟩) hlt (hS b off e hn)).trans (hc j u hj)⟩⟩
theorem HH.frame {w w' : World} {p r : Nat} {s : H3} {gv lv : Value} {mg ml : Nat} (h : HH w w' p r w.heap.size s gv lv mg ml) : Kept (fun g => g = p ∨ g = r) w w' :=
  h.kp.mono fun i hi e => by
    rcases e with e | e | e
    · exact .inl e
    · exact .inr e
    · omega
set_option maxRecDepth 10000 in
set_option maxHeartbeats 4000000 in
theorem HistoryPlays_any (t : Int) (A : Option Addr) (n c : Nat) (zs : List Stp) (w : World) (_ : (Lit.int .i64 t).wf = true) (h1 : Els 4 rStp w A n zs) :
    Calls Try.prog 6 #[.int .i64 t, .slice A n c] w fun e w' => e = .returned (.bool true) ∧ Below w.heap.size w w' := by
  have R := Lib.hid h1
  clear h1
  by_cases hbad : t < 1 ∨ 1125899906842624 < t
  · have HB1 := Lib.hid (new_bad t w hbad)
    have HB2 := Lib.hid (rnew_bad t w hbad)
    clear hbad
    go_enter Try.func6, Try.ntmps6
    go_wp2_with fail
    refine HB1.out.mono ?_
    rintro e w1 ⟨rfl, hw1⟩
    rw [hw1]
    clear hw1
    go_wp2_with fail
    refine HB2.out.mono ?_
    rintro e w2 ⟨rfl, hw2⟩
    rw [hw2]
    clear hw2
    go_wp2_with fail
    go_loopw [9] (fun iv wx => iv = .int .i64 0 ∧ wx = w) (fun _ _ => 0)
    case atStart => exact ⟨rfl, rfl⟩
    case round =>
      obtain ⟨rfl, rfl⟩ := hrel
      by_cases hn : (0 : Int) < (n : Int)
      all_goals
        go_wp2_with fail
        refine (wakes_any _).mono ?_
        rintro e w5 ⟨rfl, h5⟩
        have H5 := Lib.hid h5
        clear h5
        go_wp2_with fail
        go_ret
        exact ⟨rfl, H5.out⟩
  · have t0 : 1 ≤ t := by omega
    have t1 : t ≤ 1125899906842624 := by omega
    have HN1 := Lib.hid (new_hb t w (by omega) (by omega))
    have HN2 := Lib.hid (fun w1 => rnew_any t w1 (by omega) (by omega))
    have HPF := Lib.hid (pl_fresh t t0 t1)
    clear hbad t0 t1
    go_enter Try.func6, Try.ntmps6
    go_wp2_with fail
    refine HN1.out.mono ?_
    rintro e w1 ⟨p, r, rfl, h1⟩
    have H1 := Lib.hid h1
    clear h1
    go_wp2_with fail
    refine (HN2.out w1).mono ?_
    rintro e w2 ⟨q, rfl, hq, hqs, hk⟩
    have HP0 := Lib.hid (show HP w w2 p r q ⟨t, 0, 0, 0, 0, []⟩ ⟨t, 0, 0, 0, 0, []⟩ (.slice none 0 0) from by
      obtain ⟨_, _, _, _, _, _, _, hp, hr⟩ := H1.out.hr.cells
      have := H1.out.sz
      exact ⟨H1.out.run (hk.below (Nat.le_refl _) (fun _ e => e.elim)), hq, by omega, by omega, by omega, fun g hg => by obtain ⟨_, _, _, e⟩ := hg; cases e⟩)
    clear hq hqs hk H1
    go_wp2_with fail
    go_loopw [9] (fun iv wx => ∃ (i : Nat) (h : HS) (u : Value), (i : Int) ≤ 100 ∧ iv = .int .i64 (i : Int) ∧ h.next ≤ (i : Int) ∧ Pl h ∧ HP w wx p r q h h u) (fun iv _ => ((100 : Int) - intOf iv).toNat)
    case atStart => exact ⟨0, _, _, by omega, rfl, Int.le_refl _, HPF.out, HP0.out⟩
    case round =>
      obtain ⟨i, h, u, hi, rfl, hnx, hpl, hhp⟩ := hrel
      have HQ := Lib.hid hhp
      have PL := Lib.hid hpl
      clear hhp hpl HP0 HPF
      by_cases hgo : (i : Int) < (n : Int) ∧ (i : Int) < 100
      · obtain ⟨hn, h2⟩ := hgo
        obtain ⟨g, off, kd, sz, at_, rs, RA, rc, rfl, hg, ha0, ha1, y0, y1, y2, y3, hrd⟩ := stp_at R.out (k := i) (by omega)
        have z0 := (HQ.out.hb.below.cell (p := ⟨g, off + i * 4, none⟩) hg).trans y0
        have z1 := (HQ.out.hb.below.cell (p := ⟨g, off + i * 4 + 1, none⟩) hg).trans y1
        have z2 := (HQ.out.hb.below.cell (p := ⟨g, off + i * 4 + 2, none⟩) hg).trans y2
        have z3 := (HQ.out.hb.below.cell (p := ⟨g, off + i * 4 + 3, none⟩) hg).trans y3
        have RD0 := Lib.hid hrd
        clear y0 y1 y2 y3 hrd
        obtain ⟨m, hm⟩ : ∃ m, m = rs.length := ⟨_, rfl⟩
        rw [← hm] at z3 RD0
        have HM := Lib.hid hm
        clear hm
        obtain ⟨X, hXX⟩ : ∃ X, X = wr.heap.size := ⟨_, rfl⟩
        obtain ⟨wa, hwa⟩ : ∃ wa, wa = wr.alloc (.cells #[.int .i64 kd, .int .i64 sz, .int .i64 at_, .slice RA m rc] 46) := ⟨_, rfl⟩
        have HQa := Lib.hid (show HP w wa p r q h h u by rw [hwa]; exact HQ.out.run ((Kept.refl _ _).alloc _))
        have hh := heap_alloc_new wr (.cells #[.int .i64 kd, .int .i64 sz, .int .i64 at_, .slice RA m rc] 46)
        have RDa := Lib.hid (show Rd wa 5 RA m (flat5 rs) from RD0.out.below HQa.out.hb.below)
        rw [← hwa, ← hXX] at hh
        have hXl : X < wa.heap.size := (Array.getElem?_eq_some_iff.1 hh).1
        have q0 : wa.cell? ⟨X, 0, none⟩ = some (.int .i64 kd) := by simp only [World.cell?, hh]; rfl
        have q1 : wa.cell? ⟨X, 1, none⟩ = some (.int .i64 sz) := by simp only [World.cell?, hh]; rfl
        have q2 : wa.cell? ⟨X, 2, none⟩ = some (.int .i64 at_) := by simp only [World.cell?, hh]; rfl
        have q3 : wa.cell? ⟨X, 3, none⟩ = some (.slice RA m rc) := by simp only [World.cell?, hh]; rfl
        have HWA := Lib.hid hwa
        have HXX := Lib.hid hXX
        have hXp : X ≠ p ∧ X ≠ r ∧ X ≠ q := by
          obtain ⟨_, _, _, _, _, _, _, hp1, hr1⟩ := HQ.out.hb.hr.cells
          have hq1 := HQ.out.qr.cells.2.2.2.2.2
          omega
        have HNX := Lib.hid (show ¬ (X = p ∨ X = r) ∧ ¬ X = q from ⟨fun e => by rcases e with e | e; exact hXp.1 e; exact hXp.2.1 e, hXp.2.2⟩)
        clear hh hwa hXX hXp
        go_upto_region 9 with fail
        rw [← HWA.out, ← HXX.out]
        clear z0 z1 z2 z3
        by_cases hlong : kd = 1 ∧ 3000 < (m : Int)
        · obtain ⟨rfl, hl⟩ := hlong
          go_wp2_with fail
          go_roundw
          case rel => exact ⟨i + 1, h, u, by omega, by go_num, by omega, PL.out, HQa.out⟩
          case measure => exact measJ 100 i h2
        · go_upto_block 2 with fail
          go_cut [] (fun wx => ∃ (h' : HS) (u' : Value), h'.next ≤ (i : Int) + 1 ∧ Pl h' ∧ HP w wx p r q h' h' u')
          case first =>
            have hk : kd = 0 ∨ ((kd == 0) = false ∧ kd = 1) ∨ ((kd == 0) = false ∧ (kd == 1) = false ∧ kd = 2) ∨ ((kd == 0) = false ∧ (kd == 1) = false ∧ (kd == 2) = false) := by
              simp only [beq_eq_false_iff_ne]
              omega
            rcases hk with rfl | ⟨h0, rfl⟩ | ⟨h0, h1, rfl⟩ | ⟨h0, h1, h2'⟩
            · have HSx := Lib.hid (pl_send PL.out sz at_ (by omega))
              clear hlong
              go_wp2_with fail
              refine (send_any sz at_ p r wa h HQa.out.hb.hr PL.out.ok).mono ?_
              rintro e w3 ⟨rfl, h3, k3⟩
              have H3 := Lib.hid (HQa.out.mine h3 k3)
              replace q1 := ck k3 q1 HNX.out.1
              replace q2 := ck k3 q2 HNX.out.1
              clear h3 k3
              go_wp2_with fail
              refine (rsend_any sz at_ q w3 h u H3.out.qr PL.out.ok).mono ?_
              rintro e w4 ⟨rfl, u4', h4, hu4, k4⟩
              have H4 := Lib.hid (H3.out.theirs h4 hu4 k4)
              clear h4 hu4 k4
              go_wp2_with fail
              go_meet
              exact ⟨_, _, by have := HSx.out.2; omega, HSx.out.1, H4.out⟩
            · have hl : ¬ 3000 < (m : Int) := fun e => hlong ⟨rfl, e⟩
              clear hlong
              have hml : rs.length = m := HM.out.symm
              have HML := Lib.hid hml
              clear hml
              have hsz2 := hear_ok PL.out.ok rs
              have HSZ := Lib.hid hsz2
              have hlen := PL.out.ok.len
              have hg1 : (hearL h rs).2.1.length ≤ 1024 ∧ (hearL h rs).2.2.length ≤ 1024 := by have := hsz2.2.2; omega
              have HG1 := Lib.hid hg1
              clear hsz2 hlen hg1
              go_upto_region 17 with fail
              have HE0 := Lib.hid (show RW (wa.alloc (.cells #[] 51)) 5 (.slice (some ⟨wa.heap.size, 0, none⟩) 0 0) 0 [] from RW.fresh0 wa _ 5)
              go_wp2_with (first
                | (at_builtin
                   refine wpList_src rfl (.tmp 93) (.tmp 95) 31 31 rfl 51 (.agg #[.int .i64 0, .bool false, .int .i64 0, .bool false, .bool false]) 5 32 Try.underlying31 info_rep rfl (by omega) wa.heap.size 0 0 0 [] rfl HE0.out (.slice RA m rc) m (flat5 rs) rfl (rd_src Try.underlying31 (RDa.out.kept ((Kept.refl (fun _ => False) wa).alloc _) (fun _ _ _ => id)) (flat5_one _)) (by omega) ?_
                   intro v3 w3 hr3 hk3 hn3
                   simp only [Nat.zero_add, List.nil_append] at hr3
                   obtain ⟨A3, c3, rfl⟩ := hr3.shape
                   have HR3 := Lib.hid (show Rd w3 5 A3 m (flat5 rs) from hr3.rd)
                   have hka : Kept (fun _ => False) wa w3 := Kept.trans (S := fun _ => False) ((Kept.refl _ wa).alloc _) hk3 (fun g hg e => by omega)
                   have HA3 := Lib.hid (show ∀ b off, A3 = some ⟨b, off, none⟩ → wa.heap.size ≤ b from fun b off e => by
                     have h1 := hn3 b ⟨off, m, c3, by rw [e]⟩
                     simp at h1
                     omega)
                   have H3 := Lib.hid (HQa.out.run hka)
                   replace q2 := ck hka q2 id
                   replace q3 := ck hka q3 id
                   clear hr3 hk3 hn3 hka))
              refine (HB.hear0 H3.out.hb PL.out.ok A3 m c3 rs at_ HR3.out HML.out (by omega) (fun b off e => by
                have h1 := HA3.out b off e
                obtain ⟨_, _, _, _, _, _, _, hp1, hr1⟩ := HQa.out.hb.hr.cells
                omega)).mono ?_
              rintro e w4 ⟨gv, lv, mg, ml, rfl, _, hh4⟩
              obtain ⟨gA, gc, rfl⟩ := own_slice hh4.og
              obtain ⟨lA, lc, rfl⟩ := own_slice hh4.ol
              have hmg := hh4.lg
              have hml := hh4.ll
              have HRg := Lib.hid (show Rd w4 6 gA mg (flat6 (hearL h rs).2.1) from Rd.of_own hh4.og)
              have HRl := Lib.hid (show Rd w4 3 lA ml (flat3 (hearL h rs).2.2) from Rd.of_own hh4.ol)
              have H4 := Lib.hid (H3.out.mine hh4.hr hh4.frame)
              replace q2 := ck hh4.frame q2 HNX.out.1
              replace q3 := ck hh4.frame q3 HNX.out.1
              have HR4 := Lib.hid (HR3.out.kept hh4.frame (fun b off e hs => by
                have h1 := HA3.out b off e
                obtain ⟨_, _, _, _, _, _, _, hp1, hr1⟩ := HQa.out.hb.hr.cells
                rcases hs with hs | hs <;> omega))
              have HK4 := Lib.hid (show ∀ b off, A3 = some ⟨b, off, none⟩ → b ≠ q from fun b off e => by
                have h1 := HA3.out b off e
                have := HQa.out.qr.cells.2.2.2.2.2
                omega)
              have hgn : ∀ b off, gA = some ⟨b, off, none⟩ → 0 < mg → b ≠ q := fun b off e _ => by
                have h1 := own_ge hh4.og (k := b) (by rw [e]; rfl)
                have := H3.out.qr.cells.2.2.2.2.2
                omega
              have hln : ∀ b off, lA = some ⟨b, off, none⟩ → 0 < ml → b ≠ q := fun b off e _ => by
                have h1 := own_ge hh4.ol (k := b) (by rw [e]; rfl)
                have := H3.out.qr.cells.2.2.2.2.2
                omega
              have HGN := Lib.hid hgn
              have HLN := Lib.hid hln
              have HMG := Lib.hid hmg
              have HML2 := Lib.hid hml
              clear hh4 hgn hln hmg hml
              go_wp2_with fail
              refine (rhear_any q h u RA m rc rs w4 H4.out.qr PL.out.ok (RD0.out.below H4.out.hb.below) HML.out (by omega) (fun b off e h0 => by
                obtain ⟨b', off', e', hb', _⟩ := RD0.out.2 h0
                rw [e] at e'
                injection e' with e'
                injection e' with e'
                have := H4.out.bq
                omega)).mono ?_
              rintro e w5 ⟨gA5, gc5, lA5, lc5, u5, rfl, g5, l5, q5, hu5, k5⟩
              have H5 := Lib.hid (H4.out.theirs q5 hu5 k5)
              rw [← HMG.out] at g5 ⊢
              rw [← HML2.out] at l5 ⊢
              have HG5 := Lib.hid (show Rd w5 6 gA5 mg (flat6 (hearL h rs).2.1) from g5.rd)
              have HL5 := Lib.hid (show Rd w5 3 lA5 ml (flat3 (hearL h rs).2.2) from l5.rd)
              have HRg5 := Lib.hid (Rd.kept0 HRg.out k5 HGN.out)
              have HRl5 := Lib.hid (Rd.kept0 HRl.out k5 HLN.out)
              have HR5 := Lib.hid (HR4.out.kept k5 (fun b off e => HK4.out b off e))
              replace q3 := ck k5 q3 HNX.out.2
              have HLL := Lib.hid hl
              clear g5 l5 q5 hu5 k5 q2 hl
              have hz := zero_heard
              go_upto_region 20 with fail
              generalize hw6 : World.alloc w5 _ = w6
              have hk6 : Kept (fun _ => False) w5 w6 := by rw [← hw6]; exact (Kept.refl _ w5).alloc _
              have hn6 : w6.heap[w5.heap.size]? = some (.cells #[.slice gA5 mg gc5, .slice lA5 ml lc5] 59 (0, 0)) := by rw [← hw6]; exact heap_alloc_new w5 _
              obtain ⟨o0, o1, _, _⟩ := two_cells hn6
              replace q3 := ck hk6 q3 id
              have HK6 := Lib.hid hk6
              clear hw6 hn6 hk6 hz
              have hg1 := HG1.out
              rw [← HMG.out, ← HML2.out] at hg1
              obtain ⟨hm1, hm2⟩ := hg1
              go_wp2_with (first
                | (go_at_call 22
                   refine (ackeds_same gA gA5 mg gc gc5 _ w6 (HRg5.out.kept HK6.out (fun _ _ _ => id)) (HG5.out.kept HK6.out (fun _ _ _ => id)) (by omega)).mono ?_
                   rintro e w7 ⟨rfl, k7⟩
                   replace o1 := ck k7 o1 id
                   replace q3 := ck k7 q3 id
                   have HK7 := Lib.hid (HK6.out.trans k7 (fun _ _ h => h))
                   clear k7 o0)
                | (go_at_call 23
                   refine (sents_same lA lA5 ml lc lc5 _ w7 (HRl5.out.kept HK7.out (fun _ _ _ => id)) (HL5.out.kept HK7.out (fun _ _ _ => id)) (by omega)).mono ?_
                   rintro e w8 ⟨rfl, k8⟩
                   replace q3 := ck k8 q3 id
                   have HK8 := Lib.hid (HK7.out.trans k8 (fun _ _ h => h))
                   clear k8 o1)
                | (go_at_call 24
                   refine (reports_same A3 RA m c3 rc rs w8 (HR5.out.kept HK8.out (fun _ _ _ => id)) (RD0.out.below (H5.out.run HK8.out).hb.below) (by have := HLL.out; omega)).mono ?_
                   rintro e w9 ⟨rfl, k9⟩
                   have HK9 := Lib.hid (HK8.out.trans k9 (fun _ _ h => h))
                   clear k9))
              go_meet
              exact ⟨_, _, by have := HSZ.out.2.1; omega, pl_hear PL.out rs, H5.out.run HK9.out⟩
            · clear hlong
              have HAT := Lib.hid (show ∀ x ∈ h.l, 0 ≤ x.2.2 ∧ x.2.2 ≤ 1125899906842624 from fun x hx => by
                have h1 := PL.out.at0 x hx
                have h2 := PL.out.last1
                omega)
              have HEI := Lib.hid (expire_is PL.out at_)
              have HFL := Lib.hid (Nat.le_trans (List.length_filter_le (old at_ h.timeout) h.l) PL.out.ok.len)
              go_wp2_with fail
              go_region_held3 (fun w' => w'.cell? ⟨X, 2, none⟩ = some (.int .i64 at_)) (first | exact q2 | exact Y3 | exact Y4 | exact Y5)
                (first
                  | (go_at_call 18
                     refine (expire_any p r h at_ wa.drew (HQa.out.run ((Kept.refl _ wa).drew)).hb.hr PL.out.ok PL.out.f0 PL.out.f1 ⟨ha0, ha1⟩ HAT.out).mono ?_
                     rintro e w3 ⟨lv, ml, rfl, hh3⟩
                     obtain ⟨lA, lc, rfl⟩ := own_slice hh3.ol
                     have hml : ml = (h.l.filter (old at_ h.timeout)).length := by rw [← HEI.out.1]; exact hh3.ll
                     have Y3 : w3.cell? ⟨X, 2, none⟩ = some (.int .i64 at_) := ck hh3.frame (w := wa.drew) q2 HNX.out.1
                     have HRl := Lib.hid (show Rd w3 3 lA ml (flat3 (h.l.filter (old at_ h.timeout))) by rw [← HEI.out.1]; exact Rd.of_own hh3.ol)
                     have H3 := Lib.hid ((HQa.out.run ((Kept.refl _ wa).drew)).mine hh3.hr hh3.frame)
                     have POK := Lib.hid (pl_expire PL.out at_ hh3.ok)
                     have HLN := Lib.hid (show ∀ b off, lA = some ⟨b, off, none⟩ → 0 < ml → b ≠ q from fun b off e _ => by
                       have h1 := own_ge hh3.ol (k := b) (by rw [e]; rfl)
                       have h2 := HQa.out.qr.cells.2.2.2.2.2
                       have h3 : wa.drew.heap.size = wa.heap.size := rfl
                       omega)
                     have HML := Lib.hid hml
                     clear hh3 hml)
                  | (go_at_call 25
                     refine (rexpire_any at_ q w3 h u H3.out.qr PL.out ha0 ha1).mono ?_
                     rintro e w4 ⟨A4, c4, u4', rfl, r4, _, q4, hu4, k4⟩
                     rw [← HML.out] at r4 ⊢
                     obtain ⟨_, f2, f3, f4, f5, _⟩ := HEI.out
                     have H4 := Lib.hid (H3.out.theirs (q4.first (expire h at_).1 f3 f4 f5 f2) (fun g hg => .inr (hu4 g hg)) k4)
                     have HRl4 := Lib.hid (Rd.kept0 HRl.out k4 HLN.out)
                     have HRr4 := Lib.hid r4.rd
                     have Y4 : w4.cell? ⟨X, 2, none⟩ = some (.int .i64 at_) := ck k4 Y3 HNX.out.2
                     clear r4 q4 hu4 k4 f2 f3 f4 f5)
                  | (go_at_call 23
                     refine (sents_same lA A4 ml lc c4 _ w4 HRl4.out HRr4.out (by have h1 := HML.out; have h2 := HFL.out; omega)).mono ?_
                     rintro e w5 ⟨rfl, k5⟩
                     have H5 := Lib.hid (H4.out.run k5)
                     have Y5 : w5.cell? ⟨X, 2, none⟩ = some (.int .i64 at_) := ck k5 Y4 id
                     clear k5))
              go_wp2_with fail
              go_meet
              exact ⟨_, _, by have := HEI.out.2.2.2.1; omega, POK.out, H5.out⟩
            · clear hlong
              go_wp2_with fail
              go_meet
              exact ⟨h, u, by omega, PL.out, HQa.out⟩
          case rest =>
          obtain ⟨h', u', hn', hpl', hhp'⟩ := hcut
          rename World => wc
          have HQc := Lib.hid hhp'
          have PLc := Lib.hid hpl'
          clear hhp' hpl' q0 q1 q2 q3
          go_wp2_with (first
            | (go_at_call 16; refine (flying_any p r wc h' HQc.out.hb.hr).mono ?_; rintro e w3 ⟨rfl, rfl⟩)
            | (go_at_call 26; refine (rflying_any q wc h' u' HQc.out.qr PLc.out.ok).mono ?_; rintro e w3 ⟨rfl, rfl⟩)
            | (go_at_call 15; refine (count_any p r wc h' HQc.out.hb.hr).mono ?_; rintro e w3 ⟨rfl, rfl⟩)
            | (go_at_call 27; refine (rcount_any q wc h' u' HQc.out.qr).mono ?_; rintro e w3 ⟨rfl, rfl⟩)
            | (go_at_call 17; refine (next_any p r wc h' HQc.out.hb.hr).mono ?_; rintro e w3 ⟨rfl, rfl⟩)
            | (go_at_call 28; refine (rnext_any q wc h' u' HQc.out.qr).mono ?_; rintro e w3 ⟨rfl, rfl⟩))
          go_roundw
          case rel => exact ⟨i + 1, h', u', by omega, by go_num, by omega, PLc.out, HQc.out⟩
          case measure => exact measJ 100 i h2
      · have hgo : ¬ (i : Int) < (n : Int) ∨ ((i : Int) < (n : Int) ∧ ¬ (i : Int) < 100) := by omega
        rcases hgo with hgo | ⟨hgo, hgo2⟩
        all_goals
          go_wp2_with fail
          refine (wakes_any _).mono ?_
          rintro e w5 ⟨rfl, h5⟩
          have H5 := Lib.hid h5
          clear h5
          go_wp2_with fail
          go_ret
          exact ⟨rfl, HQ.out.done H5.out⟩
end Go.Proofs.Ytfemmbipglpalaa.History
