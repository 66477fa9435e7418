/- PacerPlays: calls one behind the other, with the document's answer beside them; no condition. -/
import Derived.Test.YtkjjkepiihdihaaPacePQ
import Derived.Deep.CutBlock
namespace Go.Proofs.Ytkjjkepiihdihaa.Pace
open Go.RowKit Go.Proofs.Ytkjjkepiihdihaa.Plain Go.Proofs.Ytkjjkepiihdihaa.Heap Go.Proofs.Ytkjjkepiihdihaa.Rows Go.Proofs.Ytkjjkepiihdihaa.Open

theorem kept_cell {S : Nat → Prop} {w w' : World} {X k : Nat} {u : Value} (hk : Kept S w w') (hS : ¬ S X) (h : w.cell? ⟨X, k, none⟩ = some u) : w'.cell? ⟨X, k, none⟩ = some u :=
  (hk.cell (p := ⟨X, k, none⟩) (World.block_lt_of_cell? w ⟨X, k, none⟩ h) hS).trans h
set_option maxRecDepth 10000 in
set_option maxHeartbeats 4000000 in
theorem PacerPlays_any (bu qu : Int) (A : Option Addr) (n c : Nat) (zs : List Stp) (w : World) (_ : (Lit.int .i64 bu).wf = true) (_ : (Lit.int .i64 qu).wf = true) (h1 : Els 9 rStp w A n zs) :
    Calls Try.prog 8 #[.int .i64 bu, .int .i64 qu, .slice A n c] w fun e w' => e = .returned (.bool true) ∧ Below w.heap.size w w' := by
  have R := Lib.hid h1
  clear h1
  by_cases hbad : bu < 1500 ∨ 16777216 < bu ∨ qu < 1 ∨ 256 < qu
  · have HB1 := Lib.hid (new_bad bu qu w hbad)
    have HB2 := Lib.hid (rnew_bad bu qu w hbad)
    clear hbad
    go_enter Try.func8, Try.ntmps8
    go_wp2_with fail
    refine HB1.out.mono ?_
    rintro e w1 ⟨rfl, rfl⟩
    go_wp2_with fail
    refine HB2.out.mono ?_
    rintro e w1 ⟨rfl, rfl⟩
    go_wp2_with fail
    go_loopw [11] (fun iv wx => iv = .int .i64 0 ∧ wx = w) (fun _ _ => 0)
    case atStart => exact ⟨rfl, rfl⟩
    case round =>
      obtain ⟨rfl, rfl⟩ := hrel
      by_cases hn : (0 : Int) < (n : Int)
      all_goals
        go_wp2_with fail
        refine (wakes_any _).mono ?_
        rintro e w5 ⟨rfl, h5⟩
        have H5 := Lib.hid h5
        clear h5
        go_wp2_with fail
        go_ret
        exact ⟨rfl, H5.out⟩
  · have HN1 := Lib.hid (new_any (fun g => g < w.heap.size) bu qu w (by omega) (by omega) (by omega) (by omega) (fun _ h => h))
    have HN2 := Lib.hid (fun N w1 hN => rnew_any N bu qu w1 (by omega) (by omega) (by omega) (by omega) hN)
    obtain ⟨s0, hs0⟩ : ∃ s0 : PS, s0 = ⟨bu * 8000000, bu * 8000000, 0, 0, 0, qu, fun _ => []⟩ := ⟨_, rfl⟩
    have HOK := Lib.hid (show okP s0 ∧ s0.burst = bu * 8000000 by
      rw [hs0]
      exact ⟨⟨by show (0 : Int) ≤ bu * 8000000; omega, by show bu * 8000000 ≤ (134217728000000 : Int); omega, by show (0 : Int) ≤ bu * 8000000; omega, Int.le_refl _, Int.le_refl _, by show (0 : Int) ≤ 17179869184; omega, Int.le_refl _, by show (0 : Int) ≤ 1099511627776; omega, Int.le_refl _, by show (0 : Int) ≤ 1125899906842624; omega, by show 1 ≤ qu; omega, by show qu ≤ 256; omega, fun _ _ => by show ((([] : List W5).length : Nat) : Int) ≤ qu; simp; omega, fun _ _ x hx => by cases hx⟩, rfl⟩)
    rw [← hs0] at HN1 HN2
    clear hbad hs0
    go_enter Try.func8, Try.ntmps8
    go_wp2_with fail
    refine HN1.out.mono ?_
    rintro e w1 ⟨p, rfl, ⟨v, hv⟩, hp, hb1⟩
    have HV := Lib.hid hv
    have HB1 := Lib.hid hb1
    clear hv hb1 hp
    go_wp2_with fail
    refine (HN2.out (N1 w.heap.size (fun _ => False) p v) w1 (fun g hg => by
      rcases hg with (h | h) | h | ⟨k, hk, h⟩
      · exact HV.out.lt g h
      · exact h.elim
      · rw [h]; exact HV.out.cells.2.2.2.2.2.2.2.2.2.2.2
      · exact (HV.out.qs k hk).lt h)).mono ?_
    rintro e w2 ⟨q, rfl, ⟨u, hu, hun⟩, hq, hb2⟩
    have HPQ := Lib.hid (show PQ w.heap.size (fun _ => False) w2 p q s0 s0 bu from by
      refine ⟨HOK.out.1, HOK.out.1, HOK.out.2, v, u, HV.out.kept (Kept.of_below (S := fun _ => False) hb2) id (fun _ _ _ _ => id) fun g hg => ?_, hu⟩
      rcases hg with (h | h) | h | ⟨k, hk, h⟩
      · exact .inl ⟨h, HV.out.lt g h⟩
      · exact h.elim
      · exact .inr ⟨by omega, by rw [h]; exact hu.cells.2.2.2.2.2.2.2.2.2.2.2⟩
      · rw [hun k] at h
        obtain ⟨_, _, _, e⟩ := h
        cases e)
    have HK0 := Lib.hid (show Kept (fun g => w.heap.size ≤ g) w w2 from (Kept.of_below HB1.out).trans (Kept.of_below (S := fun _ => False) hb2) (fun _ _ h => h.elim))
    clear hu hun hq hb2 HV HB1
    go_wp2_with fail
    go_loopw [11] (fun iv wx => ∃ (i : Nat) (s : PS), (i : Int) ≤ 200 ∧ iv = .int .i64 (i : Int) ∧ PQ w.heap.size (fun _ => False) wx p q s s bu ∧ Kept (fun g => w.heap.size ≤ g) w wx) (fun iv _ => ((200 : Int) - intOf iv).toNat)
    case atStart => exact ⟨0, s0, by omega, rfl, HPQ.out, HK0.out⟩
    case round =>
      obtain ⟨i, s, hi, rfl, hpq, hkw⟩ := hrel
      have HQ := Lib.hid hpq
      have HKW := Lib.hid hkw
      clear hpq hkw HPQ HK0
      by_cases hgo : (i : Int) < (n : Int) ∧ (i : Int) < 200
      · obtain ⟨hn, h2⟩ := hgo
        obtain ⟨g, off, kd, x1, x2, x3, x4, r, wd, fl, nw, rfl, hg, _, y0, y1, y2, y3, y4, y5, y6, y7, y8⟩ := stp_at R.out (k := i) (by omega)
        have hng : ¬ w.heap.size ≤ g := by omega
        have z0 := kept_cell HKW.out hng y0
        have z1 := kept_cell HKW.out hng y1
        have z2 := kept_cell HKW.out hng y2
        have z3 := kept_cell HKW.out hng y3
        have z4 := kept_cell HKW.out hng y4
        have z5 := kept_cell HKW.out hng y5
        have z6 := kept_cell HKW.out hng y6
        have z7 := kept_cell HKW.out hng y7
        have z8 := kept_cell HKW.out hng y8
        clear y0 y1 y2 y3 y4 y5 y6 y7 y8
        obtain ⟨X, hXX⟩ : ∃ X, X = wr.heap.size := ⟨_, rfl⟩
        obtain ⟨wa, hwa⟩ : ∃ wa, wa = wr.alloc (.cells #[.int .i64 kd, .int .i64 x1, .int .i64 x2, .int .i64 x3, .int .i64 x4, .int .i64 r, .int .i64 wd, .int .i64 fl, .int .i64 nw] 32) := ⟨_, rfl⟩
        have HQa := Lib.hid (show PQ w.heap.size (fun g => g = X) wa p q s s bu by rw [hwa]; exact HQ.out.grab ((Kept.refl _ _).alloc _) (fun g hg => .inr ⟨by omega, by simp; omega⟩))
        have HKa := Lib.hid (show Kept (fun g => w.heap.size ≤ g) w wa by rw [hwa]; exact HKW.out.alloc _)
        have hh := heap_alloc_new wr (.cells #[.int .i64 kd, .int .i64 x1, .int .i64 x2, .int .i64 x3, .int .i64 x4, .int .i64 r, .int .i64 wd, .int .i64 fl, .int .i64 nw] 32)
        rw [← hwa, ← hXX] at hh
        have q0 : wa.cell? ⟨X, 0, none⟩ = some (.int .i64 kd) := by simp only [World.cell?, hh]; rfl
        have q1 : wa.cell? ⟨X, 1, none⟩ = some (.int .i64 x1) := by simp only [World.cell?, hh]; rfl
        have q2 : wa.cell? ⟨X, 2, none⟩ = some (.int .i64 x2) := by simp only [World.cell?, hh]; rfl
        have q3 : wa.cell? ⟨X, 3, none⟩ = some (.int .i64 x3) := by simp only [World.cell?, hh]; rfl
        have q4 : wa.cell? ⟨X, 4, none⟩ = some (.int .i64 x4) := by simp only [World.cell?, hh]; rfl
        have q5 : wa.cell? ⟨X, 5, none⟩ = some (.int .i64 r) := by simp only [World.cell?, hh]; rfl
        have q6 : wa.cell? ⟨X, 6, none⟩ = some (.int .i64 wd) := by simp only [World.cell?, hh]; rfl
        have q7 : wa.cell? ⟨X, 7, none⟩ = some (.int .i64 fl) := by simp only [World.cell?, hh]; rfl
        have q8 : wa.cell? ⟨X, 8, none⟩ = some (.int .i64 nw) := by simp only [World.cell?, hh]; rfl
        have HWA := Lib.hid hwa
        have HXX := Lib.hid hXX
        clear hh hwa hXX
        go_upto_region 9 with fail
        rw [← HWA.out, ← HXX.out]
        clear z0 z1 z2 z3 z4 z5 z6 z7 z8
        go_upto_block 2 with fail
        go_cut [] (fun wx => ∃ s', PQ w.heap.size (fun g => g = X) wx p q s' s' bu ∧ Kept (fun g => w.heap.size ≤ g) w wx ∧ wx.cell? ⟨X, 8, none⟩ = some (.int .i64 nw))
        case first =>
          have hk : kd = 0 ∨ ((kd == 0) = false ∧ kd = 1) ∨ ((kd == 0) = false ∧ (kd == 1) = false ∧ kd = 2) ∨ ((kd == 0) = false ∧ (kd == 1) = false ∧ (kd == 2) = false) := by
            simp only [beq_eq_false_iff_ne]
            omega
          rcases hk with rfl | ⟨h0, rfl⟩ | ⟨h0, h1, rfl⟩ | ⟨h0, h1, h2'⟩
          · go_wp2_with fail
            obtain ⟨N, hpx, hN, hre⟩ := (HQa.out.grab (Kept.refl _ wa).drew (fun g hg => .inl hg)).px
            obtain ⟨be, hbe⟩ : ∃ be, be = (enq s x1 x2 x3 x4 nw).2 := ⟨_, rfl⟩
            obtain ⟨sb, hsb⟩ : ∃ sb, sb = (enq s x1 x2 x3 x4 nw).1 := ⟨_, rfl⟩
            have hcp := hpx.enqueue x1 x2 x3 x4 nw
            rw [← hbe, ← hsb] at hcp
            have CP := Lib.hid hcp
            have HRE := Lib.hid hre
            have HNX := Lib.hid (hN X (.inr rfl))
            have HNB := Lib.hid hN
            have HBE := Lib.hid hbe
            have HSB := Lib.hid hsb
            clear hpx hN hre hcp hbe hsb
            go_region_held3 (fun w' => w'.cell? ⟨X, 1, none⟩ = some (.int .i64 x1) ∧ w'.cell? ⟨X, 2, none⟩ = some (.int .i64 x2) ∧ w'.cell? ⟨X, 3, none⟩ = some (.int .i64 x3) ∧ w'.cell? ⟨X, 4, none⟩ = some (.int .i64 x4) ∧ w'.cell? ⟨X, 8, none⟩ = some (.int .i64 nw)) (first | exact ⟨q1, q2, q3, q4, q8⟩ | exact Y3 | exact Y4)
              (first
                | (go_at_call 14
                   refine CP.out.mono ?_
                   rintro e w3 ⟨rfl, h3⟩
                   have Y3 : w3.cell? ⟨X, 1, none⟩ = some (.int .i64 x1) ∧ w3.cell? ⟨X, 2, none⟩ = some (.int .i64 x2) ∧ w3.cell? ⟨X, 3, none⟩ = some (.int .i64 x3) ∧ w3.cell? ⟨X, 4, none⟩ = some (.int .i64 x4) ∧ w3.cell? ⟨X, 8, none⟩ = some (.int .i64 nw) := ⟨kept_cell h3.kept (fun hn => hn HNX.out) q1, kept_cell h3.kept (fun hn => hn HNX.out) q2, kept_cell h3.kept (fun hn => hn HNX.out) q3, kept_cell h3.kept (fun hn => hn HNX.out) q4, kept_cell h3.kept (fun hn => hn HNX.out) q8⟩
                   have HQ3 := Lib.hid (HRE.out _ _ h3)
                   have HK3 := Lib.hid (show Kept (fun g => w.heap.size ≤ g) w w3 from Kept.trans (S := fun g => w.heap.size ≤ g) HKa.out.drew h3.kept (fun g _ hn => Nat.le_of_not_lt fun hl => hn (HNB.out g (.inl hl))))
                   clear h3)
                | (go_at_call 20
                   obtain ⟨N2, hqx, hN2, hre2⟩ := HQ3.out.qx
                   refine (hqx.enqueue x1 x2 x3 x4 nw).mono ?_
                   rintro e w4 ⟨rfl, h4⟩
                   rw [← HBE.out]
                   obtain ⟨t1, t2, t3, t4, t8⟩ := Y3
                   have hx := hN2 X (.inr rfl)
                   have Y4 : w4.cell? ⟨X, 1, none⟩ = some (.int .i64 x1) ∧ w4.cell? ⟨X, 2, none⟩ = some (.int .i64 x2) ∧ w4.cell? ⟨X, 3, none⟩ = some (.int .i64 x3) ∧ w4.cell? ⟨X, 4, none⟩ = some (.int .i64 x4) ∧ w4.cell? ⟨X, 8, none⟩ = some (.int .i64 nw) := ⟨kept_cell h4.kept (fun hn => hn hx) t1, kept_cell h4.kept (fun hn => hn hx) t2, kept_cell h4.kept (fun hn => hn hx) t3, kept_cell h4.kept (fun hn => hn hx) t4, kept_cell h4.kept (fun hn => hn hx) t8⟩
                   have hq4 := hre2 _ _ h4
                   rw [← HSB.out] at hq4
                   have HQ4 := Lib.hid hq4
                   have HK4 := Lib.hid (show Kept (fun g => w.heap.size ≤ g) w w4 from Kept.trans (S := fun g => w.heap.size ≤ g) HK3.out h4.kept (fun g _ hn => Nat.le_of_not_lt fun hl => hn (hN2 g (.inl hl))))
                   clear h4 hqx hN2 hre2 hx hq4 t1 t2 t3 t4 t8))
            go_wp2_with fail
            go_meet
            exact ⟨sb, HQ4.out, HK4.out, Y4.2.2.2.2⟩
          · go_wp2_with fail
            obtain ⟨N, hpx, hN, hre⟩ := HQa.out.px
            refine (hpx.set r wd nw).mono ?_
            rintro e w3 ⟨rfl, h3⟩
            have hx := hN X (.inr rfl)
            have t5 := kept_cell h3.kept (fun hn => hn hx) q5
            have t6 := kept_cell h3.kept (fun hn => hn hx) q6
            have t8 := kept_cell h3.kept (fun hn => hn hx) q8
            have HQ3 := Lib.hid (hre _ _ h3)
            have HK3 := Lib.hid (show Kept (fun g => w.heap.size ≤ g) w w3 from Kept.trans (S := fun g => w.heap.size ≤ g) HKa.out h3.kept (fun g _ hn => Nat.le_of_not_lt fun hl => hn (hN g (.inl hl))))
            clear h3 hpx hN hre hx
            go_wp2_with fail
            obtain ⟨N2, hqx, hN2, hre2⟩ := HQ3.out.qx
            refine (hqx.set r wd nw).mono ?_
            rintro e w4 ⟨rfl, h4⟩
            have hx := hN2 X (.inr rfl)
            have v8 := kept_cell h4.kept (fun hn => hn hx) t8
            have HQ4 := Lib.hid (hre2 _ _ h4)
            have HK4 := Lib.hid (show Kept (fun g => w.heap.size ≤ g) w w4 from Kept.trans (S := fun g => w.heap.size ≤ g) HK3.out h4.kept (fun g _ hn => Nat.le_of_not_lt fun hl => hn (hN2 g (.inl hl))))
            clear h4 hqx hN2 hre2 hx
            go_wp2_with fail
            go_meet
            exact ⟨_, HQ4.out, HK4.out, v8⟩
          · go_wp2_with fail
            obtain ⟨N, hpx, hN, hre⟩ := (HQa.out.grab (Kept.refl _ wa).drew (fun g hg => .inl hg)).px
            obtain ⟨out, hout⟩ : ∃ out, out = (poll s nw fl).1 := ⟨_, rfl⟩
            obtain ⟨sb, hsb⟩ : ∃ sb, sb = (poll s nw fl).2 := ⟨_, rfl⟩
            have hle := poll_len HQa.out.ok1 nw fl
            have hcp := hpx.polling nw fl
            rw [← hout] at hle
            rw [← hout, ← hsb] at hcp
            obtain ⟨L, hL⟩ : ∃ L, L = out.length := ⟨_, rfl⟩
            rw [← hL] at hcp hle
            have hle' : (L : Int) ≤ 1024 := by omega
            have CP := Lib.hid hcp
            have HRE := Lib.hid hre
            have HNX := Lib.hid (hN X (.inr rfl))
            have HNB := Lib.hid hN
            have HO := Lib.hid hout
            have HSB := Lib.hid hsb
            have HL := Lib.hid hL
            clear hpx hN hre hcp hout hsb hle hL
            go_region_held3 (fun w' => w'.cell? ⟨X, 7, none⟩ = some (.int .i64 fl) ∧ w'.cell? ⟨X, 8, none⟩ = some (.int .i64 nw)) (first | exact ⟨q7, q8⟩ | exact Y3 | exact Y4 | exact Y5)
              (first
                | (go_at_call 15
                   refine CP.out.mono ?_
                   rintro e w3 ⟨A3, c3, rfl, hr3, ha3, h3, _⟩
                   have Y3 : w3.cell? ⟨X, 7, none⟩ = some (.int .i64 fl) ∧ w3.cell? ⟨X, 8, none⟩ = some (.int .i64 nw) := ⟨kept_cell h3.kept (fun hn => hn HNX.out) q7, kept_cell h3.kept (fun hn => hn HNX.out) q8⟩
                   have HQ3 := Lib.hid (HRE.out _ _ h3)
                   have HK3 := Lib.hid (show Kept (fun g => w.heap.size ≤ g) w w3 from Kept.trans (S := fun g => w.heap.size ≤ g) HKa.out.drew h3.kept (fun g _ hn => Nat.le_of_not_lt fun hl => hn (HNB.out g (.inl hl))))
                   have HR3 := Lib.hid hr3
                   have HA3 := Lib.hid ha3
                   clear h3 hr3 ha3)
                | (go_at_call 23
                   obtain ⟨N2, hqx, hN2, hre2⟩ := HQ3.out.qx
                   refine (hqx.polling nw fl).mono ?_
                   rw [← HO.out, ← HSB.out, ← HL.out]
                   rintro e w4 ⟨A4, c4, rfl, hr4, _, h4, hkq⟩
                   obtain ⟨t7, t8⟩ := Y3
                   have hx := hN2 X (.inr rfl)
                   have Y4 : w4.cell? ⟨X, 7, none⟩ = some (.int .i64 fl) ∧ w4.cell? ⟨X, 8, none⟩ = some (.int .i64 nw) := ⟨kept_cell h4.kept (fun hn => hn hx) t7, kept_cell h4.kept (fun hn => hn hx) t8⟩
                   have HQ4 := Lib.hid (hre2 _ _ h4)
                   have HK4 := Lib.hid (show Kept (fun g => w.heap.size ≤ g) w w4 from Kept.trans (S := fun g => w.heap.size ≤ g) HK3.out h4.kept (fun g _ hn => Nat.le_of_not_lt fun hl => hn (hN2 g (.inl hl))))
                   have HR4 := Lib.hid hr4
                   have hqlt : q < wa.heap.size := by
                     obtain ⟨_, _, _, hu⟩ := HQa.out.mem
                     exact hu.cells.2.2.2.2.2.2.2.2.2.2.2
                   have HR5 := Lib.hid (show RW w4 4 (.slice A3 L c3) L (flat4 out) from HR3.out.kept hkq (fun g hg e => by have h1 := HA3.out g hg; have h2 : wa.heap.size ≤ g := h1; omega))
                   clear h4 hqx hN2 hre2 hx t7 t8 hr4 hkq hqlt)
                | (go_at_call 22
                   refine (packets_same A3 A4 L c3 c4 out _ HR5.out HR4.out hle').mono ?_
                   rintro e w5 ⟨rfl, h5⟩
                   obtain ⟨t7, t8⟩ := Y4
                   have Y5 : w5.cell? ⟨X, 7, none⟩ = some (.int .i64 fl) ∧ w5.cell? ⟨X, 8, none⟩ = some (.int .i64 nw) := ⟨kept_cell h5 id t7, kept_cell h5 id t8⟩
                   have HK5 := Lib.hid h5
                   clear h5 t7 t8))
            go_wp2_with fail
            go_meet
            exact ⟨sb, HQ4.out.grab HK5.out (fun g hg => .inl hg), HK4.out.trans HK5.out (fun _ _ e => e.elim), Y5.2⟩
          · go_wp2_with fail
            go_meet
            exact ⟨s, HQa.out, HKa.out, q8⟩
        case rest =>
        obtain ⟨s', hq', hk', t8⟩ := hcut
        rename World => wc
        have HQc := Lib.hid hq'
        have HKc := Lib.hid hk'
        clear hq' hk' q0 q1 q2 q3 q4 q5 q6 q7 q8
        obtain ⟨N, hpx, hN, hre⟩ := HQc.out.px
        obtain ⟨U, hU⟩ : ∃ U, U = (upto s' 4).length := ⟨_, rfl⟩
        obtain ⟨Z, hZ⟩ : ∃ Z, Z = szs (upto s' 4) := ⟨_, rfl⟩
        obtain ⟨G, hG⟩ : ∃ G, G = ages (clampT s' nw) (upto s' 4) := ⟨_, rfl⟩
        obtain ⟨D, hD⟩ : ∃ D, D = s'.credit / 8000000 := ⟨_, rfl⟩
        have hcp := hpx.waiting
        rw [← hU, ← hZ] at hcp
        have CP := Lib.hid hcp
        have HRE := Lib.hid hre
        have HNX := Lib.hid (hN X (.inr rfl))
        have HNB := Lib.hid hN
        have HU := Lib.hid hU
        have HZ := Lib.hid hZ
        have HG := Lib.hid hG
        have HDD := Lib.hid hD
        clear hpx hN hre hcp hU hZ hG hD
        go_wp2_with fail
        refine CP.out.mono ?_
        rintro e w3 ⟨rfl, h3⟩
        have u8 := kept_cell h3.kept (fun hn => hn HNX.out) t8
        have HQ3 := Lib.hid (HRE.out _ _ h3)
        have HK3 := Lib.hid (show Kept (fun g => w.heap.size ≤ g) w w3 from Kept.trans (S := fun g => w.heap.size ≤ g) HKc.out h3.kept (fun g _ hn => Nat.le_of_not_lt fun hl => hn (HNB.out g (.inl hl))))
        clear h3 t8 HRE HNX HNB CP
        go_wp2_with fail
        obtain ⟨N2, hqx, hN2, hre2⟩ := HQ3.out.qx
        refine (hqx.waiting).mono ?_
        rw [← HU.out, ← HZ.out]
        rintro e w4 ⟨rfl, rfl⟩
        clear hqx hN2 hre2
        go_wp2_with fail
        obtain ⟨N4, hpx, hN, hre⟩ := (HQ3.out.grab (Kept.refl _ w3).drew (fun g hg => .inl hg)).px
        have hcp := hpx.age nw
        rw [← HG.out] at hcp
        have CP := Lib.hid hcp
        have HRE := Lib.hid hre
        have HNX := Lib.hid (hN X (.inr rfl))
        have HNB := Lib.hid hN
        clear hpx hN hre hcp
        go_region_held3 (fun w' => w'.cell? ⟨X, 8, none⟩ = some (.int .i64 nw)) (first | exact u8 | exact Y5)
          (first
            | (go_at_call 25
               refine CP.out.mono ?_
               rintro e w5 ⟨rfl, h5⟩
               have Y5 : w5.cell? ⟨X, 8, none⟩ = some (.int .i64 nw) := kept_cell h5.kept (fun hn => hn HNX.out) u8
               have HQ5 := Lib.hid (HRE.out _ _ h5)
               have HK5 := Lib.hid (show Kept (fun g => w.heap.size ≤ g) w w5 from Kept.trans (S := fun g => w.heap.size ≤ g) HK3.out.drew h5.kept (fun g _ hn => Nat.le_of_not_lt fun hl => hn (HNB.out g (.inl hl))))
               clear h5)
            | (go_at_call 26
               obtain ⟨N6, hqx, _, _⟩ := HQ5.out.qx
               refine (hqx.age nw).mono ?_
               rw [← HG.out]
               rintro e w6 ⟨rfl, rfl⟩
               have HQ6 := Lib.hid (HQ5.out.grab (Kept.refl _ w5).drew (fun g hg => .inl hg))
               clear hqx)
            | (go_at_call 27
               obtain ⟨N7, hqx, _, _⟩ := HQ6.out.px
               refine (hqx.spare).mono ?_
               rw [← HDD.out]
               rintro e w6 ⟨rfl, rfl⟩
               clear hqx)
            | (go_at_call 28
               obtain ⟨N7, hqx, _, _⟩ := HQ6.out.qx
               refine (hqx.spare).mono ?_
               rw [← HDD.out]
               rintro e w6 ⟨rfl, rfl⟩
               clear hqx))
        go_wp2_with fail
        go_roundw
        case rel => exact ⟨i + 1, s', by omega, by go_num, HQ6.out.grab (Kept.refl _ _) (fun _ e => e.elim), HK5.out.drew⟩
        case measure => exact meas4 200 i h2
      · have hgo : ¬ (i : Int) < (n : Int) ∨ ((i : Int) < (n : Int) ∧ ¬ (i : Int) < 200) := by omega
        rcases hgo with hgo | ⟨hgo, hgo2⟩
        all_goals
          go_wp2_with fail
          refine (wakes_any _).mono ?_
          rintro e w5 ⟨rfl, h5⟩
          have H5 := Lib.hid h5
          clear h5
          go_wp2_with fail
          go_ret
          exact ⟨rfl, below_then (HKW.out.below (Nat.le_refl _) (fun _ h => h)) HKW.out.size H5.out⟩
end Go.Proofs.Ytkjjkepiihdihaa.Pace
