/- PacerOrder: each packet that was taken in goes once, or waits, in order; no condition. -/
import Derived.Test.YtkjjkepiihdihaaPaceOrd
namespace Go.Proofs.Ytkjjkepiihdihaa.Pace
open Go.RowKit Go.Proofs.Ytkjjkepiihdihaa.Plain Go.Proofs.Ytkjjkepiihdihaa.Heap Go.Proofs.Ytkjjkepiihdihaa.Rows Go.Proofs.Ytkjjkepiihdihaa.Open

theorem RW.cap {w : World} {sz n c : Nat} {A : Option Addr} {xs : List Value} (h : RW w sz (.slice A n c) n xs) : n ≤ c := by
  rcases h.2 with ⟨e, h0⟩ | ⟨_, _, _, e, _, h2, _⟩
  · omega
  · injection e with _ _ e3; omega
theorem two_kept {S : Nat → Prop} {w w' : World} {Y b j k : Nat} {u v : Value} (hk : Kept S w w') (h : w.cell? ⟨Y, j, none⟩ = some u ∧ w.cell? ⟨b, k, none⟩ = some v) (hY : S Y → False) (hb : S b → False) : w'.cell? ⟨Y, j, none⟩ = some u ∧ w'.cell? ⟨b, k, none⟩ = some v :=
  ⟨(hk.cell (p := ⟨Y, j, none⟩) (World.block_lt_of_cell? w ⟨Y, j, none⟩ h.1) hY).trans h.1, (hk.cell (p := ⟨b, k, none⟩) (World.block_lt_of_cell? w ⟨b, k, none⟩ h.2) hb).trans h.2⟩
set_option linter.unusedSimpArgs false in
set_option maxRecDepth 10000 in
set_option maxHeartbeats 4000000 in
theorem PacerOrder_any (A : Option Addr) (n c : Nat) (zs : List Stp) (w : World) (h1 : Els 9 rStp w A n zs) :
    Calls Try.prog 4 #[.slice A n c] w fun e w' => e = .returned (.bool true) ∧ Below w.heap.size w w' := by
  have R := Lib.hid h1
  clear h1
  go_enter Try.func4, Try.ntmps4
  go_wp2_with fail
  refine (new_px (NO w.heap.size (fun _ => False) 8 (fun _ => .slice none 0 0)) 20000 50 w (by omega) (by omega) (by omega) (by omega) (fun g h => by
    rcases h with h | h | ⟨i, _, _, _, _, h⟩
    · exact h
    · exact h.elim
    · cases h)).mono ?_
  rintro e w1 ⟨p, rfl, h1⟩
  have H1 := Lib.hid (show OX w.heap.size (fun _ => False) 8 w w1 p _ (fun _ => .slice none 0 0) (fun _ => []) from
    ⟨h1, rfl, fun i _ => RW.nil _ _, fun i _ g hg => (by obtain ⟨_, _, _, e⟩ := hg; cases e), fun i j _ _ _ g hg => (by obtain ⟨_, _, _, e⟩ := hg; cases e), fun g hg => hg.elim⟩)
  clear h1
  go_wp2_with fail
  refine (H1.out.px.here.set 1000000 1099511627776 0).mono ?_
  rintro e w2 ⟨rfl, h2⟩
  obtain ⟨s0, hs0⟩ : ∃ s0, s0 = setp ⟨20000 * 8000000, 20000 * 8000000, 0, 0, 0, 50, fun _ => []⟩ 1000000 1099511627776 0 := ⟨_, rfl⟩
  have hup : upto s0 4 = [] := by rw [hs0]; rfl
  have hq0 : ∀ k, s0.q k = [] := fun k => by rw [hs0]; rfl
  have H2 := Lib.hid (H1.out.step h2)
  rw [← hs0] at H2
  have HUP := Lib.hid hup
  have HQ0 := Lib.hid hq0
  clear h2 hs0 hup hq0
  go_wp2_with fail
  obtain ⟨bi, hbi⟩ : ∃ bi, bi = w2.heap.size := ⟨_, rfl⟩
  obtain ⟨wa, hwa⟩ : ∃ wa, wa = (w2.alloc (.cells #[.slice none 0 0, .slice none 0 0, .slice none 0 0, .slice none 0 0] 42)).alloc (.cells #[.slice none 0 0, .slice none 0 0, .slice none 0 0, .slice none 0 0] 42) := ⟨_, rfl⟩
  have hk2 : Kept (fun _ => False) w2 wa := by rw [hwa]; exact ((Kept.refl _ w2).alloc _).alloc _
  have hsz : wa.heap.size = bi + 2 := by rw [hwa, hbi]; simp
  have HD0 := Lib.hid (show OD (fun g => g = bi ∨ g = bi + 1) w wa p s0 (fun _ => .slice none 0 0) (fun _ => []) bi (bi + 1) from by
    refine ⟨H2.out.grab hk2 (fun g hg => .inr (by omega)), ?_, ?_, .inl rfl, .inr rfl, by omega⟩
    · rw [hwa, hbi]
      exact (Below.heap_alloc (w2.alloc (.cells #[.slice none 0 0, .slice none 0 0, .slice none 0 0, .slice none 0 0] 42)) _ w2.heap.size (by simp)).trans (heap_alloc_new w2 _)
    · rw [hwa, hbi]
      have := heap_alloc_new (w2.alloc (.cells #[.slice none 0 0, .slice none 0 0, .slice none 0 0, .slice none 0 0] 42)) (.cells #[.slice none 0 0, .slice none 0 0, .slice none 0 0, .slice none 0 0] 42)
      simpa using this)
  rw [← hwa, ← hbi]
  have HBI := Lib.hid hbi
  clear hwa hk2 hsz hbi H2
  go_loopw [7, 8, 9] (fun nv cv iv wx => ∃ (i : Nat) (s : PS) (o : Nat → Value) (l : Nat → List Int) (now : Int), (i : Int) ≤ 100 ∧ iv = .int .i64 (i : Int) ∧ nv = .int .i64 now ∧ cv = .int .i64 ((upto s 4).length : Int) ∧ 0 ≤ now ∧ now ≤ (i : Int) * 65536 ∧ Od s l ∧ (∀ k, k < 4 → ((l k).length : Int) ≤ (i : Int)) ∧ OD (fun g => g = bi ∨ g = bi + 1) w wx p s o l bi (bi + 1)) (fun _ _ iv _ => ((100 : Int) - intOf iv).toNat)
  case atStart => exact ⟨0, s0, _, _, 0, by omega, rfl, rfl, by rw [HUP.out]; rfl, by omega, by omega, ⟨fun k _ => by rw [HQ0.out]; rfl⟩, fun k _ => (by simp), HD0.out⟩
  case round =>
    obtain ⟨i, s, o, l, now, hi, rfl, rfl, rfl, n0, n1, hod, hll, hd⟩ := hrel
    have HDD := Lib.hid hd
    have HOD := Lib.hid hod
    have HLL := Lib.hid hll
    have hub := upto_le hd.ox.px.ok
    obtain ⟨U, hU⟩ : ∃ U, U = (upto s 4).length := ⟨_, rfl⟩
    rw [← hU] at hub
    rw [← hU]
    have hub : (U : Int) ≤ 1024 := by omega
    have HU := Lib.hid hU
    clear hod hll hd hU HD0
    by_cases hgo : (i : Int) < (n : Int) ∧ (i : Int) < 100
    · obtain ⟨hn, h2⟩ := hgo
      obtain ⟨g, off, kd, x1, x2, x3, x4, r, wd, fl, nw, rfl, hg, _, y0, y1, y2, y3, y4, y5, y6, y7, y8⟩ := stp_at R.out (k := i) (by omega)
      have hbel := HDD.out.ox.below
      have z0 := (hbel.cell (p := ⟨g, off + i * 9, none⟩) hg).trans y0
      have z1 := (hbel.cell (p := ⟨g, off + i * 9 + 1, none⟩) hg).trans y1
      have z2 := (hbel.cell (p := ⟨g, off + i * 9 + 2, none⟩) hg).trans y2
      have z3 := (hbel.cell (p := ⟨g, off + i * 9 + 3, none⟩) hg).trans y3
      have z4 := (hbel.cell (p := ⟨g, off + i * 9 + 4, none⟩) hg).trans y4
      have z5 := (hbel.cell (p := ⟨g, off + i * 9 + 5, none⟩) hg).trans y5
      have z6 := (hbel.cell (p := ⟨g, off + i * 9 + 6, none⟩) hg).trans y6
      have z7 := (hbel.cell (p := ⟨g, off + i * 9 + 7, none⟩) hg).trans y7
      have z8 := (hbel.cell (p := ⟨g, off + i * 9 + 8, none⟩) hg).trans y8
      obtain ⟨dt, hdt, dt0, dt1⟩ : ∃ dt, nw % 65536 = dt ∧ 0 ≤ dt ∧ dt < 65536 := ⟨_, rfl, by omega, by omega⟩
      obtain ⟨k, hkc, hk4⟩ : ∃ k : Nat, x3 % 4 = (k : Int) ∧ k < 4 := ⟨(x3 % 4).toNat, by omega, by omega⟩
      obtain ⟨d, hd, d0, d1⟩ : ∃ d, x4 % 1501 = d ∧ 0 ≤ d ∧ d ≤ 1500 := ⟨_, rfl, by omega, by omega⟩
      have HDT := Lib.hid hdt
      have HKC := Lib.hid hkc
      have HDm := Lib.hid hd
      have hk4' : (k : Int) < 4 := by omega
      clear y0 y1 y2 y3 y4 y5 y6 y7 y8 hdt hkc hd hbel
      obtain ⟨X, hXX⟩ : ∃ X, X = wr.heap.size := ⟨_, rfl⟩
      obtain ⟨wb, hwb⟩ : ∃ wb, wb = wr.alloc (.cells #[.int .i64 kd, .int .i64 x1, .int .i64 x2, .int .i64 x3, .int .i64 x4, .int .i64 r, .int .i64 wd, .int .i64 fl, .int .i64 nw] 32) := ⟨_, rfl⟩
      have HDb := Lib.hid (show OD (fun g => g = bi ∨ g = bi + 1) w wb p s o l bi (bi + 1) by rw [hwb]; exact HDD.out.run ((Kept.refl _ _).alloc _))
      have hh := heap_alloc_new wr (.cells #[.int .i64 kd, .int .i64 x1, .int .i64 x2, .int .i64 x3, .int .i64 x4, .int .i64 r, .int .i64 wd, .int .i64 fl, .int .i64 nw] 32)
      rw [← hwb, ← hXX] at hh
      have q0 : wb.cell? ⟨X, 0, none⟩ = some (.int .i64 kd) := by simp only [World.cell?, hh]; rfl
      have q3 : wb.cell? ⟨X, 3, none⟩ = some (.int .i64 x3) := by simp only [World.cell?, hh]; rfl
      have q4 : wb.cell? ⟨X, 4, none⟩ = some (.int .i64 x4) := by simp only [World.cell?, hh]; rfl
      have q7 : wb.cell? ⟨X, 7, none⟩ = some (.int .i64 fl) := by simp only [World.cell?, hh]; rfl
      have q8 : wb.cell? ⟨X, 8, none⟩ = some (.int .i64 nw) := by simp only [World.cell?, hh]; rfl
      have HWB := Lib.hid hwb
      have HXX := Lib.hid hXX
      clear hh hwb hXX
      by_cases hkd : kd = 0
      · subst hkd
        go_upto_region 12 with fail
        rw [← HWB.out, ← HXX.out]
        clear z0 z1 z2 z3 z4 z5 z6 z7 z8
        go_wp2_with fail
        refine (mod64_any nw 65536 _ (by omega) (by omega)).mono ?_
        rintro e w3 ⟨rfl, rfl⟩
        rw [HDT.out]
        go_upto_region 14 with fail
        go_cut [11] (fun s11 wx => ∃ Y, s11 = .pointer (some ⟨Y, 0, none⟩) ∧ wx.heap[Y]? = some (.cells #[.int .i64 (i : Int), .int .i64 0, .int .i64 (k : Int), .int .i64 d] 30 (0, 0)) ∧ wb.heap.size ≤ Y ∧ Kept (fun _ => False) wb wx)
        case first =>
          have qa : ∀ o, (wb.drew.alloc o).cell? ⟨X, 3, none⟩ = some (.int .i64 x3) ∧ (wb.drew.alloc o).cell? ⟨X, 4, none⟩ = some (.int .i64 x4) := fun o => ⟨(((Kept.refl (fun _ => False) wb).drew.alloc o).cell (p := ⟨X, 3, none⟩) (World.block_lt_of_cell? wb _ q3) id).trans q3, (((Kept.refl (fun _ => False) wb).drew.alloc o).cell (p := ⟨X, 4, none⟩) (World.block_lt_of_cell? wb _ q4) id).trans q4⟩
          have n1 := World.new_ne wb ⟨X, 3, none⟩ q3
          go_region_held3 (fun w' => w'.cell? ⟨X, 3, none⟩ = some (.int .i64 x3) ∧ w'.cell? ⟨X, 4, none⟩ = some (.int .i64 x4)) (first | exact ⟨q3, q4⟩ | exact qa _ | go_keep)
            (first
              | (go_at_call 13
                 (with_reducible refine (mod_any x3 4 _ (by omega) (by omega)).mono ?_)
                 rintro e w4 ⟨rfl, rfl⟩
                 rw [HKC.out])
              | (go_at_call 13
                 (with_reducible refine (mod_any x4 1501 _ (by omega) (by omega)).mono ?_)
                 rintro e w4 ⟨rfl, rfl⟩
                 rw [HDm.out]))
          all_goals
            go_wp2_with fail
            go_meet
            exact ⟨wb.heap.size, rfl, heap_alloc_new wb _, Nat.le_refl _, ((Kept.refl _ wb).alloc _).drew⟩
        case rest =>
        obtain ⟨Y, rfl, hY, hYs, hkY⟩ := hcut
        rename World => wc
        have HDc := Lib.hid (show OD (fun g => (g = bi ∨ g = bi + 1) ∨ g = Y) w wc p s o l bi (bi + 1) from HDb.out.grab hkY (fun g hg => by
          rcases hg with h | h
          · exact .inl h
          · exact .inr ⟨by omega, by rw [h]; exact (Array.getElem?_eq_some_iff.1 hY).1⟩) (.inl (.inl rfl)) (.inl (.inr rfl)))
        have hYb : Y ≠ bi := by
          have := (HDb.out.ox.outer bi (.inl rfl)).2
          omega
        have r0 : wc.cell? ⟨Y, 0, none⟩ = some (.int .i64 (i : Int)) := by simp only [World.cell?, hY]; rfl
        have r1 : wc.cell? ⟨Y, 1, none⟩ = some (.int .i64 0) := by simp only [World.cell?, hY]; rfl
        have r2 : wc.cell? ⟨Y, 2, none⟩ = some (.int .i64 (k : Int)) := by simp only [World.cell?, hY]; rfl
        have r3 : wc.cell? ⟨Y, 3, none⟩ = some (.int .i64 d) := by simp only [World.cell?, hY]; rfl
        have henq := HDc.out.ox.px.here.enqueue (i : Int) 0 (k : Int) d (now + dt)
        clear q0 q3 q4 q7 q8 hY hkY
        by_cases hroom : ((s.q k).length : Int) < s.queue
        · have ee := enq_yes (s := s) (a := (i : Int)) (b := 0) (d := d) (now := now + dt) hk4 d0 d1 hroom
          rw [ee] at henq
          have HEN := Lib.hid henq
          have hpu := (push_upto (s := goes s (now + dt)) (i : Int) 0 hk4 d).1
          have HPU := Lib.hid (show ((upto (push (goes s (now + dt)) (i : Int) 0 k d) 4).length : Int) = (U : Int) + 1 by rw [hpu, HU.out]; rfl)
          clear henq ee hpu hroom
          go_wp2_with fail
          refine HEN.out.mono ?_
          rintro e w5 ⟨rfl, h5⟩
          have t2 := (HDc.out.keep h5 (g := Y) (.inr rfl) 2).trans r2
          have HD5 := Lib.hid (HDc.out.step h5)
          clear h5 r0 r1 r2 r3
          go_wp2_with fail
          obtain ⟨AK, cK, hok⟩ := HD5.out.ox.val (i := k) (by omega)
          obtain ⟨LK, hLK⟩ : ∃ LK, LK = (l k).length := ⟨_, rfl⟩
          have hcells := HD5.out.cells hk4
          rw [← hLK] at hok
          have hLKb : LK ≤ 1000000 := by have := HLL.out k hk4; omega
          have t3 : w5.cell? ⟨bi, k, none⟩ = some (.slice AK LK cK) := by rw [hcells.1, hok]
          have HF5 := Lib.hid hcells.2.2.1
          have HOK := Lib.hid hok
          have HLK := Lib.hid hLK
          clear hcells hok hLK
          have hWX : ∃ WX, WX = w5 := ⟨_, rfl⟩
          obtain ⟨WX, hWX⟩ := hWX
          rw [← hWX] at t2 t3 HD5 HF5 ⊢
          clear hWX
          have HSX : WX.drew.cell? ⟨Y, 2, none⟩ = some (.int .i64 (k : Int)) ∧ WX.drew.cell? ⟨bi, k, none⟩ = some (.slice AK LK cK) := ⟨t2, t3⟩
          have HRK := Lib.hid (show RW (WX.alloc (.cells #[.int .i64 (i : Int)] 3)).drew 1 (.slice AK LK cK) LK (nums .i64 (l k)) from row_is ((HD5.out.ox.alloc (.cells #[.int .i64 (i : Int)] 3)).drew) (i := k) (by omega) HOK.out HLK.out.symm)
          have HRD := Lib.hid (show Rd (WX.alloc (.cells #[.int .i64 (i : Int)] 3)).drew 1 (some ⟨WX.heap.size, 0, none⟩) 1 [.int .i64 (i : Int)] from Rd.one WX _ _)
          have HNY := Lib.hid (show isAt (.slice AK LK cK) Y → False from fun e => (HD5.out.ox.own k (by omega) Y (by rw [HOK.out]; exact e)).2 (.inr rfl))
          have HNB := Lib.hid (show isAt (.slice AK LK cK) bi → False from fun e => (HD5.out.ox.own k (by omega) bi (by rw [HOK.out]; exact e)).2 (.inl (.inl rfl)))
          have hk0 : (0 : Int) ≤ (k : Int) := by omega
          clear t2 t3
          have HS := HSX
          refine Tail.start 9 (fun w' => w'.cell? ⟨Y, 2, none⟩ = some (.int .i64 (k : Int)) ∧ w'.cell? ⟨bi, k, none⟩ = some (.slice AK LK cK)) (by kernel_rfl) ?_
          refine Tail.take 0 rfl (by kernel_rfl) (fun _ _ _ h => h) (by rfl) HS (fun w hSw => by (try dsimp only at hSw); go_simp; (try with_reducible rfl)) ?_
          try simp only [Act.put, List.setIfInBounds_toArray, List.set_cons_zero, List.set_cons_succ]
          refine Tail.take 1 rfl (by kernel_rfl) (fun _ _ _ h => h) (by rfl) HS (fun w hSw => by (try dsimp only at hSw); go_simp; (try with_reducible rfl)) ?_
          try simp only [Act.put, List.setIfInBounds_toArray, List.set_cons_zero, List.set_cons_succ]
          refine Tail.take 2 rfl (by kernel_rfl) (fun _ _ _ h => h) (by rfl) HS (fun w hSw => by (try dsimp only at hSw); go_simp; (try with_reducible rfl)) ?_
          try simp only [Act.put, List.setIfInBounds_toArray, List.set_cons_zero, List.set_cons_succ]
          refine Tail.take 3 rfl (by kernel_rfl) (fun _ _ _ h => h) (by rfl) HS (fun w hSw => by (try dsimp only at hSw); go_simp; (try with_reducible rfl)) ?_
          try simp only [Act.put, List.setIfInBounds_toArray, List.set_cons_zero, List.set_cons_succ]
          refine Tail.take 4 rfl (by kernel_rfl) (fun _ _ _ h => h) (by rfl) HS (fun w hSw => by (try dsimp only at hSw); go_simp; (try with_reducible rfl)) ?_
          try simp only [Act.put, List.setIfInBounds_toArray, List.set_cons_zero, List.set_cons_succ]
          refine Tail.take 5 rfl (by kernel_rfl) (fun _ _ _ h => h) (by rfl) HS (fun w hSw => by (try dsimp only at hSw); go_simp; (try with_reducible rfl)) ?_
          try simp only [Act.put, List.setIfInBounds_toArray, List.set_cons_zero, List.set_cons_succ]
          refine Tail.take 6 rfl (by kernel_rfl) (fun _ _ _ h => h) (by rfl) HS (fun w hSw => by (try dsimp only at hSw); go_simp; (try with_reducible rfl)) ?_
          try simp only [Act.put, List.setIfInBounds_toArray, List.set_cons_zero, List.set_cons_succ]
          -- 7: eff buildSlice
          refine Tail.one 7 rfl (by kernel_rfl) (fun K hK => ?_)
          go_simp
          have HS : (WX.alloc (.cells #[.int .i64 (i : Int)] 3)).drew.cell? ⟨Y, 2, none⟩ = some (.int .i64 (k : Int)) ∧ (WX.alloc (.cells #[.int .i64 (i : Int)] 3)).drew.cell? ⟨bi, k, none⟩ = some (.slice AK LK cK) := two_kept ((Kept.refl (fun _ => False) WX.drew).alloc _) HSX (fun h => h) (fun h => h)
          refine hK.out _ _ HS ?_
          clear hK K
          try simp only [Act.put, List.setIfInBounds_toArray, List.set_cons_zero, List.set_cons_succ]
          -- 8: call call { callee := Callee.builtin Builtin.append, args := #[Operand.tmp 68, Operand.tmp 70],
          refine Tail.one 8 rfl (by kernel_rfl) (fun K hK => ?_)
          refine step_row rfl (.tmp 68) (.tmp 70) 41 rfl 3 (.int .i64 0) 1 8 Try.underlying41 info_int rfl (by omega) (.slice AK LK cK) LK (nums .i64 (l k)) rfl HRK.out _ _ [.int .i64 (i : Int)] rfl HRD.out (by simp [Value.oneCell']) (by omega) ?_
          intro v1 w6 hr1 hk1 hn1
          obtain ⟨A1, cap1, rfl⟩ := hr1.shape
          have HS : w6.cell? ⟨Y, 2, none⟩ = some (.int .i64 (k : Int)) ∧ w6.cell? ⟨bi, k, none⟩ = some (.slice AK LK cK) := two_kept hk1 HS (fun e => HNY.out e) (fun e => HNB.out e)
          have HR1 := Lib.hid hr1
          have HK1 := Lib.hid hk1
          have HN1 := Lib.hid hn1
          clear hr1 hk1 hn1
          refine hK.out _ _ HS ?_
          clear hK K
          try simp only [Act.put, List.setIfInBounds_toArray, List.set_cons_zero, List.set_cons_succ]
          refine Tail.tail 9 rfl (by kernel_rfl) ?_
          simp only [List.drop_succ_cons, List.drop_zero]
          have zf : w6.frozen? ⟨bi, k, none⟩ = false := (HK1.out.frozen (p := ⟨bi, k, none⟩) (by have := (HD5.out.ox.outer bi (.inl (.inl rfl))).2; simp; omega) (fun e => HNB.out e)).trans ((((Kept.refl (fun _ => False) WX).alloc _).drew.frozen (p := ⟨bi, k, none⟩) (HD5.out.ox.outer bi (.inl (.inl rfl))).2 id).trans (HF5.out k))
          obtain ⟨_, zc⟩ := HS
          go_wp2_with fail
          go_roundw
          case rel =>
            refine ⟨i + 1, push (goes s (now + dt)) (i : Int) 0 k d, _, _, now + dt, by omega, by go_num, rfl, by rw [HPU.out], by omega, by omega, od_in HOD.out hk4 (i : Int) 0 d (now + dt), fun j hj => ?_,
              ((HD5.out.run ((Kept.refl _ WX).alloc (.cells #[.int .i64 (i : Int)] 3)).drew).appi hk4 (by rw [← HLK.out]; exact HR1.out) (by rw [HOK.out]; exact HK1.out) (by rw [HOK.out]; exact HN1.out)).grab (Kept.refl _ _) (fun g hg => .inl (.inl hg)) (.inl rfl) (.inr rfl)⟩
            by_cases e : j = k
            · subst e
              have := HLL.out j hj
              simp only [if_pos, List.length_append, List.length_singleton]
              omega
            · have := HLL.out j hj
              simp only [if_neg e]
              omega
          case measure => exact meas4 100 i h2
        · have ee := enq_no (s := s) (a := (i : Int)) (b := 0) (d := d) (now := now + dt) hroom
          rw [ee] at henq
          have HEN := Lib.hid henq
          clear henq ee hroom
          go_wp2_with fail
          refine HEN.out.mono ?_
          rintro e w5 ⟨rfl, h5⟩
          have HD5 := Lib.hid ((HDc.out.step h5).grab (E' := fun g => g = bi ∨ g = bi + 1) (Kept.refl _ _) (fun g hg => .inl (.inl hg)) (.inl rfl) (.inr rfl))
          clear h5 r0 r1 r2 r3
          go_wp2_with fail
          go_roundw
          case rel => exact ⟨i + 1, goes s (now + dt), o, l, now + dt, by omega, by go_num, rfl, by rw [HU.out]; rfl, by omega, by omega, od_goes HOD.out _, fun j hj => by have := HLL.out j hj; omega, HD5.out⟩
          case measure => exact meas4 100 i h2
      · go_upto_region 12 with fail
        rw [← HWB.out, ← HXX.out]
        clear z0 z1 z2 z3 z4 z5 z6 z7 z8
        go_wp2_with fail
        refine (mod64_any nw 65536 _ (by omega) (by omega)).mono ?_
        rintro e w3 ⟨rfl, rfl⟩
        rw [HDT.out]
        go_wp2_with fail
        have hp := HDb.out.ox.px.here.polling (now + dt) fl
        have hle := poll_len HDb.out.ox.px.ok (now + dt) fl
        have hps := polls_pops (upto s 4).length (goes_ok HDb.out.ox.px.ok (now + dt)) (clampI fl 0 1099511627776)
        have hpe : poll s (now + dt) fl = polls (upto s 4).length (goes s (now + dt)) (clampI fl 0 1099511627776) := rfl
        rw [← hpe] at hps
        obtain ⟨out, ho⟩ : ∃ out, out = (poll s (now + dt) fl).1 := ⟨_, rfl⟩
        obtain ⟨s5, hs5⟩ : ∃ s5, s5 = (poll s (now + dt) fl).2 := ⟨_, rfl⟩
        obtain ⟨sg, hsg⟩ : ∃ sg, sg = goes s (now + dt) := ⟨_, rfl⟩
        rw [← ho] at hp hle hps
        rw [← hs5] at hp hps
        rw [← hsg] at hps
        have HSG := Lib.hid (show Od sg l ∧ (upto sg 4).length = U from by rw [hsg, HU.out]; exact ⟨od_goes HOD.out _, rfl⟩)
        obtain ⟨L, hL⟩ : ∃ L, L = out.length := ⟨_, rfl⟩
        rw [← hL] at hp hle
        have HL := Lib.hid hL
        have HPo := Lib.hid hp
        have HPS := Lib.hid hps
        have hle' : (L : Int) ≤ 1024 := by omega
        clear hp ho hle hL hs5 hps hpe hsg
        refine HPo.out.mono ?_
        rintro e w5 ⟨A5, c5, rfl, hr5, hat5, h5, _⟩
        have HD5 := Lib.hid (HDb.out.step h5)
        have HR5 := Lib.hid hr5
        have HAT := Lib.hid (show (∀ k, k < 8 → ∀ g, isAt (o k) g → ¬ isAt (.slice A5 L c5) g) ∧ (¬ isAt (.slice A5 L c5) (bi + 1)) from
          ⟨fun k hk g hg e => (by have h1 := hat5 g e; have h2 := (HDb.out.ox.rows k hk).lt hg; omega), fun e => (by have h1 := hat5 _ e; have h2 := (HDb.out.ox.outer (bi + 1) (.inr rfl)).2; omega)⟩)
        clear hr5 hat5 h5 q0 q3 q4 q7 q8
        go_wp2_with fail
        go_loopw [8, 13] (fun cv jv wx => ∃ (j : Nat) (o5 : Nat → Value) (l5 : Nat → List Int), (j : Int) ≤ (L : Int) ∧ jv = .int .i64 (j : Int) ∧ cv = .int .i64 ((upto (pops sg (out.take j)) 4).length : Int) ∧ Od (pops sg (out.take j)) l5 ∧ (∀ k, k < 4 → l5 k = l k) ∧ OD (fun g => g = bi ∨ g = bi + 1) w wx p s5 o5 l5 bi (bi + 1) ∧
          RW wx 4 (.slice A5 L c5) L (flat4 out) ∧ (∀ k, k < 8 → ∀ g, isAt (o5 k) g → ¬ isAt (.slice A5 L c5) g)) (fun _ jv _ => ((L : Int) - intOf jv).toNat)
        case atStart => exact ⟨0, o, l, by omega, rfl, by rw [show pops sg (out.take 0) = sg from rfl, HSG.out.2], HSG.out.1, fun _ _ => rfl, HD5.out, HR5.out, HAT.out.1⟩
        case round =>
          obtain ⟨j, o5, l5, hj, rfl, rfl, hod5, hl5, hd5, hrw5, hdis5⟩ := hrel
          obtain ⟨U5, hU5⟩ : ∃ U5, U5 = (upto (pops sg (out.take j)) 4).length := ⟨_, rfl⟩
          rw [← hU5]
          have HU5 := Lib.hid hU5
          have HOD5 := Lib.hid hod5
          have HL5 := Lib.hid hl5
          have HDX := Lib.hid hd5
          have HRW5 := Lib.hid hrw5
          have HDIS := Lib.hid hdis5
          clear hU5 hod5 hl5 hd5 hrw5 hdis5
          by_cases hjl : (j : Int) < (L : Int)
          · obtain ⟨g5, off5, x, hA5, hx, hg5, y0, y2, y3⟩ := out_at HRW5.out (i := j) (by omega)
            obtain ⟨okj, lj, huj⟩ := HPS.out.2 j x hx
            obtain ⟨k5, hxk, hk5, hlow, hod6⟩ := od_out HOD5.out okj huj
            have hpop : pops sg (out.take (j + 1)) = pop (pops sg (out.take j)) x := by
              obtain ⟨hjj, rfl⟩ := List.getElem?_eq_some_iff.1 hx
              unfold pops
              rw [List.take_succ_eq_append_getElem hjj, List.foldl_append]
              rfl
            have hU6 : ((upto (pops sg (out.take (j + 1))) 4).length : Int) = (U5 : Int) - 1 := by
              rw [hpop, upto_pop okj huj, HU5.out, huj]
              simp
            have hUb : (U5 : Int) ≤ 1024 := by have := upto_le okj; rw [HU5.out]; omega
            have hU1 : (1 : Int) ≤ (U5 : Int) := by rw [HU5.out, huj]; simp; omega
            rw [← hpop] at hod6
            obtain ⟨xi, xs, xc, xz, xt⟩ := x
            simp only at y0 y2 y3 hxk hod6
            subst hxk
            have HOD6 := Lib.hid hod6
            have HLOW := Lib.hid hlow
            have HU6 := Lib.hid hU6
            have HA5 := Lib.hid hA5
            have hk5' : (k5 : Int) < 4 := by omega
            have HLb := Lib.hid (show ∀ k, k < 4 → ((l5 k).length : Int) ≤ 100 ∧ ((l5 (4 + k)).length : Int) ≤ 100 from fun k hk => by
              have h1 := (od_prefix HOD5.out hk).1
              have h2 := HLL.out k hk
              rw [← HL5.out k hk] at h2
              exact ⟨by omega, by omega⟩)
            clear hx huj hod6 hlow hU6 hpop
            subst hA5
            go_wp2_with fail
            go_loopw [15] (fun dv wx => ∃ dd : Nat, (dd : Int) ≤ (k5 : Int) ∧ dv = .int .i64 (dd : Int) ∧ Kept (fun _ => False) wr wx) (fun dv _ => ((k5 : Int) - intOf dv).toNat)
            case atStart => exact ⟨0, by omega, rfl, Kept.refl _ _⟩
            case round =>
              obtain ⟨dd, hdd, rfl, hw⟩ := hrel
              have HWd := Lib.hid hw
              clear hw
              have HDY := Lib.hid (HDX.out.run HWd.out)
              by_cases hlt : (dd : Int) < (k5 : Int)
              · have hd4 : dd < 4 := by omega
                have hd4' : (dd : Int) < 4 := by omega
                obtain ⟨AO, cO, hoo⟩ := HDY.out.ox.val (i := 4 + dd) (by omega)
                obtain ⟨AI, cI, hoi⟩ := HDY.out.ox.val (i := dd) (by omega)
                have hcl := HDY.out.cells hd4
                have hle2 := HLOW.out dd (by omega)
                rw [hoo, hoi] at hcl
                rw [hle2] at hcl
                obtain ⟨t1, t2, _, _⟩ := hcl
                have hd0 : (0 : Int) ≤ (dd : Int) := by omega
                obtain ⟨LD, hLD⟩ : ∃ LD, LD = (l5 dd).length := ⟨_, rfl⟩
                rw [← hLD] at t1 t2
                clear hoo hoi hle2 hLD
                go_wp2_with fail
                go_quiet (fail)
                go_wp2_with fail
                go_roundw
                case rel => exact ⟨dd + 1, by omega, by go_num, HWd.out.drewN _⟩
                case measure => exact meas4 k5 dd hlt
              · go_wp2_with fail
                obtain ⟨WX, hWX⟩ : ∃ WX, WX = wr := ⟨_, rfl⟩
                have t0 := (HWd.out.cell (p := ⟨g5, off5 + j * 4, none⟩) hg5 id).trans y0
                have HRX := Lib.hid (HRW5.out.kept HWd.out (fun _ _ => id))
                rw [← hWX] at HDY HRX t0 ⊢
                obtain ⟨AK, cK, hok⟩ := HDY.out.ox.val (i := 4 + k5) (by omega)
                obtain ⟨LK, hLK⟩ : ∃ LK, LK = (l5 (4 + k5)).length := ⟨_, rfl⟩
                have hcells := HDY.out.cells hk5
                rw [← hLK] at hok
                have hLKb : LK ≤ 1000000 := by have := (HLb.out k5 hk5).2; omega
                have t3 : WX.cell? ⟨bi + 1, k5, none⟩ = some (.slice AK LK cK) := by rw [hcells.2.1, hok]
                have HF5 := Lib.hid hcells.2.2.2
                have HOK := Lib.hid hok
                have HLK := Lib.hid hLK
                clear hcells hok hLK hWX
                have HSX : WX.drew.cell? ⟨g5, off5 + j * 4, none⟩ = some (.int .i64 xi) ∧ WX.drew.cell? ⟨bi + 1, k5, none⟩ = some (.slice AK LK cK) := ⟨t0, t3⟩
                have HRK := Lib.hid (show RW (WX.alloc (.cells #[.int .i64 xi] 3)).drew 1 (.slice AK LK cK) LK (nums .i64 (l5 (4 + k5))) from row_is ((HDY.out.ox.alloc (.cells #[.int .i64 xi] 3)).drew) (i := 4 + k5) (by omega) HOK.out HLK.out.symm)
                have HRD := Lib.hid (show Rd (WX.alloc (.cells #[.int .i64 xi] 3)).drew 1 (some ⟨WX.heap.size, 0, none⟩) 1 [.int .i64 xi] from Rd.one WX _ _)
                have HNY := Lib.hid (show isAt (.slice AK LK cK) g5 → False from fun e => HDIS.out (4 + k5) (by omega) g5 (by rw [HOK.out]; exact e) ⟨_, _, _, rfl⟩)
                have HNB := Lib.hid (show isAt (.slice AK LK cK) (bi + 1) → False from fun e => (HDY.out.ox.own (4 + k5) (by omega) (bi + 1) (by rw [HOK.out]; exact e)).2 (.inr rfl))
                have hk0 : (0 : Int) ≤ (k5 : Int) := by omega
                have HGS := Lib.hid (show g5 < WX.heap.size from World.block_lt_of_cell? WX ⟨g5, off5 + j * 4, none⟩ t0)
                clear t0 t3 y0 y2 y3
                have HS := HSX
                refine Tail.start 11 (fun w' => w'.cell? ⟨g5, off5 + j * 4, none⟩ = some (.int .i64 xi) ∧ w'.cell? ⟨bi + 1, k5, none⟩ = some (.slice AK LK cK)) (by kernel_rfl) ?_
                refine Tail.take 0 rfl (by kernel_rfl) (fun _ _ _ h => h) (by rfl) HS (fun w hSw => by (try dsimp only at hSw); go_simp; (try with_reducible rfl)) ?_
                try simp only [Act.put, List.setIfInBounds_toArray, List.set_cons_zero, List.set_cons_succ]
                refine Tail.take 1 rfl (by kernel_rfl) (fun _ _ _ h => h) (by rfl) HS (fun w hSw => by (try dsimp only at hSw); go_simp; (try with_reducible rfl)) ?_
                try simp only [Act.put, List.setIfInBounds_toArray, List.set_cons_zero, List.set_cons_succ]
                refine Tail.take 2 rfl (by kernel_rfl) (fun _ _ _ h => h) (by rfl) HS (fun w hSw => by (try dsimp only at hSw); go_simp; (try with_reducible rfl)) ?_
                try simp only [Act.put, List.setIfInBounds_toArray, List.set_cons_zero, List.set_cons_succ]
                refine Tail.take 3 rfl (by kernel_rfl) (fun _ _ _ h => h) (by rfl) HS (fun w hSw => by (try dsimp only at hSw); go_simp; (try with_reducible rfl)) ?_
                try simp only [Act.put, List.setIfInBounds_toArray, List.set_cons_zero, List.set_cons_succ]
                refine Tail.take 4 rfl (by kernel_rfl) (fun _ _ _ h => h) (by rfl) HS (fun w hSw => by (try dsimp only at hSw); go_simp; (try with_reducible rfl)) ?_
                try simp only [Act.put, List.setIfInBounds_toArray, List.set_cons_zero, List.set_cons_succ]
                refine Tail.take 5 rfl (by kernel_rfl) (fun _ _ _ h => h) (by rfl) HS (fun w hSw => by (try dsimp only at hSw); go_simp; (try with_reducible rfl)) ?_
                try simp only [Act.put, List.setIfInBounds_toArray, List.set_cons_zero, List.set_cons_succ]
                refine Tail.take 6 rfl (by kernel_rfl) (fun _ _ _ h => h) (by rfl) HS (fun w hSw => by (try dsimp only at hSw); go_simp; (try with_reducible rfl)) ?_
                try simp only [Act.put, List.setIfInBounds_toArray, List.set_cons_zero, List.set_cons_succ]
                refine Tail.take 7 rfl (by kernel_rfl) (fun _ _ _ h => h) (by rfl) HS (fun w hSw => by (try dsimp only at hSw); go_simp; (try with_reducible rfl)) ?_
                try simp only [Act.put, List.setIfInBounds_toArray, List.set_cons_zero, List.set_cons_succ]
                refine Tail.take 8 rfl (by kernel_rfl) (fun _ _ _ h => h) (by rfl) HS (fun w hSw => by (try dsimp only at hSw); go_simp; (try with_reducible rfl)) ?_
                try simp only [Act.put, List.setIfInBounds_toArray, List.set_cons_zero, List.set_cons_succ]
                -- 9: eff buildSlice
                refine Tail.one 9 rfl (by kernel_rfl) (fun K hK => ?_)
                go_simp
                have HS : (WX.alloc (.cells #[.int .i64 xi] 3)).drew.cell? ⟨g5, off5 + j * 4, none⟩ = some (.int .i64 xi) ∧ (WX.alloc (.cells #[.int .i64 xi] 3)).drew.cell? ⟨bi + 1, k5, none⟩ = some (.slice AK LK cK) := two_kept ((Kept.refl (fun _ => False) WX.drew).alloc _) HSX (fun h => h) (fun h => h)
                refine hK.out _ _ HS ?_
                clear hK K
                try simp only [Act.put, List.setIfInBounds_toArray, List.set_cons_zero, List.set_cons_succ]
                -- 10: call call { callee := Callee.builtin Builtin.append, args := #[Operand.tmp 108, Operand.tmp 114
                refine Tail.one 10 rfl (by kernel_rfl) (fun K hK => ?_)
                refine step_row rfl (.tmp 108) (.tmp 114) 41 rfl 3 (.int .i64 0) 1 8 Try.underlying41 info_int rfl (by omega) (.slice AK LK cK) LK (nums .i64 (l5 (4 + k5))) rfl HRK.out _ _ [.int .i64 xi] rfl HRD.out (by simp [Value.oneCell']) (by omega) ?_
                intro v1 w7 hr1 hk1 hn1
                obtain ⟨A1, cap1, rfl⟩ := hr1.shape
                have HS : w7.cell? ⟨g5, off5 + j * 4, none⟩ = some (.int .i64 xi) ∧ w7.cell? ⟨bi + 1, k5, none⟩ = some (.slice AK LK cK) := two_kept hk1 HS (fun e => HNY.out e) (fun e => HNB.out e)
                have HR1 := Lib.hid hr1
                have HK1 := Lib.hid hk1
                have HN1 := Lib.hid hn1
                clear hr1 hk1 hn1
                refine hK.out _ _ HS ?_
                clear hK K
                try simp only [Act.put, List.setIfInBounds_toArray, List.set_cons_zero, List.set_cons_succ]
                refine Tail.tail 11 rfl (by kernel_rfl) ?_
                simp only [List.drop_succ_cons, List.drop_zero]
                have zf : w7.frozen? ⟨bi + 1, k5, none⟩ = false := (HK1.out.frozen (p := ⟨bi + 1, k5, none⟩) (by have := (HDY.out.ox.outer (bi + 1) (.inr rfl)).2; simp; omega) (fun e => HNB.out e)).trans ((((Kept.refl (fun _ => False) WX).alloc _).drew.frozen (p := ⟨bi + 1, k5, none⟩) (HDY.out.ox.outer (bi + 1) (.inr rfl)).2 id).trans (HF5.out k5))
                obtain ⟨_, zc⟩ := HS
                go_wp2_with fail
                go_roundw
                case rel =>
                  have hg5o : ¬ (g5 = bi + 1) := fun e => HAT.out.2 ⟨_, _, _, by rw [e]⟩
                  refine ⟨j + 1, _, _, by omega, by go_num, by rw [HU6.out], HOD6.out, fun k hk => ?_, (HDY.out.run ((Kept.refl _ WX).alloc (.cells #[.int .i64 xi] 3)).drew).appo hk5 (by rw [← HLK.out]; exact HR1.out) (by rw [HOK.out]; exact HK1.out) (by rw [HOK.out]; exact HN1.out), ?_, fun k hk g hg hgo => ?_⟩
                  · have hne : ¬ k = 4 + k5 := by omega
                    simp only [if_neg hne]
                    exact HL5.out k hk
                  · refine ((HRX.out.kept ((Kept.refl (fun _ => False) WX).alloc (.cells #[.int .i64 xi] 3)).drew (fun _ _ => id)).kept HK1.out (fun g hg e => ?_)).kept (Kept.setCell (S := fun g => g = bi + 1) (Kept.refl _ _) (p := ⟨bi + 1, k5, none⟩) (.inl rfl) _) (fun g hg e => ?_)
                    · obtain ⟨_, _, _, eg⟩ := hg
                      injection eg with eg; injection eg with eg; injection eg with eg
                      subst eg
                      exact HNY.out e
                    · obtain ⟨_, _, _, eg⟩ := hg
                      injection eg with eg; injection eg with eg; injection eg with eg
                      exact hg5o (eg.trans e)
                  · obtain ⟨_, _, _, eg⟩ := hgo
                    injection eg with eg; injection eg with eg; injection eg with eg
                    subst eg
                    by_cases e : k = 4 + k5
                    · simp only [if_pos e] at hg
                      rcases HN1.out g5 hg with h1 | h1
                      · exact HNY.out h1
                      · have := HGS.out
                        simp at h1
                        omega
                    · simp only [if_neg e] at hg
                      exact HDIS.out k hk g5 hg ⟨_, _, _, rfl⟩
                case measure => exact meas4 L j hjl
          · have hjL : j = L := by omega
            have hall : out.take j = out := by rw [hjL, HL.out]; exact List.take_length
            rw [hall, ← HPS.out.1] at HOD5 HU5
            clear hall
            go_wp2_with fail
            go_roundw
            case rel => exact ⟨i + 1, s5, o5, l5, now + dt, by omega, by go_num, rfl, by rw [HU5.out], by omega, by omega, HOD5.out, fun k hk => by rw [HL5.out k hk]; have := HLL.out k hk; omega, HDX.out⟩
            case measure => exact meas4 100 i h2
    · have hgo : ¬ (i : Int) < (n : Int) ∨ ((i : Int) < (n : Int) ∧ ¬ (i : Int) < 100) := by omega
      have hi100 : ∀ k, k < 4 → (l k).length ≤ 100 := fun k hk => by have := HLL.out k hk; omega
      have HI := Lib.hid hi100
      clear hi100
      rcases hgo with hgo | ⟨hgo, hgo2⟩
      all_goals
        go_wp2_with fail
        go_loopw [16] (fun cv wx => ∃ k : Nat, (k : Int) ≤ 4 ∧ cv = .int .i64 (k : Int) ∧ Kept (fun _ => False) wr wx) (fun cv _ => ((4 : Int) - intOf cv).toNat)
        case atStart => exact ⟨0, by omega, rfl, Kept.refl _ _⟩
        case round =>
          obtain ⟨k, hk, rfl, hw⟩ := hrel
          have HDY := Lib.hid (HDD.out.run hw)
          have HW := Lib.hid hw
          clear hw
          by_cases hlt : (k : Int) < 4
          · have hk4 : k < 4 := by omega
            have hk0 : (0 : Int) ≤ (k : Int) := by omega
            obtain ⟨AO, cO, hoo⟩ := HDY.out.ox.val (i := 4 + k) (by omega)
            obtain ⟨AI, cI, hoi⟩ := HDY.out.ox.val (i := k) (by omega)
            have hcl := HDY.out.cells hk4
            obtain ⟨hp1, hp2⟩ := od_prefix HOD.out hk4
            have hr1 : RI wr .i64 AO (l (4 + k)).length (l (4 + k)) := RW.ints (row_is HDY.out.ox (i := 4 + k) (by omega) hoo rfl) (by have := HI.out k hk4; omega)
            have hr2 : RI wr .i64 AI (l (4 + k)).length (l (4 + k)) := by
              have h1 := RI.take (RW.ints (row_is HDY.out.ox (i := k) (by omega) hoi rfl) (by have := HI.out k hk4; omega)) hp1
              rwa [hp2] at h1
            have hcap : (l k).length ≤ cI := RW.cap (row_is HDY.out.ox (i := k) (by omega) hoi rfl)
            have hLI := HI.out k hk4
            rw [hoo, hoi] at hcl
            obtain ⟨t1, t2, _, _⟩ := hcl
            obtain ⟨LO, hLO⟩ : ∃ LO, LO = (l (4 + k)).length := ⟨_, rfl⟩
            obtain ⟨LI, hLI2⟩ : ∃ LI, LI = (l k).length := ⟨_, rfl⟩
            rw [← hLO] at t2 hp1 hr1 hr2
            rw [← hLI2] at t1 hp1 hcap hLI
            have hp1' : ¬ ((LI : Int) < (LO : Int)) := by omega
            have hcap' : (LO : Int) ≤ (cI : Int) := by omega
            have hLO0 : (0 : Int) ≤ (LO : Int) := by omega
            have d1 : decide ((LI : Int) < (LO : Int)) = false := by simpa using hp1
            have HIS := Lib.hid (fun n => ints_same AO AI LO cO cI (l (4 + k)) (wr.drewN n) (hr1.below ((Kept.refl (fun _ => False) wr).drewN n |>.below (Nat.le_refl _) (fun _ h => h.elim))) (hr2.below ((Kept.refl (fun _ => False) wr).drewN n |>.below (Nat.le_refl _) (fun _ h => h.elim))))
            clear hoo hoi hr1 hr2 hLO hLI2 hp2
            go_wp2_with fail
            go_quiet ((go_at_call 17; exact Calls.quiet_of (HIS.out _)))
            go_wp2_with fail
            go_roundw
            case rel => exact ⟨k + 1, by omega, by go_num, HW.out.drewN _⟩
            case measure => exact meas4 4 k hlt
          · go_wp2_with fail
            refine (HDY.out.ox.px.here.waiting).mono ?_
            rintro e w4 ⟨rfl, h4⟩
            have HB4 := Lib.hid (show Below w.heap.size w w4 from (HDY.out.ox.step h4).below)
            rw [← HU.out]
            clear h4
            go_wp2_with fail
            refine (wakes_any _).mono ?_
            rintro e w5 ⟨rfl, h5⟩
            have H5 := Lib.hid h5
            clear h5
            go_wp2_with fail
            go_ret
            exact ⟨rfl, below_then HB4.out HB4.out.size H5.out⟩
end Go.Proofs.Ytkjjkepiihdihaa.Pace
