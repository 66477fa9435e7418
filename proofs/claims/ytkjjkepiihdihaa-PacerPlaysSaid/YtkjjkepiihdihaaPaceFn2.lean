/- What New, goes, Set and first come to; no condition but the ranges in each. -/
import Derived.Test.YtkjjkepiihdihaaPaceFn
import Derived.Test.YtkjjkepiihdihaaTail
namespace Go.Proofs.Ytkjjkepiihdihaa.Pace
open Go.RowKit Go.Proofs.Ytkjjkepiihdihaa.Plain Go.Proofs.Ytkjjkepiihdihaa.Heap Go.Proofs.Ytkjjkepiihdihaa.Rows

set_option maxHeartbeats 1000000 in
theorem new_any (N : Nat → Prop) (b q : Int) (w : World) (b0 : ¬ b < 1500) (b1 : ¬ 16777216 < b) (q0 : ¬ q < 1) (q1 : ¬ 256 < q) (hN : ∀ g, N g → g < w.heap.size) : Calls Try.prog 10 #[.int .i64 b, .int .i64 q] w
    fun e w' => ∃ p, e = .returned (.tuple #[.pointer (some ⟨p, 0, none⟩), .int .i64 0]) ∧ PB 63 N w' p ⟨b * 8000000, b * 8000000, 0, 0, 0, q, fun _ => []⟩ ∧ w.heap.size ≤ p ∧ Below w.heap.size w w' := by
  have e1 : wrap64 (b * 8000000) = b * 8000000 := w64 (by omega) (by omega)
  go_enter Try.func10, Try.ntmps10
  go_wp2
  go_ret2
  have h := heap_alloc_new w (.cells (pcells ⟨b * 8000000, b * 8000000, 0, 0, 0, q, fun _ => []⟩ (fun _ => .slice none 0 0)) 63)
  refine ⟨w.heap.size, rfl, ⟨fun _ => .slice none 0 0, h, fun c hc => RW.nil _ _, fun hn => Nat.lt_irrefl _ (hN _ hn), fun c hc g hg => ?_, fun c d _ _ _ g hg => ?_, fun g hg => by have := hN g hg; simp; omega⟩, Nat.le_refl _, (Below.refl _ _).alloc (Nat.le_refl _) _⟩
  · obtain ⟨_, _, _, e⟩ := hg; cases e
  · obtain ⟨_, _, _, e⟩ := hg; cases e
set_option maxHeartbeats 1000000 in
theorem new_bad (b q : Int) (w : World) (h : b < 1500 ∨ 16777216 < b ∨ q < 1 ∨ 256 < q) : Calls Try.prog 10 #[.int .i64 b, .int .i64 q] w fun e w' => e = .returned (.tuple #[.pointer none, .int .i64 1]) ∧ w = w' := by
  have h' : b < 1500 ∨ (¬ b < 1500 ∧ 16777216 < b) ∨ (¬ b < 1500 ∧ ¬ 16777216 < b ∧ q < 1) ∨ (¬ b < 1500 ∧ ¬ 16777216 < b ∧ ¬ q < 1 ∧ 256 < q) := by omega
  clear h
  rcases h' with h | ⟨h, h2⟩ | ⟨h, h2, h3⟩ | ⟨h, h2, h3, h4⟩
  all_goals
    go_enter Try.func10, Try.ntmps10
    go_wp2
    go_ret2
    exact ⟨rfl, rfl⟩
theorem clamp_is {a lo hi t : Int} (h : (if a < lo then lo else if a > hi then hi else a) = t) (w : World) : Calls Try.prog 30 #[.int .i64 a, .int .i64 lo, .int .i64 hi] w fun e w' => e = .returned (.int .i64 t) ∧ w = w' := h ▸ Sat.clamp_any a lo hi w
set_option linter.unusedSimpArgs false in
set_option maxRecDepth 10000 in
set_option maxHeartbeats 2000000 in
theorem goes_walk (N : Nat → Prop) (now : Int) (p : Nat) (v : Nat → Value) (w : World) (s : PS) (h : PV 63 N w p v s) (ok : okP s) : Calls Try.prog 29 #[.pointer (some ⟨p, 0, none⟩), .int .i64 now] w
    fun e w' => e = .returned (.tuple #[]) ∧ PV 63 N w' p v (goes s now) ∧ Kept (fun g => g = p) w w' := by
  obtain ⟨c0, c1, c2, c3, c4, c5, _, _, _, _, hf, hp⟩ := h.cells
  obtain ⟨t0, t1⟩ := clampT_bd ok now
  have ect : s.now < 1125899906842624 ∨ ¬ s.now < 1125899906842624 := by omega
  have ec1 : s.now < 1125899906842624 → (if now < s.now then s.now else if now > 1125899906842624 then 1125899906842624 else now) = clampT s now := fun _ => rfl
  have ec2 : ¬ s.now < 1125899906842624 → (if now < s.now then s.now else if now > s.now then s.now else now) = clampT s now := fun h => by
    have := ok.now1
    unfold clampT
    split
    · rfl
    · split <;> split <;> omega
  obtain ⟨t, ht⟩ : ∃ t, t = clampT s now := ⟨_, rfl⟩
  rw [← ht] at t0 t1 ec1 ec2
  have hnw := ok.now0
  have ed : IntKind.i64.wrap (t - s.now) = t - s.now := IntWalk.i64_in _ (by omega)
  have HP := Lib.hid h
  have OK := Lib.hid ok
  have EC1 := Lib.hid ec1
  have EC2 := Lib.hid ec2
  have HT := Lib.hid ht
  clear h ok ec1 ec2 ht c3 c5
  go_enter Try.func29, Try.ntmps29
  go_upto_region 0 with fail
  go_cut [1] (fun s1 wx => s1 = .int .i64 t ∧ wx = w.drew)
  case first =>
    rcases ect with h1 | h1
    · go_region_held3 (fun w' => w'.cell? ⟨p, 4, none⟩ = some (.int .i64 s.now)) (first | exact c4)
        (first
          | (go_at_call 30
             refine (clamp_is (EC1.out h1) _).mono ?_
             rintro e w1 ⟨rfl, rfl⟩))
      all_goals (go_wp2_with fail; go_meet; exact ⟨rfl, rfl⟩)
    · go_region_held3 (fun w' => w'.cell? ⟨p, 4, none⟩ = some (.int .i64 s.now)) (first | exact c4)
        (first
          | (go_at_call 30
             refine (clamp_is (EC2.out h1) _).mono ?_
             rintro e w1 ⟨rfl, rfl⟩))
      all_goals (go_wp2_with fail; go_meet; exact ⟨rfl, rfl⟩)
  case rest =>
  obtain ⟨rfl, hw⟩ := hcut
  rw [hw]
  clear hw
  clear c4
  obtain ⟨c0, c1, c2, c3, c4, c5, _, _, _, _, hf, hp⟩ := (HP.out.run (Kept.refl _ w).drew).cells
  clear c3 c5
  have HW := Lib.hid (HP.out.run (Kept.refl _ w).drew)
  generalize hW : w.drew = W at *
  obtain ⟨m0, m1⟩ := Sat.clamp64_bd (s.rate * (t - s.now))
  obtain ⟨M, hM⟩ : ∃ M, M = Sat.clamp64 (s.rate * (t - s.now)) := ⟨_, rfl⟩
  rw [← hM] at m0 m1
  have HM := Lib.hid hM
  have hr0 := OK.out.rate0
  have hr1 := OK.out.rate1
  have hcr0 := OK.out.credit0
  have hcr1 := OK.out.credit1
  have hbu1 := OK.out.burst1
  have CM := Lib.hid (fun W => Sat.mul_any s.rate (t - s.now) W (by omega) (by omega) (by omega) (by omega))
  have CA := Lib.hid (fun W => Sat.add_any s.credit M W (by omega) (by omega) m0 m1)
  have HG : (goes s now).credit = min (Sat.clamp64 (s.credit + M)) s.burst := by
    show min (s.credit + s.rate * (clampT s now - s.now)) s.burst = _
    rw [HM.out, ← HT.out]
    exact (held_min OK.out.credit0 OK.out.credit1 OK.out.rate0 (by omega) OK.out.burst1).symm
  have HG := Lib.hid HG.symm
  clear hM t0 t1 m0 m1 hr0 hr1 hcr0 hcr1 hbu1 hnw ect
  go_upto_region 1 with fail
  go_cut [1] (fun s1 wx => s1 = .int .i64 t ∧ PV 63 N wx p v { s with credit := (goes s now).credit } ∧ Kept (fun g => g = p) W wx)
  case first =>
    have HS : W.drew.cell? ⟨p, 0, none⟩ = some (.int .i64 s.burst) ∧ W.drew.cell? ⟨p, 1, none⟩ = some (.int .i64 s.credit) ∧ W.drew.cell? ⟨p, 2, none⟩ = some (.int .i64 s.rate) ∧ W.drew.cell? ⟨p, 4, none⟩ = some (.int .i64 s.now) := ⟨c0, c1, c2, c4⟩
    refine Tail.start 22 (fun w' => w'.cell? ⟨p, 0, none⟩ = some (.int .i64 s.burst) ∧ w'.cell? ⟨p, 1, none⟩ = some (.int .i64 s.credit) ∧ w'.cell? ⟨p, 2, none⟩ = some (.int .i64 s.rate) ∧ w'.cell? ⟨p, 4, none⟩ = some (.int .i64 s.now)) (by kernel_rfl) ?_
    refine Tail.take 0 rfl (by kernel_rfl) (fun _ _ _ h => h) (by rfl) HS (fun w hSw => by (try dsimp only at hSw); go_simp; (try with_reducible rfl)) ?_
    try simp only [Act.put, List.setIfInBounds_toArray, List.set_cons_zero, List.set_cons_succ]
    refine Tail.take 1 rfl (by kernel_rfl) (fun _ _ _ h => h) (by rfl) HS (fun w hSw => by (try dsimp only at hSw); go_simp; (try with_reducible rfl)) ?_
    try simp only [Act.put, List.setIfInBounds_toArray, List.set_cons_zero, List.set_cons_succ]
    refine Tail.take 2 rfl (by kernel_rfl) (fun _ _ _ h => h) (by rfl) HS (fun w hSw => by (try dsimp only at hSw); go_simp; (try with_reducible rfl)) ?_
    try simp only [Act.put, List.setIfInBounds_toArray, List.set_cons_zero, List.set_cons_succ]
    refine Tail.take 3 rfl (by kernel_rfl) (fun _ _ _ h => h) (by rfl) HS (fun w hSw => by (try dsimp only at hSw); go_simp; (try with_reducible rfl)) ?_
    try simp only [Act.put, List.setIfInBounds_toArray, List.set_cons_zero, List.set_cons_succ]
    refine Tail.take 4 rfl (by kernel_rfl) (fun _ _ _ h => h) (by rfl) HS (fun w hSw => by (try dsimp only at hSw); go_simp; (try with_reducible rfl)) ?_
    try simp only [Act.put, List.setIfInBounds_toArray, List.set_cons_zero, List.set_cons_succ]
    refine Tail.take 5 rfl (by kernel_rfl) (fun _ _ _ h => h) (by rfl) HS (fun w hSw => by (try dsimp only at hSw); go_simp; (try with_reducible rfl)) ?_
    try simp only [Act.put, List.setIfInBounds_toArray, List.set_cons_zero, List.set_cons_succ]
    refine Tail.take 6 rfl (by kernel_rfl) (fun _ _ _ h => h) (by rfl) HS (fun w hSw => by (try dsimp only at hSw); go_simp; (try with_reducible rfl)) ?_
    try simp only [Act.put, List.setIfInBounds_toArray, List.set_cons_zero, List.set_cons_succ]
    refine Tail.take 7 rfl (by kernel_rfl) (fun _ _ _ h => h) (by rfl) HS (fun w hSw => by (try dsimp only at hSw); go_simp; (try with_reducible rfl)) ?_
    try simp only [Act.put, List.setIfInBounds_toArray, List.set_cons_zero, List.set_cons_succ]
    refine Tail.take 8 rfl (by kernel_rfl) (fun _ _ _ h => h) (by rfl) HS (fun w hSw => by (try dsimp only at hSw); go_simp; (try with_reducible rfl)) ?_
    try simp only [Act.put, List.setIfInBounds_toArray, List.set_cons_zero, List.set_cons_succ]
    refine Tail.take 9 rfl (by kernel_rfl) (fun _ _ _ h => h) (by rfl) HS (fun w hSw => by (try dsimp only at hSw); go_simp; (try with_reducible rfl)) ?_
    try simp only [Act.put, List.setIfInBounds_toArray, List.set_cons_zero, List.set_cons_succ]
    refine Tail.take 10 rfl (by kernel_rfl) (fun _ _ _ h => h) (by rfl) HS (fun w hSw => by (try dsimp only at hSw); go_simp; (try with_reducible rfl)) ?_
    try simp only [Act.put, List.setIfInBounds_toArray, List.set_cons_zero, List.set_cons_succ]
    refine Tail.take 11 rfl (by kernel_rfl) (fun _ _ _ h => h) (by rfl) HS (fun w hSw => by (try dsimp only at hSw); go_simp; (try with_reducible rfl)) ?_
    try simp only [Act.put, List.setIfInBounds_toArray, List.set_cons_zero, List.set_cons_succ]
    refine Tail.take 12 rfl (by kernel_rfl) (fun _ _ _ h => h) (by rfl) HS (fun w hSw => by (try dsimp only at hSw); go_simp; (try with_reducible rfl)) ?_
    try simp only [Act.put, List.setIfInBounds_toArray, List.set_cons_zero, List.set_cons_succ]
    refine Tail.take 13 rfl (by kernel_rfl) (fun _ _ _ h => h) (by rfl) HS (fun w hSw => by (try dsimp only at hSw); go_simp; (try with_reducible rfl)) ?_
    try simp only [Act.put, List.setIfInBounds_toArray, List.set_cons_zero, List.set_cons_succ]
    refine Tail.take 14 rfl (by kernel_rfl) (fun _ _ _ h => h) (by rfl) HS (fun w hSw => by (try dsimp only at hSw); go_simp; (try with_reducible rfl)) ?_
    try simp only [Act.put, List.setIfInBounds_toArray, List.set_cons_zero, List.set_cons_succ]
    refine Tail.take 17 rfl (by kernel_rfl) (fun _ _ _ h => h) (by rfl) HS (fun w hSw => by (try dsimp only at hSw); go_simp; (try with_reducible rfl)) ?_
    try simp only [Act.put, List.setIfInBounds_toArray, List.set_cons_zero, List.set_cons_succ]
    refine Tail.take 18 rfl (by kernel_rfl) (fun _ _ _ h => h) (by rfl) HS (fun w hSw => by (try dsimp only at hSw); go_simp; (try with_reducible rfl)) ?_
    try simp only [Act.put, List.setIfInBounds_toArray, List.set_cons_zero, List.set_cons_succ]
    refine Tail.take 19 rfl (by kernel_rfl) (fun _ _ _ h => h) (by rfl) HS (fun w hSw => by (try dsimp only at hSw); go_simp; (try with_reducible rfl)) ?_
    try simp only [Act.put, List.setIfInBounds_toArray, List.set_cons_zero, List.set_cons_succ]
    refine Tail.take 20 rfl (by kernel_rfl) (fun _ _ _ h => h) (by rfl) HS (fun w hSw => by (try dsimp only at hSw); go_simp; (try with_reducible rfl)) ?_
    try simp only [Act.put, List.setIfInBounds_toArray, List.set_cons_zero, List.set_cons_succ]
    -- 15: call call { callee := Callee.value (Operand.func 36), args := #[Operand.tmp 23, Operand.tmp 29]
    refine Tail.one 15 rfl (by kernel_rfl) (fun K hK => ?_)
    go_simp
    refine (CM.out _).mono ?_
    rintro e w2 ⟨rfl, h2⟩
    rw [← HM.out]
    have HK2 := Lib.hid ((Kept.refl (fun _ => False) W).drew.trans (Kept.of_below (S := fun _ => False) h2) (fun _ _ h => h))
    obtain ⟨y0, y1, y2, _, y4, _, _, _, _, _, yf, _⟩ := (HW.out.run HK2.out).cells
    have HS : w2.cell? ⟨p, 0, none⟩ = some (.int .i64 s.burst) ∧ w2.cell? ⟨p, 1, none⟩ = some (.int .i64 s.credit) ∧ w2.cell? ⟨p, 2, none⟩ = some (.int .i64 s.rate) ∧ w2.cell? ⟨p, 4, none⟩ = some (.int .i64 s.now) := ⟨y0, y1, y2, y4⟩
    clear h2 y0 y1 y2 y4 yf
    refine hK.out _ _ HS ?_
    clear hK K
    try simp only [Act.put, List.setIfInBounds_toArray, List.set_cons_zero, List.set_cons_succ]
    -- 16: call call { callee := Callee.value (Operand.func 35), args := #[Operand.tmp 19, Operand.tmp 30]
    refine Tail.one 16 rfl (by kernel_rfl) (fun K hK => ?_)
    go_simp
    refine (CA.out _).mono ?_
    rintro e w3 ⟨rfl, h3⟩
    have HK3 := Lib.hid (HK2.out.trans (Kept.of_below (S := fun _ => False) h3) (fun _ _ h => h))
    obtain ⟨z0, z1, z2, _, z4, _, _, _, _, _, zf, _⟩ := (HW.out.run HK3.out).cells
    have HS : w3.cell? ⟨p, 0, none⟩ = some (.int .i64 s.burst) ∧ w3.cell? ⟨p, 1, none⟩ = some (.int .i64 s.credit) ∧ w3.cell? ⟨p, 2, none⟩ = some (.int .i64 s.rate) ∧ w3.cell? ⟨p, 4, none⟩ = some (.int .i64 s.now) := ⟨z0, z1, z2, z4⟩
    clear h3
    refine hK.out _ _ HS ?_
    clear hK K
    try simp only [Act.put, List.setIfInBounds_toArray, List.set_cons_zero, List.set_cons_succ]
    refine Tail.take 21 rfl (by kernel_rfl) (fun _ _ _ h => h) (by rfl) HS (fun w hSw => by (try dsimp only at hSw); go_simp; (try with_reducible rfl)) ?_
    try simp only [Act.put, List.setIfInBounds_toArray, List.set_cons_zero, List.set_cons_succ]
    refine Tail.tail 22 rfl (by kernel_rfl) ?_
    simp only [List.drop_succ_cons, List.drop_zero]
    go_wp2_with fail
    all_goals
      go_meet
      refine ⟨rfl, (HW.out.run HK3.out).credit ?_, Kept.setCell (S := fun g => g = p) (HK3.out.mono fun _ _ h => h.elim) (p := ⟨p, 1, none⟩) (.inl rfl) _⟩
      have e := HG.out
      omega
  case rest =>
  obtain ⟨rfl, h, hk⟩ := hcut
  obtain ⟨d0, d1, d2, d3, d4, d5, _, _, _, _, df, dp⟩ := h.cells
  have H := Lib.hid h
  have HK := Lib.hid hk
  clear h hk c0 c1 c2 c4 hf hp d0 d1 d2 d3 d5
  rename World => X
  go_wp2_with fail
  have hW : Kept (fun g => g = p) w W := by rw [← hW]; exact (Kept.refl _ w).drew
  exact bodyPost_end (results_none rfl _ _ _) rfl ⟨rfl, H.out.set 4 _ (by rw [HT.out]; rfl) rfl, Kept.setCell (S := fun g => g = p) (hW.trans HK.out (fun _ _ h => h)) (p := ⟨p, 4, none⟩) (.inl rfl) _⟩
theorem goes_any (N : Nat → Prop) (now : Int) (p : Nat) (v : Nat → Value) (w : World) (s : PS) (h : PV 63 N w p v s) (ok : okP s) : Calls Try.prog 29 #[.pointer (some ⟨p, 0, none⟩), .int .i64 now] w
    fun e w' => e = .returned (.tuple #[]) ∧ PV 63 N w' p v (goes s now) ∧ Kept (fun g => g = p) w w' := goes_walk N now p v w s h ok
end Go.Proofs.Ytkjjkepiihdihaa.Pace
