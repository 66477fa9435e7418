/- The document's pacer: what New, goes, Set, Waiting, Age, Spare come to; no condition but the ranges in each. -/
import Derived.Test.YtkjjkepiihdihaaPaceLaw2
namespace Go.Proofs.Ytkjjkepiihdihaa.Pace
open Go.RowKit Go.Proofs.Ytkjjkepiihdihaa.Plain Go.Proofs.Ytkjjkepiihdihaa.Heap Go.Proofs.Ytkjjkepiihdihaa.Rows Go.Proofs.Ytkjjkepiihdihaa.Open

/-- The document's pacer holds its burst in bytes. -/
abbrev rb (s : PS) (b : Int) : PS := { s with burst := b }
set_option maxHeartbeats 1000000 in
theorem rnew_any (N : Nat → Prop) (b q : Int) (w : World) (b0 : ¬ b < 1500) (b1 : ¬ 16777216 < b) (q0 : ¬ q < 1) (q1 : ¬ 256 < q) (hN : ∀ g, N g → g < w.heap.size) : Calls Try.prog 19 #[.int .i64 b, .int .i64 q] w
    fun e w' => ∃ p, e = .returned (.tuple #[.pointer (some ⟨p, 0, none⟩), .int .i64 0]) ∧ (∃ v, PV 72 N w' p v (rb ⟨b * 8000000, b * 8000000, 0, 0, 0, q, fun _ => []⟩ b) ∧ ∀ c, v c = .slice none 0 0) ∧ w.heap.size ≤ p ∧ Below w.heap.size w w' := by
  have e1 : wrap64 (b * 8000000) = b * 8000000 := w64 (by omega) (by omega)
  go_enter Try.func19, Try.ntmps19
  go_wp2
  go_ret2
  have h := heap_alloc_new w (.cells (pcells (rb ⟨b * 8000000, b * 8000000, 0, 0, 0, q, fun _ => []⟩ b) (fun _ => .slice none 0 0)) 72)
  refine ⟨w.heap.size, rfl, ⟨fun _ => .slice none 0 0, ⟨h, fun c hc => RW.nil _ _, fun hn => Nat.lt_irrefl _ (hN _ hn), fun c hc g hg => ?_, fun c d _ _ _ g hg => ?_, fun g hg => by have := hN g hg; simp; omega⟩, fun _ => rfl⟩, Nat.le_refl _, (Below.refl _ _).alloc (Nat.le_refl _) _⟩
  · obtain ⟨_, _, _, e⟩ := hg; cases e
  · obtain ⟨_, _, _, e⟩ := hg; cases e
set_option maxHeartbeats 1000000 in
theorem rnew_bad (b q : Int) (w : World) (h : b < 1500 ∨ 16777216 < b ∨ q < 1 ∨ 256 < q) : Calls Try.prog 19 #[.int .i64 b, .int .i64 q] w fun e w' => e = .returned (.tuple #[.pointer none, .int .i64 1]) ∧ w = w' := by
  have h' : b < 1500 ∨ (¬ b < 1500 ∧ 16777216 < b) ∨ (¬ b < 1500 ∧ ¬ 16777216 < b ∧ q < 1) ∨ (¬ b < 1500 ∧ ¬ 16777216 < b ∧ ¬ q < 1 ∧ 256 < q) := by omega
  clear h
  rcases h' with h | ⟨h, h2⟩ | ⟨h, h2, h3⟩ | ⟨h, h2, h3, h4⟩
  all_goals
    go_enter Try.func19, Try.ntmps19
    go_wp2
    go_ret2
    exact ⟨rfl, rfl⟩
theorem rclamp_is {a lo hi t : Int} (h : (if a < lo then lo else if a > hi then hi else a) = t) (w : World) : Calls Try.prog 33 #[.int .i64 a, .int .i64 lo, .int .i64 hi] w fun e w' => e = .returned (.int .i64 t) ∧ w = w' := h ▸ Sat.ref_clamp_any a lo hi w
theorem clampT_max {s : PS} (ok : okP s) (now : Int) : clampT s now = max s.now (clampI now 0 1125899906842624) := by
  have h0 := ok.now0
  have h1 := ok.now1
  unfold clampT clampI
  split <;> split <;> (try split) <;> omega
set_option linter.unusedSimpArgs false in
set_option maxRecDepth 10000 in
set_option maxHeartbeats 2000000 in
theorem rgoes_any (N : Nat → Prop) (now b : Int) (p : Nat) (v : Nat → Value) (w : World) (s : PS) (h : PV 72 N w p v (rb s b)) (ok : okP s) (hb : s.burst = b * 8000000) : Calls Try.prog 32 #[.pointer (some ⟨p, 0, none⟩), .int .i64 now] w
    fun e w' => e = .returned (.tuple #[]) ∧ PV 72 N w' p v (rb (goes s now) b) ∧ Kept (fun g => g = p) w w' := by
  obtain ⟨c0, c1, c2, c3, c4, c5, _, _, _, _, hf, hp⟩ := h.cells
  obtain ⟨t0, t1⟩ := clampT_bd ok now
  have hmx := clampT_max ok now
  obtain ⟨c, hc⟩ : ∃ c, clampI now 0 1125899906842624 = c := ⟨_, rfl⟩
  rw [hc] at hmx
  obtain ⟨t, ht⟩ : ∃ t, t = clampT s now := ⟨_, rfl⟩
  rw [← ht] at t0 t1 hmx
  have hnw := ok.now0
  have ed : IntKind.i64.wrap (t - s.now) = t - s.now := IntWalk.i64_in _ (by omega)
  have HP := Lib.hid h
  have OK := Lib.hid ok
  have HC := Lib.hid hc
  have HMX := Lib.hid hmx
  have HT := Lib.hid ht
  have HB := Lib.hid hb
  clear h ok ht hc hmx hb c3 c5
  go_enter Try.func32, Try.ntmps32
  go_upto_region 0 with fail
  go_cut [1] (fun s1 wx => s1 = .int .i64 t ∧ wx = w.drew)
  case first =>
    have c4' : w.cell? ⟨p, 4, none⟩ = some (.int .i64 s.now) := c4
    go_region_held3 (fun w' => w'.cell? ⟨p, 4, none⟩ = some (.int .i64 s.now)) (first | exact c4')
      (first
        | (go_at_call 33
           refine (rclamp_is (show (if now < 0 then 0 else if now > 1125899906842624 then 1125899906842624 else now) = c from HC.out) _).mono ?_
           rintro e w1 ⟨rfl, rfl⟩))
    go_wp2_with fail
    all_goals
      go_meet
      have e := HMX.out
      refine ⟨?_, rfl⟩
      congr 1
      omega
  case rest =>
  obtain ⟨rfl, hw⟩ := hcut
  rw [hw]
  clear hw c4
  obtain ⟨c0, c1, c2, c3, c4, c5, _, _, _, _, hf, hp⟩ := (HP.out.run (Kept.refl _ w).drew).cells
  clear c3 c5
  have HW := Lib.hid (HP.out.run (Kept.refl _ w).drew)
  have HKW := Lib.hid ((Kept.refl (fun g => g = p) w).drew)
  generalize hW : w.drew = W at *
  obtain ⟨m0, m1⟩ := Sat.clamp64_bd (s.rate * (t - s.now))
  obtain ⟨M, hM⟩ : ∃ M, M = Sat.clamp64 (s.rate * (t - s.now)) := ⟨_, rfl⟩
  rw [← hM] at m0 m1
  have HM := Lib.hid hM
  have hr0 := OK.out.rate0
  have hr1 := OK.out.rate1
  have hcr0 := OK.out.credit0
  have hcr1 := OK.out.credit1
  have hbu1 := OK.out.burst1
  have hbu0 := OK.out.burst0
  have hbw : IntKind.i64.wrap (b * 8000000) = b * 8000000 := IntWalk.i64_in _ (by rw [← HB.out]; omega)
  have CM := Lib.hid (fun W => Sat.ref_mul_any s.rate (t - s.now) W (by omega) (by omega) (by omega) (by omega))
  have CA := Lib.hid (fun W => Sat.ref_add_any s.credit M W (by omega) (by omega) m0 m1)
  have HG : (goes s now).credit = min (Sat.clamp64 (s.credit + M)) (b * 8000000) := by
    show min (s.credit + s.rate * (clampT s now - s.now)) s.burst = _
    rw [HM.out, ← HT.out, ← HB.out]
    exact (held_min OK.out.credit0 OK.out.credit1 OK.out.rate0 (by omega) OK.out.burst1).symm
  have HG := Lib.hid HG.symm
  clear hM t0 t1 m0 m1 hr0 hr1 hcr0 hcr1 hbu1 hbu0 hnw
  go_upto_region 1 with fail
  go_cut [1] (fun s1 wx => s1 = .int .i64 t ∧ PV 72 N wx p v (rb { s with credit := (goes s now).credit } b) ∧ Kept (fun g => g = p) W wx)
  case first =>
    have HS : W.drew.cell? ⟨p, 0, none⟩ = some (.int .i64 b) ∧ W.drew.cell? ⟨p, 1, none⟩ = some (.int .i64 s.credit) ∧ W.drew.cell? ⟨p, 2, none⟩ = some (.int .i64 s.rate) ∧ W.drew.cell? ⟨p, 4, none⟩ = some (.int .i64 s.now) := ⟨c0, c1, c2, c4⟩
    refine Tail.start 23 (fun w' => w'.cell? ⟨p, 0, none⟩ = some (.int .i64 b) ∧ w'.cell? ⟨p, 1, none⟩ = some (.int .i64 s.credit) ∧ w'.cell? ⟨p, 2, none⟩ = some (.int .i64 s.rate) ∧ w'.cell? ⟨p, 4, none⟩ = some (.int .i64 s.now)) (by kernel_rfl) ?_
    refine Tail.take 0 rfl (by kernel_rfl) (fun _ _ _ h => h) (by rfl) HS (fun w hSw => by (try dsimp only at hSw); go_simp; (try with_reducible rfl)) ?_
    try simp only [Act.put, List.setIfInBounds_toArray, List.set_cons_zero, List.set_cons_succ]
    refine Tail.take 1 rfl (by kernel_rfl) (fun _ _ _ h => h) (by rfl) HS (fun w hSw => by (try dsimp only at hSw); go_simp; (try with_reducible rfl)) ?_
    try simp only [Act.put, List.setIfInBounds_toArray, List.set_cons_zero, List.set_cons_succ]
    refine Tail.take 2 rfl (by kernel_rfl) (fun _ _ _ h => h) (by rfl) HS (fun w hSw => by (try dsimp only at hSw); go_simp; (try with_reducible rfl)) ?_
    try simp only [Act.put, List.setIfInBounds_toArray, List.set_cons_zero, List.set_cons_succ]
    refine Tail.take 3 rfl (by kernel_rfl) (fun _ _ _ h => h) (by rfl) HS (fun w hSw => by (try dsimp only at hSw); go_simp; (try with_reducible rfl)) ?_
    try simp only [Act.put, List.setIfInBounds_toArray, List.set_cons_zero, List.set_cons_succ]
    refine Tail.take 4 rfl (by kernel_rfl) (fun _ _ _ h => h) (by rfl) HS (fun w hSw => by (try dsimp only at hSw); go_simp; (try with_reducible rfl)) ?_
    try simp only [Act.put, List.setIfInBounds_toArray, List.set_cons_zero, List.set_cons_succ]
    refine Tail.take 5 rfl (by kernel_rfl) (fun _ _ _ h => h) (by rfl) HS (fun w hSw => by (try dsimp only at hSw); go_simp; (try with_reducible rfl)) ?_
    try simp only [Act.put, List.setIfInBounds_toArray, List.set_cons_zero, List.set_cons_succ]
    refine Tail.take 6 rfl (by kernel_rfl) (fun _ _ _ h => h) (by rfl) HS (fun w hSw => by (try dsimp only at hSw); go_simp; (try with_reducible rfl)) ?_
    try simp only [Act.put, List.setIfInBounds_toArray, List.set_cons_zero, List.set_cons_succ]
    refine Tail.take 7 rfl (by kernel_rfl) (fun _ _ _ h => h) (by rfl) HS (fun w hSw => by (try dsimp only at hSw); go_simp; (try with_reducible rfl)) ?_
    try simp only [Act.put, List.setIfInBounds_toArray, List.set_cons_zero, List.set_cons_succ]
    refine Tail.take 8 rfl (by kernel_rfl) (fun _ _ _ h => h) (by rfl) HS (fun w hSw => by (try dsimp only at hSw); go_simp; (try with_reducible rfl)) ?_
    try simp only [Act.put, List.setIfInBounds_toArray, List.set_cons_zero, List.set_cons_succ]
    refine Tail.take 9 rfl (by kernel_rfl) (fun _ _ _ h => h) (by rfl) HS (fun w hSw => by (try dsimp only at hSw); go_simp; (try with_reducible rfl)) ?_
    try simp only [Act.put, List.setIfInBounds_toArray, List.set_cons_zero, List.set_cons_succ]
    refine Tail.take 10 rfl (by kernel_rfl) (fun _ _ _ h => h) (by rfl) HS (fun w hSw => by (try dsimp only at hSw); go_simp; (try with_reducible rfl)) ?_
    try simp only [Act.put, List.setIfInBounds_toArray, List.set_cons_zero, List.set_cons_succ]
    refine Tail.take 11 rfl (by kernel_rfl) (fun _ _ _ h => h) (by rfl) HS (fun w hSw => by (try dsimp only at hSw); go_simp; (try with_reducible rfl)) ?_
    try simp only [Act.put, List.setIfInBounds_toArray, List.set_cons_zero, List.set_cons_succ]
    refine Tail.take 12 rfl (by kernel_rfl) (fun _ _ _ h => h) (by rfl) HS (fun w hSw => by (try dsimp only at hSw); go_simp; (try with_reducible rfl)) ?_
    try simp only [Act.put, List.setIfInBounds_toArray, List.set_cons_zero, List.set_cons_succ]
    refine Tail.take 13 rfl (by kernel_rfl) (fun _ _ _ h => h) (by rfl) HS (fun w hSw => by (try dsimp only at hSw); go_simp; (try with_reducible rfl)) ?_
    try simp only [Act.put, List.setIfInBounds_toArray, List.set_cons_zero, List.set_cons_succ]
    refine Tail.take 14 rfl (by kernel_rfl) (fun _ _ _ h => h) (by rfl) HS (fun w hSw => by (try dsimp only at hSw); go_simp; (try with_reducible rfl)) ?_
    try simp only [Act.put, List.setIfInBounds_toArray, List.set_cons_zero, List.set_cons_succ]
    refine Tail.take 17 rfl (by kernel_rfl) (fun _ _ _ h => h) (by rfl) HS (fun w hSw => by (try dsimp only at hSw); go_simp; (try with_reducible rfl)) ?_
    try simp only [Act.put, List.setIfInBounds_toArray, List.set_cons_zero, List.set_cons_succ]
    refine Tail.take 18 rfl (by kernel_rfl) (fun _ _ _ h => h) (by rfl) HS (fun w hSw => by (try dsimp only at hSw); go_simp; (try with_reducible rfl)) ?_
    try simp only [Act.put, List.setIfInBounds_toArray, List.set_cons_zero, List.set_cons_succ]
    refine Tail.take 19 rfl (by kernel_rfl) (fun _ _ _ h => h) (by rfl) HS (fun w hSw => by (try dsimp only at hSw); go_simp; (try with_reducible rfl)) ?_
    try simp only [Act.put, List.setIfInBounds_toArray, List.set_cons_zero, List.set_cons_succ]
    refine Tail.take 20 rfl (by kernel_rfl) (fun _ _ _ h => h) (by rfl) HS (fun w hSw => by (try dsimp only at hSw); go_simp; (try with_reducible rfl)) ?_
    try simp only [Act.put, List.setIfInBounds_toArray, List.set_cons_zero, List.set_cons_succ]
    refine Tail.take 21 rfl (by kernel_rfl) (fun _ _ _ h => h) (by rfl) HS (fun w hSw => by (try dsimp only at hSw); go_simp; (try with_reducible rfl)) ?_
    try simp only [Act.put, List.setIfInBounds_toArray, List.set_cons_zero, List.set_cons_succ]
    -- 15: call call { callee := Callee.value (Operand.func 38), args := #[Operand.tmp 19, Operand.tmp 25]
    refine Tail.one 15 rfl (by kernel_rfl) (fun K hK => ?_)
    go_simp
    refine (CM.out _).mono ?_
    rintro e w2 ⟨rfl, rfl⟩
    rw [← HM.out]
    refine hK.out _ _ HS ?_
    clear hK K
    try simp only [Act.put, List.setIfInBounds_toArray, List.set_cons_zero, List.set_cons_succ]
    -- 16: call call { callee := Callee.value (Operand.func 37), args := #[Operand.tmp 15, Operand.tmp 26]
    refine Tail.one 16 rfl (by kernel_rfl) (fun K hK => ?_)
    go_simp
    refine (CA.out _).mono ?_
    rintro e w3 ⟨rfl, rfl⟩
    refine hK.out _ _ HS ?_
    clear hK K
    try simp only [Act.put, List.setIfInBounds_toArray, List.set_cons_zero, List.set_cons_succ]
    refine Tail.take 22 rfl (by kernel_rfl) (fun _ _ _ h => h) (by rfl) HS (fun w hSw => by (try dsimp only at hSw); go_simp; (try with_reducible rfl)) ?_
    try simp only [Act.put, List.setIfInBounds_toArray, List.set_cons_zero, List.set_cons_succ]
    refine Tail.tail 23 rfl (by kernel_rfl) ?_
    simp only [List.drop_succ_cons, List.drop_zero]
    go_wp2_with fail
    all_goals
      go_meet
      refine ⟨rfl, (HW.out.run (Kept.refl _ W).drew).credit ?_, Kept.setCell (S := fun g => g = p) (Kept.refl _ W).drew (p := ⟨p, 1, none⟩) (.inl rfl) _⟩
      have e := HG.out
      show _ = (goes s now).credit
      omega
  case rest =>
  obtain ⟨rfl, h, hk⟩ := hcut
  obtain ⟨d0, d1, d2, d3, d4, d5, _, _, _, _, df, dp⟩ := h.cells
  have H := Lib.hid h
  have HK := Lib.hid hk
  clear h hk c0 c1 c2 c4 hf hp d0 d1 d2 d3 d5
  rename World => X
  go_wp2_with fail
  exact bodyPost_end (results_none rfl _ _ _) rfl ⟨rfl, H.out.set 4 _ (by rw [HT.out]; rfl) rfl, Kept.setCell (S := fun g => g = p) (HKW.out.trans HK.out (fun _ _ h => h)) (p := ⟨p, 4, none⟩) (.inl rfl) _⟩
set_option maxHeartbeats 1000000 in
theorem rset_any (N : Nat → Prop) (rate window now b : Int) (p : Nat) (v : Nat → Value) (w : World) (s : PS) (h : PV 72 N w p v (rb s b)) (ok : okP s) (hbu : s.burst = b * 8000000) : Calls Try.prog 21 #[.pointer (some ⟨p, 0, none⟩), .int .i64 rate, .int .i64 window, .int .i64 now] w
    fun e w' => e = .returned (.tuple #[]) ∧ PV 72 N w' p v (rb (setp s rate window now) b) ∧ Kept (fun g => g = p) w w' := by
  obtain ⟨x, hx⟩ : ∃ a, (if rate < 0 then 0 else if rate > 17179869184 then 17179869184 else rate) = a := ⟨_, rfl⟩
  obtain ⟨y, hy⟩ : ∃ b, (if window < 0 then 0 else if window > 1099511627776 then 1099511627776 else window) = b := ⟨_, rfl⟩
  have es : setp s rate window now = { goes s now with rate := x, window := y } := by rw [← hx, ← hy]; rfl
  have HX := Lib.hid hx
  have HY := Lib.hid hy
  have HE := Lib.hid es
  have HP := Lib.hid h
  have OK := Lib.hid ok
  have HB := Lib.hid hbu
  clear hx hy es h ok hbu
  go_enter Try.func21, Try.ntmps21
  go_wp2_with fail
  refine (rgoes_any N now b p v w s HP.out OK.out HB.out).mono ?_
  rintro e w1 ⟨rfl, h1, hk1⟩
  obtain ⟨_, _, c2, c3, _, _, _, _, _, _, hf, hp⟩ := h1.cells
  have H1 := Lib.hid h1
  have HK1 := Lib.hid hk1
  clear h1 hk1
  go_wp2_with fail
  refine (rclamp_is HX.out _).mono ?_
  rintro e w2 ⟨rfl, rfl⟩
  go_wp2_with fail
  refine (rclamp_is HY.out _).mono ?_
  rintro e w3 ⟨rfl, rfl⟩
  go_wp2_with fail
  refine bodyPost_end (results_none rfl _ _ _) rfl ⟨rfl, ?_, Kept.setCell (S := fun g => g = p) (Kept.setCell (S := fun g => g = p) HK1.out (p := ⟨p, 2, none⟩) (.inl rfl) _) (p := ⟨p, 3, none⟩) (.inl rfl) _⟩
  rw [HE.out]
  have h2 : PV 72 N (w1.setCell ⟨p, 2, none⟩ (.int .i64 x)) p v (rb { goes s now with rate := x } b) := H1.out.set 2 _ rfl rfl
  exact h2.set 3 _ rfl rfl
theorem rspare_any (N : Nat → Prop) (p : Nat) (v : Nat → Value) (w : World) (s : PS) (b : Int) (h : PV 72 N w p v (rb s b)) (ok : okP s) : Calls Try.prog 28 #[.pointer (some ⟨p, 0, none⟩)] w
    fun e w' => e = .returned (.int .i64 (s.credit / 8000000)) ∧ w = w' := by
  obtain ⟨_, c1, _⟩ := h.cells
  have h0 := ok.credit0
  have h1 := ok.credit1
  have h2 := ok.burst1
  go_enter Try.func28, Try.ntmps28
  go_wp2
  go_ret
  exact ⟨rfl, rfl⟩
set_option maxHeartbeats 2000000 in
theorem rwaiting_any (N : Nat → Prop) (p : Nat) (v : Nat → Value) (w : World) (s : PS) (b : Int) (h : PV 72 N w p v (rb s b)) (ok : okP s) : Calls Try.prog 24 #[.pointer (some ⟨p, 0, none⟩)] w
    fun e w' => e = .returned (.tuple #[.int .i64 ((upto s 4).length : Int), .int .i64 (szs (upto s 4))]) ∧ w = w' := by
  obtain ⟨_, _, _, _, _, _, _, _, _, _, hf, hp⟩ := h.cells
  have HP := Lib.hid h
  have OK := Lib.hid ok
  clear h ok
  go_enter Try.func24, Try.ntmps24
  go_wp2_with fail
  go_loopw [4, 5, 6] (fun cv bv kv wx => ∃ k : Nat, k ≤ 4 ∧ kv = .int .i64 (k : Int) ∧ cv = .int .i64 ((upto s k).length : Int) ∧ bv = .int .i64 (szs (upto s k)) ∧ wx = w) (fun _ _ kv _ => (4 - intOf kv).toNat)
  case atStart => exact ⟨0, by omega, rfl, rfl, rfl, rfl⟩
  case round =>
    obtain ⟨k, hk, rfl, rfl, rfl, rfl⟩ := hrel
    obtain ⟨b0, b1, b2⟩ := upto_bd OK.out hk
    by_cases hlt : (k : Int) < 4
    · have hk4 : k < 4 := by omega
      have hk0 : (0 : Int) ≤ (k : Int) := by omega
      obtain ⟨A, c, hv⟩ := HP.out.val hk4
      have hcq := HP.out.cellq hk4
      have hq := OK.out.len k hk4
      have hq1 := OK.out.queue1
      have HV := Lib.hid hv
      obtain ⟨L, hL⟩ : ∃ L, L = (s.q k).length := ⟨_, rfl⟩
      obtain ⟨C, hC⟩ : ∃ C, C = (upto s k).length := ⟨_, rfl⟩
      obtain ⟨B, hB⟩ : ∃ B, B = szs (upto s k) := ⟨_, rfl⟩
      rw [hv, ← hL] at hcq
      rw [← hL] at hq
      rw [← hC] at b0 b2
      rw [← hB] at b1 b2
      rw [← hC, ← hB]
      have HL := Lib.hid hL
      have HC := Lib.hid hC
      have HB := Lib.hid hB
      clear hv hL hC hB
      go_wp2_with fail
      go_loopw [4, 5, 7] (fun cv bv iv wx => ∃ i : Nat, i ≤ L ∧ iv = .int .i64 (i : Int) ∧ cv = .int .i64 ((C : Int) + (i : Int)) ∧ bv = .int .i64 (B + szs ((s.q k).take i)) ∧ wx = wr) (fun _ _ iv _ => ((L : Int) - intOf iv).toNat)
      case atStart => exact ⟨0, by omega, rfl, by simp, by simp [szs], rfl⟩
      case round =>
        obtain ⟨i, hi, rfl, rfl, rfl, rfl⟩ := hrel
        by_cases hil : (i : Int) < (L : Int)
        · have hi' : i < (s.q k).length := by rw [← HL.out]; omega
          obtain ⟨g, off, x, hA, hg, hx, x0, x1, x2, x3, x4⟩ := HP.out.at hk4 HV.out hi'
          subst hA
          obtain ⟨e0, e1⟩ := szs_bd ((s.q k).take i) fun y hy => ⟨(OK.out.el k hk4 y (List.mem_of_mem_take hy)).2.1, (OK.out.el k hk4 y (List.mem_of_mem_take hy)).2.2.1⟩
          have e2 : ((s.q k).take i).length ≤ i := List.length_take_le _ _
          obtain ⟨_, z0, z1, _⟩ := OK.out.el k hk4 x (List.mem_of_getElem? hx)
          have HS := Lib.hid (szs_snoc _ _ _ hx)
          obtain ⟨x1', x2', x3', z, x5'⟩ := x
          simp only at x0 x1 x2 x3 x4 z0 z1
          obtain ⟨D, hD⟩ : ∃ D, D = szs ((s.q k).take i) := ⟨_, rfl⟩
          rw [← hD] at e0 e1
          rw [← hD]
          have HD := Lib.hid hD
          have HXc := Lib.hid hx
          clear hD hx
          go_wp2_with fail
          go_roundw
          case rel => exact ⟨i + 1, by omega, by go_num, by go_num, by rw [HS.out, ← HD.out]; go_num, trivial⟩
          case measure => exact meas4 L i hil
        · have e4 : i = L := by omega
          subst e4
          go_wp2_with fail
          go_roundw
          case rel =>
            have e1 : (upto s (k + 1)).length = C + i := by rw [HC.out, HL.out]; simp [upto]
            have e2 : szs (upto s (k + 1)) = B + szs ((s.q k).take i) := by rw [HB.out, HL.out, List.take_length]; simp [upto, szs_append]
            exact ⟨k + 1, by omega, by go_num, by rw [e1]; go_num, by rw [e2], trivial⟩
          case measure => exact meas4 4 k hlt
    · go_wp2
      go_ret2
      have e4 : k = 4 := by omega
      subst e4
      exact ⟨rfl, rfl⟩
set_option maxRecDepth 10000 in
set_option maxHeartbeats 2000000 in
theorem rage_any (N : Nat → Prop) (now : Int) (p : Nat) (v : Nat → Value) (w : World) (s : PS) (b : Int) (h : PV 72 N w p v (rb s b)) (ok : okP s) : Calls Try.prog 26 #[.pointer (some ⟨p, 0, none⟩), .int .i64 now] w
    fun e w' => e = .returned (.int .i64 (ages (clampT s now) (upto s 4))) ∧ w.drew = w' := by
  obtain ⟨_, _, _, _, c4, _, _, _, _, _, hf, hp⟩ := h.cells
  obtain ⟨t0, t1⟩ := clampT_bd ok now
  have hmx := clampT_max ok now
  obtain ⟨c, hc⟩ : ∃ c, clampI now 0 1125899906842624 = c := ⟨_, rfl⟩
  rw [hc] at hmx
  obtain ⟨t, ht⟩ : ∃ t, t = clampT s now := ⟨_, rfl⟩
  rw [← ht] at t0 t1 hmx
  rw [← ht]
  have hn0 := ok.now0
  have HP := Lib.hid h
  have OK := Lib.hid ok
  have HC := Lib.hid hc
  have HMX := Lib.hid hmx
  have HT := Lib.hid ht
  clear h ok ht hc hmx
  go_enter Try.func26, Try.ntmps26
  go_upto_region 1 with fail
  go_cut [1] (fun s1 wx => s1 = .int .i64 t ∧ wx = w.drew)
  case first =>
    have c4' : w.cell? ⟨p, 4, none⟩ = some (.int .i64 s.now) := c4
    go_region_held3 (fun w' => w'.cell? ⟨p, 4, none⟩ = some (.int .i64 s.now)) (first | exact c4')
      (first
        | (go_at_call 33
           refine (rclamp_is (show (if now < 0 then 0 else if now > 1125899906842624 then 1125899906842624 else now) = c from HC.out) _).mono ?_
           rintro e w1 ⟨rfl, rfl⟩))
    go_wp2_with fail
    all_goals
      go_meet
      have e := HMX.out
      refine ⟨?_, rfl⟩
      congr 1
      omega
  case rest =>
  obtain ⟨rfl, hw⟩ := hcut
  rw [hw]
  clear hw c4 hf hp
  have HP := Lib.hid (HP.out.run (Kept.refl _ w).drew)
  generalize hWd : w.drew = W at *
  have HWW := Lib.hid hWd
  clear hWd
  obtain ⟨_, _, _, _, c4, _, _, _, _, _, hf, hp⟩ := HP.out.cells
  clear c4
  go_wp2_with fail
  go_loopw [5, 6] (fun av kv wx => ∃ k : Nat, k ≤ 4 ∧ kv = .int .i64 (k : Int) ∧ av = .int .i64 (ages t (upto s k)) ∧ wx = W) (fun _ kv _ => (4 - intOf kv).toNat)
  case atStart => exact ⟨0, by omega, rfl, rfl, rfl⟩
  case round =>
    obtain ⟨k, hk, rfl, rfl, rfl⟩ := hrel
    by_cases hlt : (k : Int) < 4
    · have hk4 : k < 4 := by omega
      have hk0 : (0 : Int) ≤ (k : Int) := by omega
      obtain ⟨A, c, hv⟩ := HP.out.val hk4
      have hcq := HP.out.cellq hk4
      have hq := OK.out.len k hk4
      have hq1 := OK.out.queue1
      have HV := Lib.hid hv
      obtain ⟨L, hL⟩ : ∃ L, L = (s.q k).length := ⟨_, rfl⟩
      rw [hv, ← hL] at hcq
      rw [← hL] at hq
      have HL := Lib.hid hL
      clear hv hL
      go_wp2_with fail
      go_loopw [5, 7] (fun av iv wx => ∃ i : Nat, i ≤ L ∧ iv = .int .i64 (i : Int) ∧ av = .int .i64 (ages t (upto s k ++ (s.q k).take i)) ∧ wx = wr) (fun _ iv _ => ((L : Int) - intOf iv).toNat)
      case atStart => exact ⟨0, by omega, rfl, by simp, rfl⟩
      case round =>
        obtain ⟨i, hi, rfl, rfl, rfl⟩ := hrel
        by_cases hil : (i : Int) < (L : Int)
        · have hi' : i < (s.q k).length := by rw [← HL.out]; omega
          obtain ⟨g, off, x, hA, hg, hx, x0, x1, x2, x3, x4⟩ := HP.out.at hk4 HV.out hi'
          subst hA
          obtain ⟨_, _, _, z2, z3⟩ := OK.out.el k hk4 x (List.mem_of_getElem? hx)
          have HS := Lib.hid (show ages t (upto s k ++ (s.q k).take (i + 1)) = max (ages t (upto s k ++ (s.q k).take i)) (t - x.2.2.2.2) by
            obtain ⟨hi, rfl⟩ := List.getElem?_eq_some_iff.1 hx
            rw [List.take_succ_eq_append_getElem hi, ← List.append_assoc, ages_snoc])
          obtain ⟨x1', x2', x3', x4', z⟩ := x
          simp only at x0 x1 x2 x3 x4 z2 z3
          obtain ⟨D, hD⟩ : ∃ D, D = ages t (upto s k ++ (s.q k).take i) := ⟨_, rfl⟩
          rw [← hD]
          have HD := Lib.hid hD
          have HXc := Lib.hid hx
          clear hD hx
          go_wp2_with fail
          all_goals
            go_roundw
            case rel => exact ⟨i + 1, by omega, by go_num, by rw [HS.out, ← HD.out]; congr 1; show _ = max D (t - z); omega, trivial⟩
            case measure => exact meas4 L i hil
        · have e4 : i = L := by omega
          subst e4
          go_wp2_with fail
          go_roundw
          case rel => exact ⟨k + 1, by omega, by go_num, by rw [HL.out, List.take_length]; rfl, trivial⟩
          case measure => exact meas4 4 k hlt
    · go_wp2
      go_ret
      have e4 : k = 4 := by omega
      subst e4
      exact ⟨rfl, HWW.out⟩
end Go.Proofs.Ytkjjkepiihdihaa.Pace
