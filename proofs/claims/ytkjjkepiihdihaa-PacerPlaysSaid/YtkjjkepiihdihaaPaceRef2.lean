/- What the document's Enqueue comes to; no condition but the ranges in each. -/
import Derived.Test.YtkjjkepiihdihaaPaceRef1
import Derived.Test.YtkjjkepiihdihaaPaceRow2
namespace Go.Proofs.Ytkjjkepiihdihaa.Pace
open Go.RowKit Go.Proofs.Ytkjjkepiihdihaa.Plain Go.Proofs.Ytkjjkepiihdihaa.Heap Go.Proofs.Ytkjjkepiihdihaa.Rows Go.Proofs.Ytkjjkepiihdihaa.Open

set_option maxRecDepth 10000 in
set_option maxHeartbeats 1000000 in
theorem renq_walk (N : Nat → Prop) (a b cl d now bu : Int) (p : Nat) (v : Nat → Value) (w : World) (s : PS) (h : PV 72 N w p v (rb s bu)) (ok : okP s) (hbu : s.burst = bu * 8000000) (hbad : decide (cl < 0) = true ∨ (decide (cl < 0) = false ∧ decide (cl > 3) = true) ∨ (decide (cl < 0) = false ∧ decide (cl > 3) = false ∧ decide (d < 0) = true) ∨ (decide (cl < 0) = false ∧ decide (cl > 3) = false ∧ decide (d < 0) = false ∧ decide (d > 1500) = true)) :
    Calls Try.prog 20 #[.pointer (some ⟨p, 0, none⟩), .agg #[.int .i64 a, .int .i64 b, .int .i64 cl, .int .i64 d], .int .i64 now] w
      fun e w' => e = .returned (.bool false) ∧ PV 72 N w' p v (rb (goes s now) bu) ∧ Kept (fun g => g = p) w w' := by
  have hpB : p < w.heap.size := h.cells.2.2.2.2.2.2.2.2.2.2.2
  have HW0 := Lib.hid (h.run ((Kept.refl (fun _ => False) w).alloc (.cells #[.int .i64 a, .int .i64 b, .int .i64 cl, .int .i64 d] 30)))
  have OK := Lib.hid ok
  have HBU := Lib.hid hbu
  have BC := Lib.hid (box_cells w a b cl d)
  clear h ok hbu
  rcases hbad with h1 | ⟨h1, h2⟩ | ⟨h1, h2, h3⟩ | ⟨h1, h2, h3, h4⟩
  all_goals
    go_enter Try.func20, Try.ntmps20
    go_wp2_with fail
    refine (rgoes_any N now bu p v _ s HW0.out OK.out HBU.out).mono ?_
    rintro e w1 ⟨rfl, hg, hk⟩
    have HG := Lib.hid hg
    have b2 : w1.cell? ⟨w.heap.size, 2, none⟩ = some (.int .i64 cl) := (hk.cell (p := ⟨w.heap.size, 2, none⟩) (by simp) (by show w.heap.size ≠ p; omega)).trans BC.out.2.2.1
    have b3 : w1.cell? ⟨w.heap.size, 3, none⟩ = some (.int .i64 d) := (hk.cell (p := ⟨w.heap.size, 3, none⟩) (by simp) (by show w.heap.size ≠ p; omega)).trans BC.out.2.2.2
    have HK := Lib.hid (Kept.trans (S := fun g => g = p) ((Kept.refl (fun g => g = p) w).alloc _) hk (fun _ _ h => h))
    clear hg hk
    go_wp2_with fail
    go_quiet (fail)
    go_wp2_with fail
    go_ret
    exact ⟨rfl, HG.out.run ((Kept.refl _ _).drewN _), HK.out.drewN _⟩
set_option maxRecDepth 10000 in
set_option maxHeartbeats 1000000 in
theorem renq_full (N : Nat → Prop) (a b d now bu : Int) (c : Nat) (p : Nat) (v : Nat → Value) (w : World) (s : PS) (h : PV 72 N w p v (rb s bu)) (ok : okP s) (hbu : s.burst = bu * 8000000) (hc : c < 4) (d0 : decide (d < 0) = false) (d1 : decide (d > 1500) = false) (hl : ((s.q c).length : Int) = s.queue) :
    Calls Try.prog 20 #[.pointer (some ⟨p, 0, none⟩), .agg #[.int .i64 a, .int .i64 b, .int .i64 (c : Int), .int .i64 d], .int .i64 now] w
      fun e w' => e = .returned (.bool false) ∧ PV 72 N w' p v (rb (goes s now) bu) ∧ Kept (fun g => g = p) w w' := by
  have hpB : p < w.heap.size := h.cells.2.2.2.2.2.2.2.2.2.2.2
  have HW0 := Lib.hid (h.run ((Kept.refl (fun _ => False) w).alloc (.cells #[.int .i64 a, .int .i64 b, .int .i64 (c : Int), .int .i64 d] 30)))
  have OK := Lib.hid ok
  have HBU := Lib.hid hbu
  have BC := Lib.hid (box_cells w a b (c : Int) d)
  have hc4 : (c : Int) < 4 := by omega
  have hc0 : (0 : Int) ≤ (c : Int) := by omega
  have k0 : decide ((c : Int) < 0) = false := by simp
  have k1 : decide ((c : Int) > 3) = false := by simp; omega
  obtain ⟨A, cap, hv⟩ := h.val hc
  obtain ⟨L, hL⟩ : ∃ L, L = (s.q c).length := ⟨_, rfl⟩
  rw [← hL] at hl hv
  have keq : decide ((L : Int) ≥ s.queue) = true := by simp; omega
  have HV := Lib.hid hv
  clear h ok hbu hv hL hl
  go_enter Try.func20, Try.ntmps20
  go_wp2_with fail
  refine (rgoes_any N now bu p v _ s HW0.out OK.out HBU.out).mono ?_
  rintro e w1 ⟨rfl, hg, hk⟩
  have HG := Lib.hid hg
  have b2 : w1.cell? ⟨w.heap.size, 2, none⟩ = some (.int .i64 (c : Int)) := (hk.cell (p := ⟨w.heap.size, 2, none⟩) (by simp) (by show w.heap.size ≠ p; omega)).trans BC.out.2.2.1
  have b3 : w1.cell? ⟨w.heap.size, 3, none⟩ = some (.int .i64 d) := (hk.cell (p := ⟨w.heap.size, 3, none⟩) (by simp) (by show w.heap.size ≠ p; omega)).trans BC.out.2.2.2
  have HK := Lib.hid (Kept.trans (S := fun g => g = p) ((Kept.refl (fun g => g = p) w).alloc _) hk (fun _ _ h => h))
  have q1 : w1.cell? ⟨p, 5, none⟩ = some (.int .i64 s.queue) := hg.cells.2.2.2.2.2.1
  have q2 : w1.cell? ⟨p, 6 + c, none⟩ = some (.slice A L cap) := by rw [hg.cellq hc]; exact congrArg some HV.out
  clear hg hk
  go_wp2_with fail
  go_quiet (fail)
  go_wp2_with fail
  go_ret
  exact ⟨rfl, HG.out.run ((Kept.refl _ _).drewN _), HK.out.drewN _⟩
/-- One class lies elsewhere, or grew. -/
theorem PV.put2 {T : TypeId} {N : Nat → Prop} {w w' : World} {p : Nat} {v : Nat → Value} {s s' : PS} (h : PV T N w p v s) {c : Nat} (hc : c < 4) (u : Value) (hk : Kept (isAt (v c)) w w') (hu : RW w' 5 u (s'.q c).length (flatW (s'.q c))) (hn : ∀ g, isAt u g → isAt (v c) g ∨ w.heap.size ≤ g)
    (hp : pcells s' (fun k => if k = c then u else v k) = (pcells s v).setIfInBounds (6 + c) u) (hq : ∀ k, k ≠ c → s'.q k = s.q k) : PV T N (w'.setCell ⟨p, 6 + c, none⟩ u) p (fun k => if k = c then u else v k) s' := by
  have hpl := h.cells.2.2.2.2.2.2.2.2.2.2.2
  have hnp : ¬ isAt (v c) p := fun e => (h.own c hc p e).2 rfl
  have hb : w'.heap[p]? = some (.cells (pcells s v) T (0, 0)) := (hk.block p hpl hnp).trans h.blk
  have hk2 : Kept (fun g => g = p) w' (w'.setCell ⟨p, 6 + c, none⟩ u) := Kept.setCell (S := fun g => g = p) (Kept.refl _ _) (p := ⟨p, 6 + c, none⟩) (.inl rfl) u
  have hup : ∀ g, isAt u g → g ≠ p := fun g hg e => by
    rcases hn g hg with h1 | h1
    · exact (h.own c hc g h1).2 e
    · omega
  refine ⟨?_, fun k hk4 => ?_, h.np, fun k hk4 g hg => ?_, fun k d hk4 hd hne g hg => ?_, fun g hg => ?_⟩
  · rw [hp]
    simp [World.setCell, Array.getElem?_modify, hb]
  · by_cases e : k = c
    · subst e
      rw [if_pos rfl]
      exact hu.kept hk2 hup
    · rw [if_neg e, hq k e]
      exact (h.qs k hk4).kept (Kept.trans (S := fun g => isAt (v c) g ∨ g = p) (hk.mono fun _ _ h => .inl h) hk2 (fun _ _ h => .inr h)) (fun g hg e2 => by
        rcases e2 with e2 | e2
        · exact h.ne k c hk4 hc e g hg e2
        · exact (h.own k hk4 g hg).2 e2) 
  · by_cases e : k = c
    · subst e
      rw [if_pos rfl] at hg
      refine ⟨fun hN => ?_, hup g hg⟩
      rcases hn g hg with h1 | h1
      · exact (h.own k hk4 g h1).1 hN
      · have := h.lt g hN; omega
    · rw [if_neg e] at hg
      exact h.own k hk4 g hg
  · by_cases e : k = c
    · subst e
      rw [if_pos rfl] at hg
      rw [if_neg (Ne.symm hne)]
      intro hd2
      rcases hn g hg with h1 | h1
      · exact h.ne k d hk4 hd hne g h1 hd2
      · have := (h.qs d hd).lt hd2; omega
    · rw [if_neg e] at hg
      by_cases e2 : d = c
      · subst e2
        rw [if_pos rfl]
        intro hd2
        rcases hn g hd2 with h1 | h1
        · exact h.ne k d hk4 hd hne g hg h1
        · have := (h.qs k hk4).lt hg; omega
      · rw [if_neg e2]
        exact h.ne k d hk4 hd hne g hg
  · exact Nat.lt_of_lt_of_le (Nat.lt_of_lt_of_le (h.lt g hg) hk.size) hk2.size
theorem info_waiting : (Try.prog.info? 74).map (fun i => (i.zero, i.size, i.bytes)) = some (some (.agg #[.int .i64 0, .int .i64 0, .int .i64 0, .int .i64 0, .int .i64 0]), 5, 40) := by kernel_rfl
theorem renq_end {N : Nat → Prop} {w X w3 : World} {p c L cap cap3 : Nat} {v : Nat → Value} {s : PS} {a b d now nw bu : Int} {A A3 : Option Addr} (h : PV 72 N X p v (rb (goes s now) bu)) (hc : c < 4) (hv : v c = .slice A L cap) (hL : L = (s.q c).length) (hnw : nw = (goes s now).now) (hkx : Kept (fun g => g = p) w X) (hk : Kept (fun _ => False) X w3)
    (hn : ∀ g, isAt (.slice A3 (L + 1) cap3) g → X.heap.size ≤ g) (hr : RW w3 5 (.slice A3 (L + 1) cap3) (L + 1) (flatW (s.q c) ++ [.int .i64 a, .int .i64 b, .int .i64 (c : Int), .int .i64 d, .int .i64 nw])) :
    ∃ u, PV 72 N (w3.setCell ⟨p, 6 + c, none⟩ (.slice A3 (L + 1) cap3)) p (fun k => if k = c then u else v k) (rb (push (goes s now) a b c d) bu) ∧ Kept (fun g => g = p ∨ isAt (v c) g) w (w3.setCell ⟨p, 6 + c, none⟩ (.slice A3 (L + 1) cap3)) := by
  refine ⟨.slice A3 (L + 1) cap3, ?_, ?_⟩
  · have hx : flatW [(a, b, (c : Int), d, nw)] = [.int .i64 a, .int .i64 b, .int .i64 (c : Int), .int .i64 d, .int .i64 nw] := rfl
    have hpq : (rb (push (goes s now) a b c d) bu).q c = s.q c ++ [(a, b, (c : Int), d, nw)] := by rw [hnw]; simp [push, goes]
    refine PV.put2 h (s' := rb (push (goes s now) a b c d) bu) hc _ (hk.mono fun _ _ e => e.elim) ?_ (fun g hg => .inr (hn g hg)) ?_ ?_
    · rw [hpq, flatW_append, hx, List.length_append, List.length_singleton, ← hL]; exact hr
    · rcases (show c = 0 ∨ c = 1 ∨ c = 2 ∨ c = 3 by omega) with rfl | rfl | rfl | rfl <;> simp [pcells, push, goes]
    · intro k hk
      simp [push, hk]
  · refine Kept.setCell (S := fun g => g = p ∨ isAt (v c) g) ?_ (p := ⟨p, 6 + c, none⟩) (.inl (.inl rfl)) _
    exact Kept.trans (S := fun g => g = p ∨ isAt (v c) g) (hkx.mono fun _ _ h => .inl h) hk (fun _ _ e => e.elim)
set_option linter.unusedSimpArgs false in
set_option maxRecDepth 10000 in
set_option maxHeartbeats 4000000 in
theorem renq_take (N : Nat → Prop) (a b d now bu : Int) (c : Nat) (p : Nat) (v : Nat → Value) (w : World) (s : PS) (h : PV 72 N w p v (rb s bu)) (ok : okP s) (hbu : s.burst = bu * 8000000) (hc : c < 4) (d0 : decide (d < 0) = false) (d1 : decide (d > 1500) = false) (hl : ((s.q c).length : Int) < s.queue) :
    Calls Try.prog 20 #[.pointer (some ⟨p, 0, none⟩), .agg #[.int .i64 a, .int .i64 b, .int .i64 (c : Int), .int .i64 d], .int .i64 now] w
      fun e w' => e = .returned (.bool true) ∧ ∃ u, PV 72 N w' p (fun k => if k = c then u else v k) (rb (push (goes s now) a b c d) bu) ∧ Kept (fun g => g = p ∨ isAt (v c) g) w w' := by
  have hpB : p < w.heap.size := h.cells.2.2.2.2.2.2.2.2.2.2.2
  have HW0 := Lib.hid (h.run ((Kept.refl (fun _ => False) w).alloc (.cells #[.int .i64 a, .int .i64 b, .int .i64 (c : Int), .int .i64 d] 30)))
  have OK := Lib.hid ok
  have HBU := Lib.hid hbu
  have BC := Lib.hid (box_cells w a b (c : Int) d)
  have hc4 : (c : Int) < 4 := by omega
  have hc0 : (0 : Int) ≤ (c : Int) := by omega
  have k0 : decide ((c : Int) < 0) = false := by simp
  have k1 : decide ((c : Int) > 3) = false := by simp; omega
  obtain ⟨A, cap, hv⟩ := h.val hc
  obtain ⟨L, hL⟩ : ∃ L, L = (s.q c).length := ⟨_, rfl⟩
  rw [← hL] at hl hv
  have keq : decide ((L : Int) ≥ s.queue) = false := by simp; omega
  have HNI := Lib.hid (show ∀ g, isAt (.slice A L cap) g → g ≠ w.heap.size ∧ g ≠ p from fun g hg => by
    rw [← hv] at hg
    have h1 := (h.qs c hc).lt hg
    exact ⟨by omega, (h.own c hc g hg).2⟩)
  have HV := Lib.hid hv
  have HL := Lib.hid hL
  clear h ok hbu hv hL hl
  go_enter Try.func20, Try.ntmps20
  go_wp2_with fail
  refine (rgoes_any N now bu p v _ s HW0.out OK.out HBU.out).mono ?_
  rintro e w1 ⟨rfl, hg, hk⟩
  have HG := Lib.hid hg
  have b0 : w1.cell? ⟨w.heap.size, 0, none⟩ = some (.int .i64 a) := (hk.cell (p := ⟨w.heap.size, 0, none⟩) (by simp) (by show w.heap.size ≠ p; omega)).trans BC.out.1
  have b1 : w1.cell? ⟨w.heap.size, 1, none⟩ = some (.int .i64 b) := (hk.cell (p := ⟨w.heap.size, 1, none⟩) (by simp) (by show w.heap.size ≠ p; omega)).trans BC.out.2.1
  have b2 : w1.cell? ⟨w.heap.size, 2, none⟩ = some (.int .i64 (c : Int)) := (hk.cell (p := ⟨w.heap.size, 2, none⟩) (by simp) (by show w.heap.size ≠ p; omega)).trans BC.out.2.2.1
  have b3 : w1.cell? ⟨w.heap.size, 3, none⟩ = some (.int .i64 d) := (hk.cell (p := ⟨w.heap.size, 3, none⟩) (by simp) (by show w.heap.size ≠ p; omega)).trans BC.out.2.2.2
  have HK := Lib.hid (Kept.trans (S := fun g => g = p) ((Kept.refl (fun g => g = p) w).alloc _) hk (fun _ _ h => h))
  have q1 : w1.cell? ⟨p, 5, none⟩ = some (.int .i64 s.queue) := hg.cells.2.2.2.2.2.1
  have q2 : w1.cell? ⟨p, 6 + c, none⟩ = some (.slice A L cap) := by rw [hg.cellq hc]; exact congrArg some HV.out
  have q3 : w1.cell? ⟨p, 4, none⟩ = some (.int .i64 (goes s now).now) := hg.cells.2.2.2.2.1
  obtain ⟨nw, hnw⟩ : ∃ nw, nw = (goes s now).now := ⟨_, rfl⟩
  rw [← hnw] at q3
  have HNW := Lib.hid hnw
  clear hg hk hnw
  go_wp2_with fail
  go_quiet (fail)
  go_wp2_with fail
  generalize hX : World.drewN w1 _ = X
  have HGX := Lib.hid (show PV 72 N X p v (rb (goes s now) bu) by rw [← hX]; exact HG.out.run ((Kept.refl _ _).drewN _))
  have HKX := Lib.hid (show Kept (fun g => g = p) w X by rw [← hX]; exact HK.out.drewN _)
  have HSX : X.drew.cell? ⟨w.heap.size, 0, none⟩ = some (.int .i64 a) ∧ X.drew.cell? ⟨w.heap.size, 1, none⟩ = some (.int .i64 b) ∧ X.drew.cell? ⟨w.heap.size, 2, none⟩ = some (.int .i64 (c : Int)) ∧ X.drew.cell? ⟨w.heap.size, 3, none⟩ = some (.int .i64 d) ∧ X.drew.cell? ⟨p, 4, none⟩ = some (.int .i64 nw) ∧ X.drew.cell? ⟨p, 6 + c, none⟩ = some (.slice A L cap) := by
    rw [← hX]
    exact ⟨b0, b1, b2, b3, q3, q2⟩
  clear b0 b1 b2 b3 q1 q2 q3 hX
  have HRW := Lib.hid (fun (Y : World) (hk : Kept (fun _ => False) X Y) => show RW Y 5 (.slice A L cap) L (flatW (s.q c)) from by
    have h1 := (HGX.out.run hk).qs c hc
    rw [HV.out] at h1
    rw [HL.out]
    rw [HL.out] at h1
    exact h1)
  have hL3 : L ≤ 1000000 := by have h1 := OK.out.queue1; have h2 := OK.out.len c hc; rw [← HL.out] at h2; omega
  have HNS := Lib.hid (show ∀ g, isAt (.slice A L cap) g → g ≠ w.heap.size ∧ g ≠ p from HNI.out)
  have HS := HSX
  refine Tail.start 22 (fun w' => w'.cell? ⟨w.heap.size, 0, none⟩ = some (.int .i64 a) ∧ w'.cell? ⟨w.heap.size, 1, none⟩ = some (.int .i64 b) ∧ w'.cell? ⟨w.heap.size, 2, none⟩ = some (.int .i64 (c : Int)) ∧ w'.cell? ⟨w.heap.size, 3, none⟩ = some (.int .i64 d) ∧ w'.cell? ⟨p, 4, none⟩ = some (.int .i64 nw) ∧ w'.cell? ⟨p, 6 + c, none⟩ = some (.slice A L cap)) (by kernel_rfl) ?_
  refine Tail.take 0 rfl (by kernel_rfl) (fun _ _ _ h => h) (by rfl) HS (fun w hSw => by (try dsimp only at hSw); go_simp; (try with_reducible rfl)) ?_
  try simp only [Act.put, List.setIfInBounds_toArray, List.set_cons_zero, List.set_cons_succ]
  refine Tail.take 1 rfl (by kernel_rfl) (fun _ _ _ h => h) (by rfl) HS (fun w hSw => by (try dsimp only at hSw); go_simp; (try with_reducible rfl)) ?_
  try simp only [Act.put, List.setIfInBounds_toArray, List.set_cons_zero, List.set_cons_succ]
  refine Tail.take 2 rfl (by kernel_rfl) (fun _ _ _ h => h) (by rfl) HS (fun w hSw => by (try dsimp only at hSw); go_simp; (try with_reducible rfl)) ?_
  try simp only [Act.put, List.setIfInBounds_toArray, List.set_cons_zero, List.set_cons_succ]
  refine Tail.take 4 rfl (by kernel_rfl) (fun _ _ _ h => h) (by rfl) HS (fun w hSw => by (try dsimp only at hSw); go_simp; (try with_reducible rfl)) ?_
  try simp only [Act.put, List.setIfInBounds_toArray, List.set_cons_zero, List.set_cons_succ]
  refine Tail.take 5 rfl (by kernel_rfl) (fun _ _ _ h => h) (by rfl) HS (fun w hSw => by (try dsimp only at hSw); go_simp; (try with_reducible rfl)) ?_
  try simp only [Act.put, List.setIfInBounds_toArray, List.set_cons_zero, List.set_cons_succ]
  refine Tail.take 6 rfl (by kernel_rfl) (fun _ _ _ h => h) (by rfl) HS (fun w hSw => by (try dsimp only at hSw); go_simp; (try with_reducible rfl)) ?_
  try simp only [Act.put, List.setIfInBounds_toArray, List.set_cons_zero, List.set_cons_succ]
  refine Tail.take 7 rfl (by kernel_rfl) (fun _ _ _ h => h) (by rfl) HS (fun w hSw => by (try dsimp only at hSw); go_simp; (try with_reducible rfl)) ?_
  try simp only [Act.put, List.setIfInBounds_toArray, List.set_cons_zero, List.set_cons_succ]
  refine Tail.take 8 rfl (by kernel_rfl) (fun _ _ _ h => h) (by rfl) HS (fun w hSw => by (try dsimp only at hSw); go_simp; (try with_reducible rfl)) ?_
  try simp only [Act.put, List.setIfInBounds_toArray, List.set_cons_zero, List.set_cons_succ]
  refine Tail.take 9 rfl (by kernel_rfl) (fun _ _ _ h => h) (by rfl) HS (fun w hSw => by (try dsimp only at hSw); go_simp; (try with_reducible rfl)) ?_
  try simp only [Act.put, List.setIfInBounds_toArray, List.set_cons_zero, List.set_cons_succ]
  refine Tail.take 10 rfl (by kernel_rfl) (fun _ _ _ h => h) (by rfl) HS (fun w hSw => by (try dsimp only at hSw); go_simp; (try with_reducible rfl)) ?_
  try simp only [Act.put, List.setIfInBounds_toArray, List.set_cons_zero, List.set_cons_succ]
  refine Tail.take 12 rfl (by kernel_rfl) (fun _ _ _ h => h) (by rfl) HS (fun w hSw => by (try dsimp only at hSw); go_simp; (try with_reducible rfl)) ?_
  try simp only [Act.put, List.setIfInBounds_toArray, List.set_cons_zero, List.set_cons_succ]
  refine Tail.take 13 rfl (by kernel_rfl) (fun _ _ _ h => h) (by rfl) HS (fun w hSw => by (try dsimp only at hSw); go_simp; (try with_reducible rfl)) ?_
  try simp only [Act.put, List.setIfInBounds_toArray, List.set_cons_zero, List.set_cons_succ]
  refine Tail.take 14 rfl (by kernel_rfl) (fun _ _ _ h => h) (by rfl) HS (fun w hSw => by (try dsimp only at hSw); go_simp; (try with_reducible rfl)) ?_
  try simp only [Act.put, List.setIfInBounds_toArray, List.set_cons_zero, List.set_cons_succ]
  refine Tail.take 15 rfl (by kernel_rfl) (fun _ _ _ h => h) (by rfl) HS (fun w hSw => by (try dsimp only at hSw); go_simp; (try with_reducible rfl)) ?_
  try simp only [Act.put, List.setIfInBounds_toArray, List.set_cons_zero, List.set_cons_succ]
  refine Tail.take 16 rfl (by kernel_rfl) (fun _ _ _ h => h) (by rfl) HS (fun w hSw => by (try dsimp only at hSw); go_simp; (try with_reducible rfl)) ?_
  try simp only [Act.put, List.setIfInBounds_toArray, List.set_cons_zero, List.set_cons_succ]
  refine Tail.take 17 rfl (by kernel_rfl) (fun _ _ _ h => h) (by rfl) HS (fun w hSw => by (try dsimp only at hSw); go_simp; (try with_reducible rfl)) ?_
  try simp only [Act.put, List.setIfInBounds_toArray, List.set_cons_zero, List.set_cons_succ]
  refine Tail.take 20 rfl (by kernel_rfl) (fun _ _ _ h => h) (by rfl) HS (fun w hSw => by (try dsimp only at hSw); go_simp; (try with_reducible rfl)) ?_
  try simp only [Act.put, List.setIfInBounds_toArray, List.set_cons_zero, List.set_cons_succ]
  refine Tail.take 21 rfl (by kernel_rfl) (fun _ _ _ h => h) (by rfl) HS (fun w hSw => by (try dsimp only at hSw); go_simp; (try with_reducible rfl)) ?_
  try simp only [Act.put, List.setIfInBounds_toArray, List.set_cons_zero, List.set_cons_succ]
  refine Tail.two 3 18 rfl rfl (by kernel_rfl) (fun K hK => ?_) (fun K hK => ?_)
  · go_simp
    have HS : (X.alloc (.cells #[] 74)).drew.cell? ⟨w.heap.size, 0, none⟩ = some (.int .i64 a) ∧ (X.alloc (.cells #[] 74)).drew.cell? ⟨w.heap.size, 1, none⟩ = some (.int .i64 b) ∧ (X.alloc (.cells #[] 74)).drew.cell? ⟨w.heap.size, 2, none⟩ = some (.int .i64 (c : Int)) ∧ (X.alloc (.cells #[] 74)).drew.cell? ⟨w.heap.size, 3, none⟩ = some (.int .i64 d) ∧ (X.alloc (.cells #[] 74)).drew.cell? ⟨p, 4, none⟩ = some (.int .i64 nw) ∧ (X.alloc (.cells #[] 74)).drew.cell? ⟨p, 6 + c, none⟩ = some (.slice A L cap) := six_kept ((Kept.refl (fun _ => False) X.drew).alloc _) HSX (fun _ h => h.elim)
    refine hK.out _ _ HS ?_
    clear hK K
    try simp only [Act.put, List.setIfInBounds_toArray, List.set_cons_zero, List.set_cons_succ]
    have HE0 := Lib.hid (show RW (X.alloc (.cells #[] 74)).drew 5 (.slice (some ⟨X.heap.size, 0, none⟩) 0 0) 0 [] from RW.kept (RW.fresh0 X _ 5) (Kept.refl (fun _ => False) _).drew (fun _ _ => id))
    refine Tail.two 11 18 rfl rfl (by kernel_rfl) (fun K hK => ?_) (fun K hK => ?_)
    · refine step_src rfl (.tmp 46) (.tmp 53) 69 69 rfl 74 (.agg #[.int .i64 0, .int .i64 0, .int .i64 0, .int .i64 0, .int .i64 0]) 5 40 Try.underlying69 info_waiting rfl (by omega) (X.heap.size) 0 0 0 [] rfl HE0.out (.slice A L cap) L (flatW (s.q c)) rfl (RW.src Try.underlying69 (HRW.out _ (((Kept.refl (fun _ => False) X).alloc _).drew)) (flatW_one _)) (by omega) ?_
      intro v1 w2 hr1 hk1 hn1
      simp only [Nat.zero_add, List.nil_append] at hr1
      obtain ⟨A1, cap1, rfl⟩ := hr1.shape
      have HK2 := Lib.hid (show Kept (fun _ => False) X w2 from Kept.trans (S := fun _ => False) (((Kept.refl (fun _ => False) X).alloc _).drew) hk1 (fun g hg e => by omega))
      have HN2 := Lib.hid (show ∀ g, isAt (.slice A1 L cap1) g → X.heap.size ≤ g from fun g hg => by have h1 := hn1 g hg; simp at h1; omega)
      have HR2 := Lib.hid (show RW w2 5 (.slice A1 L cap1) L (flatW (s.q c)) from hr1)
      have HS : w2.cell? ⟨w.heap.size, 0, none⟩ = some (.int .i64 a) ∧ w2.cell? ⟨w.heap.size, 1, none⟩ = some (.int .i64 b) ∧ w2.cell? ⟨w.heap.size, 2, none⟩ = some (.int .i64 (c : Int)) ∧ w2.cell? ⟨w.heap.size, 3, none⟩ = some (.int .i64 d) ∧ w2.cell? ⟨p, 4, none⟩ = some (.int .i64 nw) ∧ w2.cell? ⟨p, 6 + c, none⟩ = some (.slice A L cap) := six_kept HK2.out HSX (fun _ h => h.elim)
      clear hr1 hk1 hn1
      refine hK.out _ _ HS ?_
      clear hK K
      try simp only [Act.put, List.setIfInBounds_toArray, List.set_cons_zero, List.set_cons_succ]
      refine Tail.one 18 rfl (by kernel_rfl) (fun K hK => ?_)
      go_simp
      have HS : (w2.alloc (.cells #[.int .i64 a, .int .i64 b, .int .i64 (c : Int), .int .i64 d, .int .i64 nw] 74)).cell? ⟨w.heap.size, 0, none⟩ = some (.int .i64 a) ∧ (w2.alloc (.cells #[.int .i64 a, .int .i64 b, .int .i64 (c : Int), .int .i64 d, .int .i64 nw] 74)).cell? ⟨w.heap.size, 1, none⟩ = some (.int .i64 b) ∧ (w2.alloc (.cells #[.int .i64 a, .int .i64 b, .int .i64 (c : Int), .int .i64 d, .int .i64 nw] 74)).cell? ⟨w.heap.size, 2, none⟩ = some (.int .i64 (c : Int)) ∧ (w2.alloc (.cells #[.int .i64 a, .int .i64 b, .int .i64 (c : Int), .int .i64 d, .int .i64 nw] 74)).cell? ⟨w.heap.size, 3, none⟩ = some (.int .i64 d) ∧ (w2.alloc (.cells #[.int .i64 a, .int .i64 b, .int .i64 (c : Int), .int .i64 d, .int .i64 nw] 74)).cell? ⟨p, 4, none⟩ = some (.int .i64 nw) ∧ (w2.alloc (.cells #[.int .i64 a, .int .i64 b, .int .i64 (c : Int), .int .i64 d, .int .i64 nw] 74)).cell? ⟨p, 6 + c, none⟩ = some (.slice A L cap) := six_kept (HK2.out.alloc _) HSX (fun _ h => h.elim)
      refine hK.out _ _ HS ?_
      clear hK K
      try simp only [Act.put, List.setIfInBounds_toArray, List.set_cons_zero, List.set_cons_succ]
      have HRD := Lib.hid (show Rd (w2.alloc (.cells #[.int .i64 a, .int .i64 b, .int .i64 (c : Int), .int .i64 d, .int .i64 nw] 74)) 5 (some ⟨w2.heap.size, 0, none⟩) 1 [.int .i64 a, .int .i64 b, .int .i64 (c : Int), .int .i64 d, .int .i64 nw] from Rd.block (w := w2.alloc (.cells #[.int .i64 a, .int .i64 b, .int .i64 (c : Int), .int .i64 d, .int .i64 nw] 74)) (heap_alloc_new w2 _) (by simp))
      refine Tail.one 19 rfl (by kernel_rfl) (fun K hK => ?_)
      refine step_row rfl (.tmp 54) (.tmp 61) 69 rfl 74 (.agg #[.int .i64 0, .int .i64 0, .int .i64 0, .int .i64 0, .int .i64 0]) 5 40 Try.underlying69 info_waiting rfl (by omega) (.slice A1 L cap1) L (flatW (s.q c)) rfl (HR2.out.kept ((Kept.refl (fun _ => False) _).alloc _) (fun _ _ => id)) _ _ [.int .i64 a, .int .i64 b, .int .i64 (c : Int), .int .i64 d, .int .i64 nw] rfl HRD.out (by simp [Value.oneCell']) (by omega) ?_
      intro v3 w3 hr3 hk3 hn3
      obtain ⟨A3, cap3, rfl⟩ := hr3.shape
      have HK3 := Lib.hid (show Kept (fun _ => False) X w3 from Kept.trans (S := fun _ => False) (HK2.out.trans ((Kept.refl (fun _ => False) _).alloc _) (fun _ _ h => h)) hk3 (fun g hg e => by have := HN2.out g e; omega))
      have HN3 := Lib.hid (show ∀ g, isAt (.slice A3 (L + 1) cap3) g → X.heap.size ≤ g from fun g hg => by
        have h0 := HK2.out.size
        rcases hn3 g hg with h1 | h1
        · exact HN2.out g h1
        · (try simp at h1); omega)
      have HR3 := Lib.hid hr3
      have HS : w3.cell? ⟨w.heap.size, 0, none⟩ = some (.int .i64 a) ∧ w3.cell? ⟨w.heap.size, 1, none⟩ = some (.int .i64 b) ∧ w3.cell? ⟨w.heap.size, 2, none⟩ = some (.int .i64 (c : Int)) ∧ w3.cell? ⟨w.heap.size, 3, none⟩ = some (.int .i64 d) ∧ w3.cell? ⟨p, 4, none⟩ = some (.int .i64 nw) ∧ w3.cell? ⟨p, 6 + c, none⟩ = some (.slice A L cap) := six_kept HK3.out HSX (fun _ h => h.elim)
      clear hr3 hk3 hn3
      refine hK.out _ _ HS ?_
      clear hK K
      try simp only [Act.put, List.setIfInBounds_toArray, List.set_cons_zero, List.set_cons_succ]
      refine Tail.tail 22 rfl (by kernel_rfl) ?_
      simp only [List.drop_succ_cons, List.drop_zero]
      obtain ⟨_, _, _, _, _, z5⟩ := HS
      have zf : w3.frozen? ⟨p, 6 + c, none⟩ = false := (HK3.out.frozen (p := ⟨p, 6 + c, none⟩) (Nat.lt_of_lt_of_le hpB HKX.out.size) id).trans (HGX.out.cells.2.2.2.2.2.2.2.2.2.2.1 _)
      go_wp2_with fail
      go_ret
      exact ⟨rfl, renq_end HGX.out hc HV.out HL.out HNW.out HKX.out HK3.out HN3.out HR3.out⟩
    · go_simp
      have HS : ((X.alloc (.cells #[] 74)).alloc (.cells #[.int .i64 a, .int .i64 b, .int .i64 (c : Int), .int .i64 d, .int .i64 nw] 74)).drew.cell? ⟨w.heap.size, 0, none⟩ = some (.int .i64 a) ∧ ((X.alloc (.cells #[] 74)).alloc (.cells #[.int .i64 a, .int .i64 b, .int .i64 (c : Int), .int .i64 d, .int .i64 nw] 74)).drew.cell? ⟨w.heap.size, 1, none⟩ = some (.int .i64 b) ∧ ((X.alloc (.cells #[] 74)).alloc (.cells #[.int .i64 a, .int .i64 b, .int .i64 (c : Int), .int .i64 d, .int .i64 nw] 74)).drew.cell? ⟨w.heap.size, 2, none⟩ = some (.int .i64 (c : Int)) ∧ ((X.alloc (.cells #[] 74)).alloc (.cells #[.int .i64 a, .int .i64 b, .int .i64 (c : Int), .int .i64 d, .int .i64 nw] 74)).drew.cell? ⟨w.heap.size, 3, none⟩ = some (.int .i64 d) ∧ ((X.alloc (.cells #[] 74)).alloc (.cells #[.int .i64 a, .int .i64 b, .int .i64 (c : Int), .int .i64 d, .int .i64 nw] 74)).drew.cell? ⟨p, 4, none⟩ = some (.int .i64 nw) ∧ ((X.alloc (.cells #[] 74)).alloc (.cells #[.int .i64 a, .int .i64 b, .int .i64 (c : Int), .int .i64 d, .int .i64 nw] 74)).drew.cell? ⟨p, 6 + c, none⟩ = some (.slice A L cap) := six_kept (((Kept.refl (fun _ => False) X.drew).alloc _).alloc _) HSX (fun _ h => h.elim)
      refine hK.out _ _ HS ?_
      clear hK K
      try simp only [Act.put, List.setIfInBounds_toArray, List.set_cons_zero, List.set_cons_succ]
      have HE0 := Lib.hid (show RW ((X.alloc (.cells #[] 74)).alloc (.cells #[.int .i64 a, .int .i64 b, .int .i64 (c : Int), .int .i64 d, .int .i64 nw] 74)).drew 5 (.slice (some ⟨X.heap.size, 0, none⟩) 0 0) 0 [] from RW.kept (RW.fresh0 X _ 5) ((Kept.refl (fun _ => False) _).alloc _).drew (fun _ _ => id))
      have HRD := Lib.hid (show Rd ((X.alloc (.cells #[] 74)).alloc (.cells #[.int .i64 a, .int .i64 b, .int .i64 (c : Int), .int .i64 d, .int .i64 nw] 74)).drew 5 (some ⟨X.heap.size + 1, 0, none⟩) 1 [.int .i64 a, .int .i64 b, .int .i64 (c : Int), .int .i64 d, .int .i64 nw] from by have h := Rd.block (w := ((X.alloc (.cells #[] 74)).alloc (.cells #[.int .i64 a, .int .i64 b, .int .i64 (c : Int), .int .i64 d, .int .i64 nw] 74)).drew) (heap_alloc_new (X.alloc (.cells #[] 74)) (.cells #[.int .i64 a, .int .i64 b, .int .i64 (c : Int), .int .i64 d, .int .i64 nw] 74)) (sz := 5) (n := 1) (by simp); simpa using h)
      refine Tail.one 11 rfl (by kernel_rfl) (fun K hK => ?_)
      refine step_src rfl (.tmp 46) (.tmp 53) 69 69 rfl 74 (.agg #[.int .i64 0, .int .i64 0, .int .i64 0, .int .i64 0, .int .i64 0]) 5 40 Try.underlying69 info_waiting rfl (by omega) (X.heap.size) 0 0 0 [] rfl HE0.out (.slice A L cap) L (flatW (s.q c)) rfl (RW.src Try.underlying69 (HRW.out _ ((((Kept.refl (fun _ => False) X).alloc _).alloc _).drew)) (flatW_one _)) (by omega) ?_
      intro v1 w2 hr1 hk1 hn1
      simp only [Nat.zero_add, List.nil_append] at hr1
      obtain ⟨A1, cap1, rfl⟩ := hr1.shape
      have HK2 := Lib.hid (show Kept (fun _ => False) X w2 from Kept.trans (S := fun _ => False) ((((Kept.refl (fun _ => False) X).alloc _).alloc _).drew) hk1 (fun g hg e => by omega))
      have HN2 := Lib.hid (show ∀ g, isAt (.slice A1 L cap1) g → X.heap.size ≤ g from fun g hg => by have h1 := hn1 g hg; simp at h1; omega)
      have HR2 := Lib.hid (show RW w2 5 (.slice A1 L cap1) L (flatW (s.q c)) from hr1)
      have HRD2 := Lib.hid (HRD.out.kept hk1 (fun b off e => by injection e with e; injection e with e; omega))
      have HS : w2.cell? ⟨w.heap.size, 0, none⟩ = some (.int .i64 a) ∧ w2.cell? ⟨w.heap.size, 1, none⟩ = some (.int .i64 b) ∧ w2.cell? ⟨w.heap.size, 2, none⟩ = some (.int .i64 (c : Int)) ∧ w2.cell? ⟨w.heap.size, 3, none⟩ = some (.int .i64 d) ∧ w2.cell? ⟨p, 4, none⟩ = some (.int .i64 nw) ∧ w2.cell? ⟨p, 6 + c, none⟩ = some (.slice A L cap) := six_kept HK2.out HSX (fun _ h => h.elim)
      clear hr1 hk1 hn1
      refine hK.out _ _ HS ?_
      clear hK K
      try simp only [Act.put, List.setIfInBounds_toArray, List.set_cons_zero, List.set_cons_succ]
      refine Tail.one 19 rfl (by kernel_rfl) (fun K hK => ?_)
      refine step_row rfl (.tmp 54) (.tmp 61) 69 rfl 74 (.agg #[.int .i64 0, .int .i64 0, .int .i64 0, .int .i64 0, .int .i64 0]) 5 40 Try.underlying69 info_waiting rfl (by omega) (.slice A1 L cap1) L (flatW (s.q c)) rfl (HR2.out.kept (Kept.refl (fun _ => False) _) (fun _ _ => id)) _ _ [.int .i64 a, .int .i64 b, .int .i64 (c : Int), .int .i64 d, .int .i64 nw] rfl HRD2.out (by simp [Value.oneCell']) (by omega) ?_
      intro v3 w3 hr3 hk3 hn3
      obtain ⟨A3, cap3, rfl⟩ := hr3.shape
      have HK3 := Lib.hid (show Kept (fun _ => False) X w3 from Kept.trans (S := fun _ => False) (HK2.out.trans (Kept.refl (fun _ => False) _) (fun _ _ h => h)) hk3 (fun g hg e => by have := HN2.out g e; omega))
      have HN3 := Lib.hid (show ∀ g, isAt (.slice A3 (L + 1) cap3) g → X.heap.size ≤ g from fun g hg => by
        have h0 := HK2.out.size
        rcases hn3 g hg with h1 | h1
        · exact HN2.out g h1
        · (try simp at h1); omega)
      have HR3 := Lib.hid hr3
      have HS : w3.cell? ⟨w.heap.size, 0, none⟩ = some (.int .i64 a) ∧ w3.cell? ⟨w.heap.size, 1, none⟩ = some (.int .i64 b) ∧ w3.cell? ⟨w.heap.size, 2, none⟩ = some (.int .i64 (c : Int)) ∧ w3.cell? ⟨w.heap.size, 3, none⟩ = some (.int .i64 d) ∧ w3.cell? ⟨p, 4, none⟩ = some (.int .i64 nw) ∧ w3.cell? ⟨p, 6 + c, none⟩ = some (.slice A L cap) := six_kept HK3.out HSX (fun _ h => h.elim)
      clear hr3 hk3 hn3
      refine hK.out _ _ HS ?_
      clear hK K
      try simp only [Act.put, List.setIfInBounds_toArray, List.set_cons_zero, List.set_cons_succ]
      refine Tail.tail 22 rfl (by kernel_rfl) ?_
      simp only [List.drop_succ_cons, List.drop_zero]
      obtain ⟨_, _, _, _, _, z5⟩ := HS
      have zf : w3.frozen? ⟨p, 6 + c, none⟩ = false := (HK3.out.frozen (p := ⟨p, 6 + c, none⟩) (Nat.lt_of_lt_of_le hpB HKX.out.size) id).trans (HGX.out.cells.2.2.2.2.2.2.2.2.2.2.1 _)
      go_wp2_with fail
      go_ret
      exact ⟨rfl, renq_end HGX.out hc HV.out HL.out HNW.out HKX.out HK3.out HN3.out HR3.out⟩
  · go_simp
    have HS : (X.alloc (.cells #[.int .i64 a, .int .i64 b, .int .i64 (c : Int), .int .i64 d, .int .i64 nw] 74)).drew.cell? ⟨w.heap.size, 0, none⟩ = some (.int .i64 a) ∧ (X.alloc (.cells #[.int .i64 a, .int .i64 b, .int .i64 (c : Int), .int .i64 d, .int .i64 nw] 74)).drew.cell? ⟨w.heap.size, 1, none⟩ = some (.int .i64 b) ∧ (X.alloc (.cells #[.int .i64 a, .int .i64 b, .int .i64 (c : Int), .int .i64 d, .int .i64 nw] 74)).drew.cell? ⟨w.heap.size, 2, none⟩ = some (.int .i64 (c : Int)) ∧ (X.alloc (.cells #[.int .i64 a, .int .i64 b, .int .i64 (c : Int), .int .i64 d, .int .i64 nw] 74)).drew.cell? ⟨w.heap.size, 3, none⟩ = some (.int .i64 d) ∧ (X.alloc (.cells #[.int .i64 a, .int .i64 b, .int .i64 (c : Int), .int .i64 d, .int .i64 nw] 74)).drew.cell? ⟨p, 4, none⟩ = some (.int .i64 nw) ∧ (X.alloc (.cells #[.int .i64 a, .int .i64 b, .int .i64 (c : Int), .int .i64 d, .int .i64 nw] 74)).drew.cell? ⟨p, 6 + c, none⟩ = some (.slice A L cap) := six_kept ((Kept.refl (fun _ => False) X.drew).alloc _) HSX (fun _ h => h.elim)
    refine hK.out _ _ HS ?_
    clear hK K
    try simp only [Act.put, List.setIfInBounds_toArray, List.set_cons_zero, List.set_cons_succ]
    refine Tail.one 3 rfl (by kernel_rfl) (fun K hK => ?_)
    go_simp
    have HS : ((X.alloc (.cells #[.int .i64 a, .int .i64 b, .int .i64 (c : Int), .int .i64 d, .int .i64 nw] 74)).alloc (.cells #[] 74)).drew.cell? ⟨w.heap.size, 0, none⟩ = some (.int .i64 a) ∧ ((X.alloc (.cells #[.int .i64 a, .int .i64 b, .int .i64 (c : Int), .int .i64 d, .int .i64 nw] 74)).alloc (.cells #[] 74)).drew.cell? ⟨w.heap.size, 1, none⟩ = some (.int .i64 b) ∧ ((X.alloc (.cells #[.int .i64 a, .int .i64 b, .int .i64 (c : Int), .int .i64 d, .int .i64 nw] 74)).alloc (.cells #[] 74)).drew.cell? ⟨w.heap.size, 2, none⟩ = some (.int .i64 (c : Int)) ∧ ((X.alloc (.cells #[.int .i64 a, .int .i64 b, .int .i64 (c : Int), .int .i64 d, .int .i64 nw] 74)).alloc (.cells #[] 74)).drew.cell? ⟨w.heap.size, 3, none⟩ = some (.int .i64 d) ∧ ((X.alloc (.cells #[.int .i64 a, .int .i64 b, .int .i64 (c : Int), .int .i64 d, .int .i64 nw] 74)).alloc (.cells #[] 74)).drew.cell? ⟨p, 4, none⟩ = some (.int .i64 nw) ∧ ((X.alloc (.cells #[.int .i64 a, .int .i64 b, .int .i64 (c : Int), .int .i64 d, .int .i64 nw] 74)).alloc (.cells #[] 74)).drew.cell? ⟨p, 6 + c, none⟩ = some (.slice A L cap) := six_kept (((Kept.refl (fun _ => False) X.drew).alloc _).alloc _) HSX (fun _ h => h.elim)
    refine hK.out _ _ HS ?_
    clear hK K
    try simp only [Act.put, List.setIfInBounds_toArray, List.set_cons_zero, List.set_cons_succ]
    have HE0 := Lib.hid (show RW ((X.alloc (.cells #[.int .i64 a, .int .i64 b, .int .i64 (c : Int), .int .i64 d, .int .i64 nw] 74)).alloc (.cells #[] 74)).drew 5 (.slice (some ⟨X.heap.size + 1, 0, none⟩) 0 0) 0 [] from by have h := RW.kept (RW.fresh0 (X.alloc (.cells #[.int .i64 a, .int .i64 b, .int .i64 (c : Int), .int .i64 d, .int .i64 nw] 74)) 74 5) (Kept.refl (fun _ => False) _).drew (fun _ _ => id); simpa using h)
    have HRD := Lib.hid (show Rd ((X.alloc (.cells #[.int .i64 a, .int .i64 b, .int .i64 (c : Int), .int .i64 d, .int .i64 nw] 74)).alloc (.cells #[] 74)).drew 5 (some ⟨X.heap.size, 0, none⟩) 1 [.int .i64 a, .int .i64 b, .int .i64 (c : Int), .int .i64 d, .int .i64 nw] from (Rd.block (w := X.alloc (.cells #[.int .i64 a, .int .i64 b, .int .i64 (c : Int), .int .i64 d, .int .i64 nw] 74)) (heap_alloc_new X (.cells #[.int .i64 a, .int .i64 b, .int .i64 (c : Int), .int .i64 d, .int .i64 nw] 74)) (sz := 5) (n := 1) (by simp)).kept ((Kept.refl (fun _ => False) _).alloc _).drew (fun _ _ _ => id))
    refine Tail.one 11 rfl (by kernel_rfl) (fun K hK => ?_)
    refine step_src rfl (.tmp 46) (.tmp 53) 69 69 rfl 74 (.agg #[.int .i64 0, .int .i64 0, .int .i64 0, .int .i64 0, .int .i64 0]) 5 40 Try.underlying69 info_waiting rfl (by omega) ((X.heap.size + 1)) 0 0 0 [] rfl HE0.out (.slice A L cap) L (flatW (s.q c)) rfl (RW.src Try.underlying69 (HRW.out _ ((((Kept.refl (fun _ => False) X).alloc _).alloc _).drew)) (flatW_one _)) (by omega) ?_
    intro v1 w2 hr1 hk1 hn1
    simp only [Nat.zero_add, List.nil_append] at hr1
    obtain ⟨A1, cap1, rfl⟩ := hr1.shape
    have HK2 := Lib.hid (show Kept (fun _ => False) X w2 from Kept.trans (S := fun _ => False) ((((Kept.refl (fun _ => False) X).alloc _).alloc _).drew) hk1 (fun g hg e => by omega))
    have HN2 := Lib.hid (show ∀ g, isAt (.slice A1 L cap1) g → X.heap.size ≤ g from fun g hg => by have h1 := hn1 g hg; simp at h1; omega)
    have HR2 := Lib.hid (show RW w2 5 (.slice A1 L cap1) L (flatW (s.q c)) from hr1)
    have HRD2 := Lib.hid (HRD.out.kept hk1 (fun b off e => by injection e with e; injection e with e; omega))
    have HS : w2.cell? ⟨w.heap.size, 0, none⟩ = some (.int .i64 a) ∧ w2.cell? ⟨w.heap.size, 1, none⟩ = some (.int .i64 b) ∧ w2.cell? ⟨w.heap.size, 2, none⟩ = some (.int .i64 (c : Int)) ∧ w2.cell? ⟨w.heap.size, 3, none⟩ = some (.int .i64 d) ∧ w2.cell? ⟨p, 4, none⟩ = some (.int .i64 nw) ∧ w2.cell? ⟨p, 6 + c, none⟩ = some (.slice A L cap) := six_kept HK2.out HSX (fun _ h => h.elim)
    clear hr1 hk1 hn1
    refine hK.out _ _ HS ?_
    clear hK K
    try simp only [Act.put, List.setIfInBounds_toArray, List.set_cons_zero, List.set_cons_succ]
    refine Tail.one 19 rfl (by kernel_rfl) (fun K hK => ?_)
    refine step_row rfl (.tmp 54) (.tmp 61) 69 rfl 74 (.agg #[.int .i64 0, .int .i64 0, .int .i64 0, .int .i64 0, .int .i64 0]) 5 40 Try.underlying69 info_waiting rfl (by omega) (.slice A1 L cap1) L (flatW (s.q c)) rfl (HR2.out.kept (Kept.refl (fun _ => False) _) (fun _ _ => id)) _ _ [.int .i64 a, .int .i64 b, .int .i64 (c : Int), .int .i64 d, .int .i64 nw] rfl HRD2.out (by simp [Value.oneCell']) (by omega) ?_
    intro v3 w3 hr3 hk3 hn3
    obtain ⟨A3, cap3, rfl⟩ := hr3.shape
    have HK3 := Lib.hid (show Kept (fun _ => False) X w3 from Kept.trans (S := fun _ => False) (HK2.out.trans (Kept.refl (fun _ => False) _) (fun _ _ h => h)) hk3 (fun g hg e => by have := HN2.out g e; omega))
    have HN3 := Lib.hid (show ∀ g, isAt (.slice A3 (L + 1) cap3) g → X.heap.size ≤ g from fun g hg => by
      have h0 := HK2.out.size
      rcases hn3 g hg with h1 | h1
      · exact HN2.out g h1
      · (try simp at h1); omega)
    have HR3 := Lib.hid hr3
    have HS : w3.cell? ⟨w.heap.size, 0, none⟩ = some (.int .i64 a) ∧ w3.cell? ⟨w.heap.size, 1, none⟩ = some (.int .i64 b) ∧ w3.cell? ⟨w.heap.size, 2, none⟩ = some (.int .i64 (c : Int)) ∧ w3.cell? ⟨w.heap.size, 3, none⟩ = some (.int .i64 d) ∧ w3.cell? ⟨p, 4, none⟩ = some (.int .i64 nw) ∧ w3.cell? ⟨p, 6 + c, none⟩ = some (.slice A L cap) := six_kept HK3.out HSX (fun _ h => h.elim)
    clear hr3 hk3 hn3
    refine hK.out _ _ HS ?_
    clear hK K
    try simp only [Act.put, List.setIfInBounds_toArray, List.set_cons_zero, List.set_cons_succ]
    refine Tail.tail 22 rfl (by kernel_rfl) ?_
    simp only [List.drop_succ_cons, List.drop_zero]
    obtain ⟨_, _, _, _, _, z5⟩ := HS
    have zf : w3.frozen? ⟨p, 6 + c, none⟩ = false := (HK3.out.frozen (p := ⟨p, 6 + c, none⟩) (Nat.lt_of_lt_of_le hpB HKX.out.size) id).trans (HGX.out.cells.2.2.2.2.2.2.2.2.2.2.1 _)
    go_wp2_with fail
    go_ret
    exact ⟨rfl, renq_end HGX.out hc HV.out HL.out HNW.out HKX.out HK3.out HN3.out HR3.out⟩
end Go.Proofs.Ytkjjkepiihdihaa.Pace
