/- What Enqueue comes to; no condition but the ranges in each. -/
import Derived.Test.YtkjjkepiihdihaaPaceFn3
namespace Go.Proofs.Ytkjjkepiihdihaa.Pace
open Go.RowKit Go.Proofs.Ytkjjkepiihdihaa.Plain Go.Proofs.Ytkjjkepiihdihaa.Heap Go.Proofs.Ytkjjkepiihdihaa.Rows

/-- One more waits. -/
def push (s : PS) (a b : Int) (c : Nat) (d : Int) : PS := { s with q := fun k => if k = c then s.q c ++ [(a, b, (c : Int), d, s.now)] else s.q k }
theorem push_ok {s : PS} (ok : okP s) (a b : Int) {c : Nat} (d : Int) (hd : 0 ≤ d) (hd' : d ≤ 1500) (hl : ((s.q c).length : Int) < s.queue) : okP (push s a b c d) := by
  refine ⟨ok.burst0, ok.burst1, ok.credit0, ok.credit1, ok.rate0, ok.rate1, ok.window0, ok.window1, ok.now0, ok.now1, ok.queue0, ok.queue1, fun k hk => ?_, fun k hk x hx => ?_⟩
  · by_cases h : k = c
    · subst h
      simp only [push, if_pos, List.length_append, List.length_cons, List.length_nil]
      omega
    · simp only [push, if_neg h]
      exact ok.len k hk
  · by_cases h : k = c
    · subst h
      simp only [push, if_pos] at hx
      rcases List.mem_append.1 hx with hx | hx
      · exact ok.el k hk x hx
      · simp at hx
        subst hx
        exact ⟨rfl, hd, hd', ok.now0, Int.le_refl _⟩
    · simp only [push, if_neg h] at hx
      exact ok.el k hk x hx
/-- One class lies elsewhere, or grew. -/
theorem PV.put {T : TypeId} {N : Nat → Prop} {w w' : World} {p : Nat} {v : Nat → Value} {s s' : PS} (h : PV T N w p v s) {c : Nat} (hc : c < 4) (u : Value) (hk : Kept (isAt (v c)) w w') (hu : RW w' 5 u (s'.q c).length (flatW (s'.q c))) (hn : ∀ g, isAt u g → isAt (v c) g ∨ g = w.heap.size)
    (hp : pcells s' (fun k => if k = c then u else v k) = (pcells s v).setIfInBounds (6 + c) u) (hq : ∀ k, k ≠ c → s'.q k = s.q k) : PV T N (w'.setCell ⟨p, 6 + c, none⟩ u) p (fun k => if k = c then u else v k) s' := by
  have hpl := h.cells.2.2.2.2.2.2.2.2.2.2.2
  have hnp : ¬ isAt (v c) p := fun e => (h.own c hc p e).2 rfl
  have hb : w'.heap[p]? = some (.cells (pcells s v) T (0, 0)) := (hk.block p hpl hnp).trans h.blk
  have hk2 : Kept (fun g => g = p) w' (w'.setCell ⟨p, 6 + c, none⟩ u) := Kept.setCell (S := fun g => g = p) (Kept.refl _ _) (p := ⟨p, 6 + c, none⟩) (.inl rfl) u
  have hup : ∀ g, isAt u g → g ≠ p := fun g hg e => by
    rcases hn g hg with h1 | h1
    · exact (h.own c hc g h1).2 e
    · omega
  refine ⟨?_, fun k hk4 => ?_, h.np, fun k hk4 g hg => ?_, fun k d hk4 hd hne g hg => ?_, fun g hg => ?_⟩
  · rw [hp]
    simp [World.setCell, Array.getElem?_modify, hb]
  · by_cases e : k = c
    · subst e
      rw [if_pos rfl]
      exact hu.kept hk2 hup
    · rw [if_neg e, hq k e]
      exact (h.qs k hk4).kept (Kept.trans (S := fun g => isAt (v c) g ∨ g = p) (hk.mono fun _ _ h => .inl h) hk2 (fun _ _ h => .inr h)) (fun g hg e2 => by
        rcases e2 with e2 | e2
        · exact h.ne k c hk4 hc e g hg e2
        · exact (h.own k hk4 g hg).2 e2) 
  · by_cases e : k = c
    · subst e
      rw [if_pos rfl] at hg
      refine ⟨fun hN => ?_, hup g hg⟩
      rcases hn g hg with h1 | h1
      · exact (h.own k hk4 g h1).1 hN
      · have := h.lt g hN; omega
    · rw [if_neg e] at hg
      exact h.own k hk4 g hg
  · by_cases e : k = c
    · subst e
      rw [if_pos rfl] at hg
      rw [if_neg (Ne.symm hne)]
      intro hd2
      rcases hn g hg with h1 | h1
      · exact h.ne k d hk4 hd hne g h1 hd2
      · have := (h.qs d hd).lt hd2; omega
    · rw [if_neg e] at hg
      by_cases e2 : d = c
      · subst e2
        rw [if_pos rfl]
        intro hd2
        rcases hn g hd2 with h1 | h1
        · exact h.ne k d hk4 hd hne g hg h1
        · have := (h.qs k hk4).lt hg; omega
      · rw [if_neg e2]
        exact h.ne k d hk4 hd hne g hg
  · exact Nat.lt_of_lt_of_le (Nat.lt_of_lt_of_le (h.lt g hg) hk.size) hk2.size
theorem box_cells (w : World) (a b cl d : Int) : (w.alloc (.cells #[.int .i64 a, .int .i64 b, .int .i64 cl, .int .i64 d] 30)).cell? ⟨w.heap.size, 0, none⟩ = some (.int .i64 a) ∧ (w.alloc (.cells #[.int .i64 a, .int .i64 b, .int .i64 cl, .int .i64 d] 30)).cell? ⟨w.heap.size, 1, none⟩ = some (.int .i64 b) ∧
    (w.alloc (.cells #[.int .i64 a, .int .i64 b, .int .i64 cl, .int .i64 d] 30)).cell? ⟨w.heap.size, 2, none⟩ = some (.int .i64 cl) ∧ (w.alloc (.cells #[.int .i64 a, .int .i64 b, .int .i64 cl, .int .i64 d] 30)).cell? ⟨w.heap.size, 3, none⟩ = some (.int .i64 d) := by
  have hh := heap_alloc_new w (.cells #[.int .i64 a, .int .i64 b, .int .i64 cl, .int .i64 d] 30)
  simp only [World.cell?, hh]
  exact ⟨rfl, rfl, rfl, rfl⟩
set_option maxRecDepth 10000 in
set_option maxHeartbeats 1000000 in
theorem enq_walk (N : Nat → Prop) (a b cl d now : Int) (p : Nat) (v : Nat → Value) (w : World) (s : PS) (h : PV 63 N w p v s) (ok : okP s) (hbad : decide (cl < 0) = true ∨ (decide (cl < 0) = false ∧ decide (cl ≥ 4) = true) ∨ (decide (cl < 0) = false ∧ decide (cl ≥ 4) = false ∧ decide (d < 0) = true) ∨ (decide (cl < 0) = false ∧ decide (cl ≥ 4) = false ∧ decide (d < 0) = false ∧ decide (d > 1500) = true)) :
    Calls Try.prog 14 #[.pointer (some ⟨p, 0, none⟩), .agg #[.int .i64 a, .int .i64 b, .int .i64 cl, .int .i64 d], .int .i64 now] w
      fun e w' => e = .returned (.bool false) ∧ PV 63 N w' p v (goes s now) ∧ Kept (fun g => g = p) w w' := by
  have hpB : p < w.heap.size := h.cells.2.2.2.2.2.2.2.2.2.2.2
  have HW0 := Lib.hid (h.run ((Kept.refl (fun _ => False) w).alloc (.cells #[.int .i64 a, .int .i64 b, .int .i64 cl, .int .i64 d] 30)))
  have OK := Lib.hid ok
  have BC := Lib.hid (box_cells w a b cl d)
  clear h ok
  rcases hbad with h1 | ⟨h1, h2⟩ | ⟨h1, h2, h3⟩ | ⟨h1, h2, h3, h4⟩
  all_goals
    go_enter Try.func14, Try.ntmps14
    go_wp2_with fail
    refine (goes_any N now p v _ s HW0.out OK.out).mono ?_
    rintro e w1 ⟨rfl, hg, hk⟩
    have HG := Lib.hid hg
    have b2 : w1.cell? ⟨w.heap.size, 2, none⟩ = some (.int .i64 cl) := (hk.cell (p := ⟨w.heap.size, 2, none⟩) (by simp) (by show w.heap.size ≠ p; omega)).trans BC.out.2.2.1
    have b3 : w1.cell? ⟨w.heap.size, 3, none⟩ = some (.int .i64 d) := (hk.cell (p := ⟨w.heap.size, 3, none⟩) (by simp) (by show w.heap.size ≠ p; omega)).trans BC.out.2.2.2
    have HK := Lib.hid (Kept.trans (S := fun g => g = p) ((Kept.refl (fun g => g = p) w).alloc _) hk (fun _ _ h => h))
    clear hg hk
    go_wp2_with fail
    go_quiet (fail)
    go_wp2_with fail
    go_ret
    exact ⟨rfl, HG.out.run ((Kept.refl _ _).drewN _), HK.out.drewN _⟩
set_option maxRecDepth 10000 in
set_option maxHeartbeats 1000000 in
theorem enq_full (N : Nat → Prop) (a b d now : Int) (c : Nat) (p : Nat) (v : Nat → Value) (w : World) (s : PS) (h : PV 63 N w p v s) (ok : okP s) (hc : c < 4) (d0 : decide (d < 0) = false) (d1 : decide (d > 1500) = false) (hl : ((s.q c).length : Int) = s.queue) :
    Calls Try.prog 14 #[.pointer (some ⟨p, 0, none⟩), .agg #[.int .i64 a, .int .i64 b, .int .i64 (c : Int), .int .i64 d], .int .i64 now] w
      fun e w' => e = .returned (.bool false) ∧ PV 63 N w' p v (goes s now) ∧ Kept (fun g => g = p) w w' := by
  have hpB : p < w.heap.size := h.cells.2.2.2.2.2.2.2.2.2.2.2
  have HW0 := Lib.hid (h.run ((Kept.refl (fun _ => False) w).alloc (.cells #[.int .i64 a, .int .i64 b, .int .i64 (c : Int), .int .i64 d] 30)))
  have OK := Lib.hid ok
  have BC := Lib.hid (box_cells w a b (c : Int) d)
  have hc4 : (c : Int) < 4 := by omega
  have hc0 : (0 : Int) ≤ (c : Int) := by omega
  have k0 : decide ((c : Int) < 0) = false := by simp
  have k1 : decide ((c : Int) ≥ 4) = false := by simp; omega
  obtain ⟨A, cap, hv⟩ := h.val hc
  obtain ⟨L, hL⟩ : ∃ L, L = (s.q c).length := ⟨_, rfl⟩
  rw [← hL] at hl hv
  have keq : ((L : Int) == s.queue) = true := by simp [hl]
  have HV := Lib.hid hv
  clear h ok hv hL hl
  go_enter Try.func14, Try.ntmps14
  go_wp2_with fail
  refine (goes_any N now p v _ s HW0.out OK.out).mono ?_
  rintro e w1 ⟨rfl, hg, hk⟩
  have HG := Lib.hid hg
  have b2 : w1.cell? ⟨w.heap.size, 2, none⟩ = some (.int .i64 (c : Int)) := (hk.cell (p := ⟨w.heap.size, 2, none⟩) (by simp) (by show w.heap.size ≠ p; omega)).trans BC.out.2.2.1
  have b3 : w1.cell? ⟨w.heap.size, 3, none⟩ = some (.int .i64 d) := (hk.cell (p := ⟨w.heap.size, 3, none⟩) (by simp) (by show w.heap.size ≠ p; omega)).trans BC.out.2.2.2
  have HK := Lib.hid (Kept.trans (S := fun g => g = p) ((Kept.refl (fun g => g = p) w).alloc _) hk (fun _ _ h => h))
  have q1 : w1.cell? ⟨p, 5, none⟩ = some (.int .i64 s.queue) := hg.cells.2.2.2.2.2.1
  have q2 : w1.cell? ⟨p, 6 + c, none⟩ = some (.slice A L cap) := by rw [hg.cellq hc]; exact congrArg some HV.out
  clear hg hk
  go_wp2_with fail
  go_quiet (fail)
  go_wp2_with fail
  go_ret
  exact ⟨rfl, HG.out.run ((Kept.refl _ _).drewN _), HK.out.drewN _⟩
theorem info_waiter : (Try.prog.info? 67).map (fun i => (i.zero, i.size, i.bytes)) = some (some (.agg #[.int .i64 0, .int .i64 0, .int .i64 0, .int .i64 0, .int .i64 0]), 5, 40) := by kernel_rfl
theorem six_kept {S : Nat → Prop} {w w' : World} {B p k : Nat} {a b c d e f : Value} (hk : Kept S w w') (h : w.cell? ⟨B, 0, none⟩ = some a ∧ w.cell? ⟨B, 1, none⟩ = some b ∧ w.cell? ⟨B, 2, none⟩ = some c ∧ w.cell? ⟨B, 3, none⟩ = some d ∧ w.cell? ⟨p, 4, none⟩ = some e ∧ w.cell? ⟨p, k, none⟩ = some f) (hS : ∀ g, S g → g ≠ B ∧ g ≠ p) :
    w'.cell? ⟨B, 0, none⟩ = some a ∧ w'.cell? ⟨B, 1, none⟩ = some b ∧ w'.cell? ⟨B, 2, none⟩ = some c ∧ w'.cell? ⟨B, 3, none⟩ = some d ∧ w'.cell? ⟨p, 4, none⟩ = some e ∧ w'.cell? ⟨p, k, none⟩ = some f := by
  obtain ⟨h0, h1, h2, h3, h4, h5⟩ := h
  have hB := World.block_lt_of_cell? w ⟨B, 0, none⟩ h0
  have hp := World.block_lt_of_cell? w ⟨p, 4, none⟩ h4
  have nB : ¬ S B := fun e => (hS B e).1 rfl
  have np : ¬ S p := fun e => (hS p e).2 rfl
  exact ⟨(hk.cell (p := ⟨B, 0, none⟩) hB nB).trans h0, (hk.cell (p := ⟨B, 1, none⟩) hB nB).trans h1, (hk.cell (p := ⟨B, 2, none⟩) hB nB).trans h2, (hk.cell (p := ⟨B, 3, none⟩) hB nB).trans h3, (hk.cell (p := ⟨p, 4, none⟩) hp np).trans h4, (hk.cell (p := ⟨p, k, none⟩) hp np).trans h5⟩
set_option linter.unusedSimpArgs false in
set_option maxRecDepth 10000 in
set_option maxHeartbeats 1000000 in
theorem enq_take (N : Nat → Prop) (a b d now : Int) (c : Nat) (p : Nat) (v : Nat → Value) (w : World) (s : PS) (h : PV 63 N w p v s) (ok : okP s) (hc : c < 4) (d0 : decide (d < 0) = false) (d1 : decide (d > 1500) = false) (hl : ((s.q c).length : Int) < s.queue) :
    Calls Try.prog 14 #[.pointer (some ⟨p, 0, none⟩), .agg #[.int .i64 a, .int .i64 b, .int .i64 (c : Int), .int .i64 d], .int .i64 now] w
      fun e w' => e = .returned (.bool true) ∧ ∃ u, PV 63 N w' p (fun k => if k = c then u else v k) (push (goes s now) a b c d) ∧ Kept (fun g => g = p ∨ isAt (v c) g) w w' := by
  have hpB : p < w.heap.size := h.cells.2.2.2.2.2.2.2.2.2.2.2
  have HW0 := Lib.hid (h.run ((Kept.refl (fun _ => False) w).alloc (.cells #[.int .i64 a, .int .i64 b, .int .i64 (c : Int), .int .i64 d] 30)))
  have OK := Lib.hid ok
  have BC := Lib.hid (box_cells w a b (c : Int) d)
  have hc4 : (c : Int) < 4 := by omega
  have hc0 : (0 : Int) ≤ (c : Int) := by omega
  have k0 : decide ((c : Int) < 0) = false := by simp
  have k1 : decide ((c : Int) ≥ 4) = false := by simp; omega
  obtain ⟨A, cap, hv⟩ := h.val hc
  obtain ⟨L, hL⟩ : ∃ L, L = (s.q c).length := ⟨_, rfl⟩
  rw [← hL] at hl hv
  have keq : ((L : Int) == s.queue) = false := by simp; omega
  have HNI := Lib.hid (show ∀ g, isAt (.slice A L cap) g → g ≠ w.heap.size ∧ g ≠ p from fun g hg => by
    rw [← hv] at hg
    have h1 := (h.qs c hc).lt hg
    exact ⟨by omega, (h.own c hc g hg).2⟩)
  have HV := Lib.hid hv
  have HL := Lib.hid hL
  clear h ok hv hL hl
  go_enter Try.func14, Try.ntmps14
  go_wp2_with fail
  refine (goes_any N now p v _ s HW0.out OK.out).mono ?_
  rintro e w1 ⟨rfl, hg, hk⟩
  have HG := Lib.hid hg
  have b0 : w1.cell? ⟨w.heap.size, 0, none⟩ = some (.int .i64 a) := (hk.cell (p := ⟨w.heap.size, 0, none⟩) (by simp) (by show w.heap.size ≠ p; omega)).trans BC.out.1
  have b1 : w1.cell? ⟨w.heap.size, 1, none⟩ = some (.int .i64 b) := (hk.cell (p := ⟨w.heap.size, 1, none⟩) (by simp) (by show w.heap.size ≠ p; omega)).trans BC.out.2.1
  have b2 : w1.cell? ⟨w.heap.size, 2, none⟩ = some (.int .i64 (c : Int)) := (hk.cell (p := ⟨w.heap.size, 2, none⟩) (by simp) (by show w.heap.size ≠ p; omega)).trans BC.out.2.2.1
  have b3 : w1.cell? ⟨w.heap.size, 3, none⟩ = some (.int .i64 d) := (hk.cell (p := ⟨w.heap.size, 3, none⟩) (by simp) (by show w.heap.size ≠ p; omega)).trans BC.out.2.2.2
  have HK := Lib.hid (Kept.trans (S := fun g => g = p) ((Kept.refl (fun g => g = p) w).alloc _) hk (fun _ _ h => h))
  have q1 : w1.cell? ⟨p, 5, none⟩ = some (.int .i64 s.queue) := hg.cells.2.2.2.2.2.1
  have q2 : w1.cell? ⟨p, 6 + c, none⟩ = some (.slice A L cap) := by rw [hg.cellq hc]; exact congrArg some HV.out
  have q3 : w1.cell? ⟨p, 4, none⟩ = some (.int .i64 (goes s now).now) := hg.cells.2.2.2.2.1
  obtain ⟨nw, hnw⟩ : ∃ nw, nw = (goes s now).now := ⟨_, rfl⟩
  rw [← hnw] at q3
  have HNW := Lib.hid hnw
  clear hg hk hnw
  go_wp2_with fail
  go_quiet (fail)
  go_wp2_with fail
  generalize hX : World.drewN w1 _ = X
  have HGX := Lib.hid (show PV 63 N X p v (goes s now) by rw [← hX]; exact HG.out.run ((Kept.refl _ _).drewN _))
  have HKX := Lib.hid (show Kept (fun g => g = p) w X by rw [← hX]; exact HK.out.drewN _)
  have HSX : X.drew.cell? ⟨w.heap.size, 0, none⟩ = some (.int .i64 a) ∧ X.drew.cell? ⟨w.heap.size, 1, none⟩ = some (.int .i64 b) ∧ X.drew.cell? ⟨w.heap.size, 2, none⟩ = some (.int .i64 (c : Int)) ∧ X.drew.cell? ⟨w.heap.size, 3, none⟩ = some (.int .i64 d) ∧ X.drew.cell? ⟨p, 4, none⟩ = some (.int .i64 nw) ∧ X.drew.cell? ⟨p, 6 + c, none⟩ = some (.slice A L cap) := by
    rw [← hX]
    exact ⟨b0, b1, b2, b3, q3, q2⟩
  clear b0 b1 b2 b3 q1 q2 q3 hX
  have HRW := Lib.hid (show RW (X.alloc (.cells #[.int .i64 a, .int .i64 b, .int .i64 (c : Int), .int .i64 d, .int .i64 nw] 67)).drew 5 (.slice A L cap) L (flatW (s.q c)) from by
    have h1 := (HGX.out.run ((Kept.refl _ X).alloc (.cells #[.int .i64 a, .int .i64 b, .int .i64 (c : Int), .int .i64 d, .int .i64 nw] 67)).drew).qs c hc
    rw [HV.out] at h1
    rw [HL.out]
    rw [HL.out] at h1
    exact h1)
  have HRD := Lib.hid (show Rd (X.alloc (.cells #[.int .i64 a, .int .i64 b, .int .i64 (c : Int), .int .i64 d, .int .i64 nw] 67)).drew 5 (some ⟨X.heap.size, 0, none⟩) 1 [.int .i64 a, .int .i64 b, .int .i64 (c : Int), .int .i64 d, .int .i64 nw] from
    Rd.block (w := (X.alloc (.cells #[.int .i64 a, .int .i64 b, .int .i64 (c : Int), .int .i64 d, .int .i64 nw] 67)).drew) (heap_alloc_new X _) (by simp))
  have hL3 : L ≤ 1000000 := by have h1 := OK.out.queue1; have h2 := OK.out.len c hc; rw [← HL.out] at h2; omega
  have HNS := Lib.hid (show ∀ g, isAt (.slice A L cap) g → g ≠ w.heap.size ∧ g ≠ p from HNI.out)
  have HS := HSX
  refine Tail.start 20 (fun w' => w'.cell? ⟨w.heap.size, 0, none⟩ = some (.int .i64 a) ∧ w'.cell? ⟨w.heap.size, 1, none⟩ = some (.int .i64 b) ∧ w'.cell? ⟨w.heap.size, 2, none⟩ = some (.int .i64 (c : Int)) ∧ w'.cell? ⟨w.heap.size, 3, none⟩ = some (.int .i64 d) ∧ w'.cell? ⟨p, 4, none⟩ = some (.int .i64 nw) ∧ w'.cell? ⟨p, 6 + c, none⟩ = some (.slice A L cap)) (by kernel_rfl) ?_
  refine Tail.take 0 rfl (by kernel_rfl) (fun _ _ _ h => h) (by rfl) HS (fun w hSw => by (try dsimp only at hSw); go_simp; (try with_reducible rfl)) ?_
  try simp only [Act.put, List.setIfInBounds_toArray, List.set_cons_zero, List.set_cons_succ]
  refine Tail.take 1 rfl (by kernel_rfl) (fun _ _ _ h => h) (by rfl) HS (fun w hSw => by (try dsimp only at hSw); go_simp; (try with_reducible rfl)) ?_
  try simp only [Act.put, List.setIfInBounds_toArray, List.set_cons_zero, List.set_cons_succ]
  refine Tail.take 2 rfl (by kernel_rfl) (fun _ _ _ h => h) (by rfl) HS (fun w hSw => by (try dsimp only at hSw); go_simp; (try with_reducible rfl)) ?_
  try simp only [Act.put, List.setIfInBounds_toArray, List.set_cons_zero, List.set_cons_succ]
  refine Tail.take 3 rfl (by kernel_rfl) (fun _ _ _ h => h) (by rfl) HS (fun w hSw => by (try dsimp only at hSw); go_simp; (try with_reducible rfl)) ?_
  try simp only [Act.put, List.setIfInBounds_toArray, List.set_cons_zero, List.set_cons_succ]
  refine Tail.take 4 rfl (by kernel_rfl) (fun _ _ _ h => h) (by rfl) HS (fun w hSw => by (try dsimp only at hSw); go_simp; (try with_reducible rfl)) ?_
  try simp only [Act.put, List.setIfInBounds_toArray, List.set_cons_zero, List.set_cons_succ]
  refine Tail.take 5 rfl (by kernel_rfl) (fun _ _ _ h => h) (by rfl) HS (fun w hSw => by (try dsimp only at hSw); go_simp; (try with_reducible rfl)) ?_
  try simp only [Act.put, List.setIfInBounds_toArray, List.set_cons_zero, List.set_cons_succ]
  refine Tail.take 6 rfl (by kernel_rfl) (fun _ _ _ h => h) (by rfl) HS (fun w hSw => by (try dsimp only at hSw); go_simp; (try with_reducible rfl)) ?_
  try simp only [Act.put, List.setIfInBounds_toArray, List.set_cons_zero, List.set_cons_succ]
  refine Tail.take 7 rfl (by kernel_rfl) (fun _ _ _ h => h) (by rfl) HS (fun w hSw => by (try dsimp only at hSw); go_simp; (try with_reducible rfl)) ?_
  try simp only [Act.put, List.setIfInBounds_toArray, List.set_cons_zero, List.set_cons_succ]
  refine Tail.take 8 rfl (by kernel_rfl) (fun _ _ _ h => h) (by rfl) HS (fun w hSw => by (try dsimp only at hSw); go_simp; (try with_reducible rfl)) ?_
  try simp only [Act.put, List.setIfInBounds_toArray, List.set_cons_zero, List.set_cons_succ]
  refine Tail.take 9 rfl (by kernel_rfl) (fun _ _ _ h => h) (by rfl) HS (fun w hSw => by (try dsimp only at hSw); go_simp; (try with_reducible rfl)) ?_
  try simp only [Act.put, List.setIfInBounds_toArray, List.set_cons_zero, List.set_cons_succ]
  refine Tail.take 10 rfl (by kernel_rfl) (fun _ _ _ h => h) (by rfl) HS (fun w hSw => by (try dsimp only at hSw); go_simp; (try with_reducible rfl)) ?_
  try simp only [Act.put, List.setIfInBounds_toArray, List.set_cons_zero, List.set_cons_succ]
  refine Tail.take 11 rfl (by kernel_rfl) (fun _ _ _ h => h) (by rfl) HS (fun w hSw => by (try dsimp only at hSw); go_simp; (try with_reducible rfl)) ?_
  try simp only [Act.put, List.setIfInBounds_toArray, List.set_cons_zero, List.set_cons_succ]
  refine Tail.take 12 rfl (by kernel_rfl) (fun _ _ _ h => h) (by rfl) HS (fun w hSw => by (try dsimp only at hSw); go_simp; (try with_reducible rfl)) ?_
  try simp only [Act.put, List.setIfInBounds_toArray, List.set_cons_zero, List.set_cons_succ]
  refine Tail.take 13 rfl (by kernel_rfl) (fun _ _ _ h => h) (by rfl) HS (fun w hSw => by (try dsimp only at hSw); go_simp; (try with_reducible rfl)) ?_
  try simp only [Act.put, List.setIfInBounds_toArray, List.set_cons_zero, List.set_cons_succ]
  refine Tail.take 14 rfl (by kernel_rfl) (fun _ _ _ h => h) (by rfl) HS (fun w hSw => by (try dsimp only at hSw); go_simp; (try with_reducible rfl)) ?_
  try simp only [Act.put, List.setIfInBounds_toArray, List.set_cons_zero, List.set_cons_succ]
  refine Tail.take 15 rfl (by kernel_rfl) (fun _ _ _ h => h) (by rfl) HS (fun w hSw => by (try dsimp only at hSw); go_simp; (try with_reducible rfl)) ?_
  try simp only [Act.put, List.setIfInBounds_toArray, List.set_cons_zero, List.set_cons_succ]
  refine Tail.take 18 rfl (by kernel_rfl) (fun _ _ _ h => h) (by rfl) HS (fun w hSw => by (try dsimp only at hSw); go_simp; (try with_reducible rfl)) ?_
  try simp only [Act.put, List.setIfInBounds_toArray, List.set_cons_zero, List.set_cons_succ]
  refine Tail.take 19 rfl (by kernel_rfl) (fun _ _ _ h => h) (by rfl) HS (fun w hSw => by (try dsimp only at hSw); go_simp; (try with_reducible rfl)) ?_
  try simp only [Act.put, List.setIfInBounds_toArray, List.set_cons_zero, List.set_cons_succ]
  -- 16: eff buildSlice
  refine Tail.one 16 rfl (by kernel_rfl) (fun K hK => ?_)
  go_simp
  have HS : (X.alloc (.cells #[.int .i64 a, .int .i64 b, .int .i64 (c : Int), .int .i64 d, .int .i64 nw] 67)).drew.cell? ⟨w.heap.size, 0, none⟩ = some (.int .i64 a) ∧ (X.alloc (.cells #[.int .i64 a, .int .i64 b, .int .i64 (c : Int), .int .i64 d, .int .i64 nw] 67)).drew.cell? ⟨w.heap.size, 1, none⟩ = some (.int .i64 b) ∧ (X.alloc (.cells #[.int .i64 a, .int .i64 b, .int .i64 (c : Int), .int .i64 d, .int .i64 nw] 67)).drew.cell? ⟨w.heap.size, 2, none⟩ = some (.int .i64 (c : Int)) ∧ (X.alloc (.cells #[.int .i64 a, .int .i64 b, .int .i64 (c : Int), .int .i64 d, .int .i64 nw] 67)).drew.cell? ⟨w.heap.size, 3, none⟩ = some (.int .i64 d) ∧
      (X.alloc (.cells #[.int .i64 a, .int .i64 b, .int .i64 (c : Int), .int .i64 d, .int .i64 nw] 67)).drew.cell? ⟨p, 4, none⟩ = some (.int .i64 nw) ∧ (X.alloc (.cells #[.int .i64 a, .int .i64 b, .int .i64 (c : Int), .int .i64 d, .int .i64 nw] 67)).drew.cell? ⟨p, 6 + c, none⟩ = some (.slice A L cap) := six_kept ((Kept.refl (fun _ => False) X.drew).alloc _) HSX (fun _ h => h.elim)
  refine hK.out _ _ HS ?_
  clear hK K
  try simp only [Act.put, List.setIfInBounds_toArray, List.set_cons_zero, List.set_cons_succ]
  -- 17: call call { callee := Callee.builtin Builtin.append, args := #[Operand.tmp 54, Operand.tmp 61],
  refine Tail.one 17 rfl (by kernel_rfl) (fun K hK => ?_)
  refine step_row rfl (.tmp 54) (.tmp 61) 60 rfl 67 (.agg #[.int .i64 0, .int .i64 0, .int .i64 0, .int .i64 0, .int .i64 0]) 5 40 Try.underlying60 info_waiter rfl (by omega) (.slice A L cap) L (flatW (s.q c)) rfl HRW.out _ _ [.int .i64 a, .int .i64 b, .int .i64 (c : Int), .int .i64 d, .int .i64 nw] rfl HRD.out (by simp [Value.oneCell']) (by omega) ?_
  intro v1 w2 hr1 hk1 hn1
  obtain ⟨A1, cap1, rfl⟩ := hr1.shape
  have HS : w2.cell? ⟨w.heap.size, 0, none⟩ = some (.int .i64 a) ∧ w2.cell? ⟨w.heap.size, 1, none⟩ = some (.int .i64 b) ∧ w2.cell? ⟨w.heap.size, 2, none⟩ = some (.int .i64 (c : Int)) ∧ w2.cell? ⟨w.heap.size, 3, none⟩ = some (.int .i64 d) ∧ w2.cell? ⟨p, 4, none⟩ = some (.int .i64 nw) ∧ w2.cell? ⟨p, 6 + c, none⟩ = some (.slice A L cap) := six_kept hk1 HS (fun g hg => HNS.out g hg)
  have HR1 := Lib.hid hr1
  have HK1 := Lib.hid hk1
  have HN1 := Lib.hid hn1
  clear hr1 hk1 hn1
  refine hK.out _ _ HS ?_
  clear hK K
  try simp only [Act.put, List.setIfInBounds_toArray, List.set_cons_zero, List.set_cons_succ]
  refine Tail.tail 20 rfl (by kernel_rfl) ?_
  simp only [List.drop_succ_cons, List.drop_zero]
  obtain ⟨_, _, _, _, _, z5⟩ := HS
  have zf : w2.frozen? ⟨p, 6 + c, none⟩ = false := (HK1.out.frozen (p := ⟨p, 6 + c, none⟩) (Nat.lt_of_lt_of_le hpB ((HKX.out.alloc _).drew.size)) (fun e => (HNS.out p e).2 rfl)).trans ((HGX.out.run ((Kept.refl _ X).alloc _).drew).cells.2.2.2.2.2.2.2.2.2.2.1 _)
  go_wp2_with fail
  go_ret
  refine ⟨rfl, .slice A1 (L + 1) cap1, ?_, ?_⟩
  · have hx : flatW [(a, b, (c : Int), d, nw)] = [.int .i64 a, .int .i64 b, .int .i64 (c : Int), .int .i64 d, .int .i64 nw] := rfl
    have hpq : (push (goes s now) a b c d).q c = s.q c ++ [(a, b, (c : Int), d, nw)] := by rw [HNW.out]; simp [push, goes]
    refine PV.put (HGX.out.run ((Kept.refl _ X).alloc (.cells #[.int .i64 a, .int .i64 b, .int .i64 (c : Int), .int .i64 d, .int .i64 nw] 67)).drew) (s' := push (goes s now) a b c d) hc _ ?_ ?_ ?_ ?_ ?_
    · rw [HV.out]; exact HK1.out
    · rw [hpq, flatW_append, hx, List.length_append, List.length_singleton, ← HL.out]; exact HR1.out
    · rw [HV.out]; exact HN1.out
    · rcases (show c = 0 ∨ c = 1 ∨ c = 2 ∨ c = 3 by omega) with rfl | rfl | rfl | rfl <;> simp [pcells, push, goes]
    · intro k hk
      simp [push, hk]
  · refine Kept.setCell (S := fun g => g = p ∨ isAt (v c) g) ?_ (p := ⟨p, 6 + c, none⟩) (.inl (.inl rfl)) _
    refine Kept.trans (S := fun g => g = p ∨ isAt (v c) g) ((HKX.out.alloc _).drew.mono fun _ _ h => .inl h) HK1.out (fun g _ hg => .inr (by rw [HV.out]; exact hg))
end Go.Proofs.Ytkjjkepiihdihaa.Pace
