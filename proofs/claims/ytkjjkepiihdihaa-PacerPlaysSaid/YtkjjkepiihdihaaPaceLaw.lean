/- The pacer for those who call it; wakes; PacerNone; no condition but the ranges in each. -/
import Derived.Test.YtkjjkepiihdihaaPaceFn5
import Derived.Test.YtkjjkepiihdihaaOpen
namespace Go.Proofs.Ytkjjkepiihdihaa.Pace
open Go.RowKit Go.Proofs.Ytkjjkepiihdihaa.Plain Go.Proofs.Ytkjjkepiihdihaa.Heap Go.Proofs.Ytkjjkepiihdihaa.Rows Go.Proofs.Ytkjjkepiihdihaa.Open

/-- Enqueue. -/
def enq (s : PS) (a b cl d now : Int) : PS × Bool := if 0 ≤ cl ∧ cl < 4 ∧ 0 ≤ d ∧ d ≤ 1500 ∧ ((s.q cl.toNat).length : Int) < s.queue then (push (goes s now) a b cl.toNat d, true) else (goes s now, false)
theorem enq_ok {s : PS} (ok : okP s) (a b cl d now : Int) : okP (enq s a b cl d now).1 := by
  unfold enq
  split
  · rename_i h
    exact push_ok (goes_ok ok now) a b d h.2.2.1 h.2.2.2.1 h.2.2.2.2
  · exact goes_ok ok now
theorem polls_ok : ∀ (n : Nat) {s : PS} (_ : okP s) (f : Int), okP (polls n s f).2
  | 0, _, ok, _ => ok
  | n + 1, s, ok, f => by
    cases h : nxt s f with
    | none => simpa [polls, h] using ok
    | some x =>
      simp only [polls_some h]
      refine polls_ok n (pop_ok ok ?_ ?_) _
      · unfold nxt at h
        split at h
        · cases h
        · rename_i y l hu
          rw [hu]
          split at h
          · cases h
          · injection h with h; subst h; exact List.mem_cons_self ..
      · unfold nxt at h
        split at h
        · cases h
        · rename_i y l hu
          split at h
          · cases h
          · rename_i h2
            injection h with h; subst h; exact fun e => h2 (.inr e)
theorem poll_ok {s : PS} (ok : okP s) (now f : Int) : okP (poll s now f).2 := polls_ok _ (goes_ok ok now) _
/-- The pacer at p, in memory that is not N's; what is N's is as it was in w0. -/
structure PX (N : Nat → Prop) (w0 w : World) (p : Nat) (s : PS) : Prop where
  ok : okP s
  pb : PB 63 N w p s
  kept : Kept (fun g => ¬ N g) w0 w
theorem PX.run {N : Nat → Prop} {w0 w w' : World} {p : Nat} {s : PS} (h : PX N w0 w p s) (hk : Kept (fun _ => False) w w') : PX N w0 w' p s := ⟨h.ok, h.pb.run hk, h.kept.trans hk (fun _ _ e => e.elim)⟩
theorem PX.drew {N : Nat → Prop} {w0 w : World} {p : Nat} {s : PS} (h : PX N w0 w p s) : PX N w0 w.drew p s := h.run (Kept.refl _ w).drew
theorem PX.drewN {N : Nat → Prop} {w0 w : World} {p : Nat} {s : PS} (h : PX N w0 w p s) (n : Nat) : PX N w0 (w.drewN n) p s := h.run ((Kept.refl _ w).drewN n)
theorem PX.alloc {N : Nat → Prop} {w0 w : World} {p : Nat} {s : PS} (h : PX N w0 w p s) (o : Obj) : PX N w0 (w.alloc o) p s := h.run ((Kept.refl _ w).alloc o)
/-- Where nothing but old blocks is N's, all old ones are as they were. -/
theorem PX.below {B : Nat} {w0 w : World} {p : Nat} {s : PS} (h : PX (fun g => g < B) w0 w p s) (hB : B = w0.heap.size) : Below B w0 w := h.kept.below (by omega) (fun _ hi => Nat.le_of_not_lt hi)
theorem new_px (N : Nat → Prop) (b q : Int) (w : World) (b0 : 1500 ≤ b) (b1 : b ≤ 16777216) (q0 : 1 ≤ q) (q1 : q ≤ 256) (hN : ∀ g, N g → g < w.heap.size) : Calls Try.prog 10 #[.int .i64 b, .int .i64 q] w
    fun e w' => ∃ p, e = .returned (.tuple #[.pointer (some ⟨p, 0, none⟩), .int .i64 0]) ∧ PX N w w' p ⟨b * 8000000, b * 8000000, 0, 0, 0, q, fun _ => []⟩ :=
  (new_any N b q w (by omega) (by omega) (by omega) (by omega) hN).mono fun e w' ⟨p, he, h, _, hb⟩ => ⟨p, he, ⟨⟨by show (0 : Int) ≤ b * 8000000; omega, by show b * 8000000 ≤ (134217728000000 : Int); omega, by show (0 : Int) ≤ b * 8000000; omega, Int.le_refl _, Int.le_refl _, by show (0 : Int) ≤ 17179869184; omega, Int.le_refl _, by show (0 : Int) ≤ 1099511627776; omega, Int.le_refl _, by show (0 : Int) ≤ 1125899906842624; omega, q0, q1, fun _ _ => by show ((([] : List W5).length : Nat) : Int) ≤ q; simp; omega, fun _ _ x hx => by cases hx⟩, h, Kept.of_below hb⟩⟩
theorem PX.set {N : Nat → Prop} {w0 w : World} {p : Nat} {s : PS} (h : PX N w0 w p s) (rate window now : Int) : Calls Try.prog 12 #[.pointer (some ⟨p, 0, none⟩), .int .i64 rate, .int .i64 window, .int .i64 now] w
    fun e w' => e = .returned (.tuple #[]) ∧ PX N w0 w' p (setp s rate window now) := by
  obtain ⟨ok, ⟨v, hv⟩, hk⟩ := h
  exact (set_any N rate window now p v w s hv ok).mono fun e w' ⟨he, h2, k2⟩ => ⟨he, setp_ok ok _ _ _, ⟨v, h2⟩, hk.trans k2 fun g _ e => by subst e; exact hv.np⟩
theorem PX.enqueue {N : Nat → Prop} {w0 w : World} {p : Nat} {s : PS} (h : PX N w0 w p s) (a b cl d now : Int) : Calls Try.prog 14 #[.pointer (some ⟨p, 0, none⟩), .agg #[.int .i64 a, .int .i64 b, .int .i64 cl, .int .i64 d], .int .i64 now] w
    fun e w' => e = .returned (.bool (enq s a b cl d now).2) ∧ PX N w0 w' p (enq s a b cl d now).1 := by
  obtain ⟨ok, ⟨v, hv⟩, hk⟩ := h
  have hok := enq_ok ok a b cl d now
  have no : ¬ (0 ≤ cl ∧ cl < 4 ∧ 0 ≤ d ∧ d ≤ 1500 ∧ ((s.q cl.toNat).length : Int) < s.queue) → enq s a b cl d now = (goes s now, false) := fun h => by unfold enq; rw [if_neg h]
  have yes : (0 ≤ cl ∧ cl < 4 ∧ 0 ≤ d ∧ d ≤ 1500 ∧ ((s.q cl.toNat).length : Int) < s.queue) → enq s a b cl d now = (push (goes s now) a b cl.toNat d, true) := fun h => by unfold enq; rw [if_pos h]
  by_cases hc : 0 ≤ cl ∧ cl < 4
  · obtain ⟨c, rfl⟩ : ∃ c : Nat, cl = (c : Int) := ⟨cl.toNat, by omega⟩
    by_cases hd : 0 ≤ d ∧ d ≤ 1500
    · by_cases hl : ((s.q c).length : Int) < s.queue
      · have e := yes ⟨hc.1, hc.2, hd.1, hd.2, by simpa using hl⟩
        rw [e] at hok ⊢
        exact (enq_take N a b d now c p v w s hv ok (by omega) (by simpa using hd.1) (by simpa using hd.2) hl).mono fun e w' ⟨he, u, h2, k2⟩ => ⟨he, hok, ⟨_, by simpa using h2⟩, hk.trans k2 fun g _ e => by
          rcases e with e | e
          · subst e; exact hv.np
          · exact fun hn => (hv.own c (by omega) g e).1 hn⟩
      · have e := no fun h => hl (by simpa using h.2.2.2.2)
        rw [e] at hok ⊢
        exact (enq_full N a b d now c p v w s hv ok (by omega) (by simpa using hd.1) (by simpa using hd.2) (by have := ok.len c (by omega); omega)).mono fun e w' ⟨he, h2, k2⟩ => ⟨he, hok, ⟨v, h2⟩, hk.trans k2 fun g _ e => by subst e; exact hv.np⟩
    · have e := no fun h => hd ⟨h.2.2.1, h.2.2.2.1⟩
      rw [e] at hok ⊢
      refine (enq_walk N a b c d now p v w s hv ok ?_).mono fun e w' ⟨he, h2, k2⟩ => ⟨he, hok, ⟨v, h2⟩, hk.trans k2 fun g _ e => by subst e; exact hv.np⟩
      by_cases h0 : d < 0
      · exact .inr (.inr (.inl ⟨by simp, by simp; omega, by simpa using h0⟩))
      · exact .inr (.inr (.inr ⟨by simp, by simp; omega, by simpa using h0, by simp; omega⟩))
  · have e := no fun h => hc ⟨h.1, h.2.1⟩
    rw [e] at hok ⊢
    refine (enq_walk N a b cl d now p v w s hv ok ?_).mono fun e w' ⟨he, h2, k2⟩ => ⟨he, hok, ⟨v, h2⟩, hk.trans k2 fun g _ e => by subst e; exact hv.np⟩
    by_cases h0 : cl < 0
    · exact .inl (by simpa using h0)
    · exact .inr (.inl ⟨by simpa using h0, by simp; omega⟩)
theorem PX.polling {N : Nat → Prop} {w0 w : World} {p : Nat} {s : PS} (h : PX N w0 w p s) (now f : Int) : Calls Try.prog 15 #[.pointer (some ⟨p, 0, none⟩), .int .i64 now, .int .i64 f] w
    fun e w' => ∃ A c, e = .returned (.slice A (poll s now f).1.length c) ∧ RW w' 4 (.slice A (poll s now f).1.length c) (poll s now f).1.length (flat4 (poll s now f).1) ∧ (∀ g, isAt (.slice A (poll s now f).1.length c) g → w.heap.size ≤ g) ∧ PX N w0 w' p (poll s now f).2 ∧ Kept (fun g => ¬ N g) w w' := by
  obtain ⟨ok, ⟨v, hv⟩, hk⟩ := h
  exact (poll_walk N now f p v w s hv ok).mono fun e w' ⟨ov, v', he, h1, h2, h3, h4, _, k2⟩ => by
    obtain ⟨A, c, rfl⟩ := h1.shape
    have k3 : Kept (fun g => ¬ N g) w w' := k2.mono fun g _ e => by subst e; exact hv.np
    exact ⟨A, c, he, h1, h2, ⟨h4, ⟨v', h3⟩, hk.trans k3 fun _ _ h => h⟩, k3⟩
theorem PX.waiting {N : Nat → Prop} {w0 w : World} {p : Nat} {s : PS} (h : PX N w0 w p s) : Calls Try.prog 18 #[.pointer (some ⟨p, 0, none⟩)] w
    fun e w' => e = .returned (.tuple #[.int .i64 ((upto s 4).length : Int), .int .i64 (szs (upto s 4))]) ∧ PX N w0 w' p s := by
  obtain ⟨v, hv⟩ := h.pb
  exact (waiting_any N p v w s hv h.ok).mono fun e w' ⟨he, k2⟩ => ⟨he, h.run k2⟩
theorem PX.age {N : Nat → Prop} {w0 w : World} {p : Nat} {s : PS} (h : PX N w0 w p s) (now : Int) : Calls Try.prog 25 #[.pointer (some ⟨p, 0, none⟩), .int .i64 now] w
    fun e w' => e = .returned (.int .i64 (ages (clampT s now) (upto s 4))) ∧ PX N w0 w' p s := by
  obtain ⟨v, hv⟩ := h.pb
  exact (age_any N now p v w s hv h.ok).mono fun e w' ⟨he, k2⟩ => ⟨he, h.run k2⟩
theorem PX.spare {N : Nat → Prop} {w0 w : World} {p : Nat} {s : PS} (h : PX N w0 w p s) : Calls Try.prog 27 #[.pointer (some ⟨p, 0, none⟩)] w
    fun e w' => e = .returned (.int .i64 (s.credit / 8000000)) ∧ w = w' := by
  obtain ⟨v, hv⟩ := h.pb
  exact spare_any N p v w s hv h.ok
theorem wakes_any (w : World) : Calls Try.prog 16 #[] w fun e w' => e = .returned (.bool true) ∧ Below w.heap.size w w' := by
  go_enter Try.func16, Try.ntmps16
  go_wp2_with fail
  refine (new_px (fun g => g < w.heap.size) 1500 9 w (by omega) (by omega) (by omega) (by omega) (fun _ h => h)).mono ?_
  rintro e w1 ⟨p, rfl, h1⟩
  obtain ⟨s1, hs1⟩ : ∃ s1, s1 = setp ⟨1500 * 8000000, 1500 * 8000000, 0, 0, 0, 9, fun _ => []⟩ 8000000 100000 0 := ⟨_, rfl⟩
  obtain ⟨s2, hs2⟩ : ∃ s2, s2 = (enq s1 1 0 0 1000 0).1 := ⟨_, rfl⟩
  obtain ⟨s3, hs3⟩ : ∃ s3, s3 = (enq s2 2 0 0 1000 0).1 := ⟨_, rfl⟩
  obtain ⟨s4, hs4⟩ : ∃ s4, s4 = (poll s3 0 0).2 := ⟨_, rfl⟩
  obtain ⟨s5, hs5⟩ : ∃ s5, s5 = (poll s4 499 1000).2 := ⟨_, rfl⟩
  have l4 : (poll s3 0 0).1.length = 1 := by rw [hs3, hs2, hs1]; decide +kernel
  have l5 : (poll s4 499 1000).1.length = 0 := by rw [hs4, hs3, hs2, hs1]; decide +kernel
  have l6 : (poll s5 500 1000).1.length = 1 := by rw [hs5, hs4, hs3, hs2, hs1]; decide +kernel
  have h1 := h1.set 8000000 100000 0
  rw [← hs1] at h1
  have H1 := Lib.hid h1
  have H2 := Lib.hid hs2
  have H3 := Lib.hid hs3
  have H4 := Lib.hid hs4
  have H5 := Lib.hid hs5
  have L4 := Lib.hid l4
  have L5 := Lib.hid l5
  have L6 := Lib.hid l6
  clear h1 hs1 hs2 hs3 hs4 hs5 l4 l5 l6
  go_wp2_with fail
  refine H1.out.mono ?_
  rintro e w2 ⟨rfl, h2⟩
  have h2 := h2.enqueue 1 0 0 1000 0
  rw [← H2.out] at h2
  have HX2 := Lib.hid h2
  clear h2
  go_wp2_with fail
  refine HX2.out.mono ?_
  rintro e w3 ⟨rfl, h3⟩
  have h3 := h3.enqueue 2 0 0 1000 0
  rw [← H3.out] at h3
  have HX3 := Lib.hid h3
  clear h3
  go_wp2_with fail
  refine HX3.out.mono ?_
  rintro e w4 ⟨rfl, h4⟩
  have h4 := h4.polling 0 0
  rw [← H4.out, L4.out] at h4
  have HX4 := Lib.hid h4
  clear h4
  go_wp2_with fail
  refine HX4.out.mono ?_
  rintro e w5 ⟨A5, c5, rfl, _, _, h5, _⟩
  have h5 := h5.polling 499 1000
  rw [← H5.out, L5.out] at h5
  have HX5 := Lib.hid h5
  clear h5
  go_wp2_with fail
  refine HX5.out.mono ?_
  rintro e w6 ⟨A6, c6, rfl, _, _, h6, _⟩
  have h6 := h6.polling 500 1000
  rw [L6.out] at h6
  have HX6 := Lib.hid h6
  clear h6
  go_wp2_with fail
  refine HX6.out.mono ?_
  rintro e w7 ⟨A7, c7, rfl, _, _, h7, _⟩
  have HX7 := Lib.hid h7
  clear h7
  go_wp2_with fail
  go_ret
  exact ⟨rfl, HX7.out.below rfl⟩
set_option maxHeartbeats 1000000 in
theorem PacerNone_any (cs : Array Value) (z : Int × (Int × Int × Int × Int) × Int × Int × Int × Int) (w : World) (h : rTwo (rInt .i64) (rTwo (rTwo (rInt .i64) (rTwo (rInt .i64) (rTwo (rInt .i64) (rInt .i64)))) (rTwo (rInt .i64) (rTwo (rInt .i64) (rTwo (rInt .i64) (rInt .i64))))) w cs.toList z) :
    Calls Try.prog 9 #[.agg cs] w fun e w' => e = .returned (.bool true) ∧ Below w.heap.size w w' := by
  obtain ⟨k, pz, r, wd, fl, nw⟩ := z
  obtain ⟨x1, x2, x3, x4⟩ := pz
  obtain ⟨_, _, e0, ⟨rfl, _⟩, _, _, rfl, ⟨_, _, rfl, ⟨rfl, _⟩, _, _, rfl, ⟨rfl, _⟩, _, _, rfl, ⟨rfl, _⟩, ⟨rfl, _⟩⟩, _, _, rfl, ⟨rfl, _⟩, _, _, rfl, ⟨rfl, _⟩, _, _, rfl, ⟨rfl, _⟩, ⟨rfl, _⟩⟩ := h
  obtain rfl : cs = #[.int .i64 k, .int .i64 x1, .int .i64 x2, .int .i64 x3, .int .i64 x4, .int .i64 r, .int .i64 wd, .int .i64 fl, .int .i64 nw] := by
    apply Array.ext'
    simpa using e0
  clear e0
  go_enter Try.func9, Try.ntmps9
  go_wp2_with (first
    | (go_at_call 12; refine (set_nil _ _ _ _).mono ?_; rintro e w1 ⟨rfl, rfl⟩)
    | (go_at_call 18; refine (waiting_nil _).mono ?_; rintro e w1 ⟨rfl, rfl⟩)
    | (go_at_call 14; refine (enqueue_nil _ _ _ _ _ _).mono ?_; rintro e w1 ⟨rfl, rfl⟩)
    | (go_at_call 15; refine (poll_nil _ _ _).mono ?_; rintro e w1 ⟨rfl, rfl⟩)
    | (go_at_call 25; refine (age_nil _ _).mono ?_; rintro e w1 ⟨rfl, rfl⟩)
    | (go_at_call 27; refine (spare_nil _).mono ?_; rintro e w1 ⟨rfl, rfl⟩)
    | (go_at_call 16; refine (wakes_any _).mono ?_; rintro e w1 ⟨rfl, hb⟩))
  go_ret
  exact ⟨rfl, below_then (((Below.refl _ w).alloc (Nat.le_refl _) _).alloc (by simp) _) (by simp; omega) hb⟩
end Go.Proofs.Ytkjjkepiihdihaa.Pace
