/- What Same comes to of two reports that are alike; no condition but the ranges in each. -/
import Derived.Test.YtmedlplgeeeodaaTwCopy
namespace Go.Proofs.Ytmedlplgeeeodaa.Tw
open Go.RowKit Go.Proofs.Ytmedlplgeeeodaa.Plain Go.Proofs.Ytmedlplgeeeodaa.Heap Go.Proofs.Ytmedlplgeeeodaa.Open Go.Proofs.Ytmedlplgeeeodaa.Rows Go.Proofs.Ytmedlplgeeeodaa.Bits
set_option maxHeartbeats 2000000 in
/-- Two lists that read alike. -/
theorem ints_same (A B : Option Addr) (n c d : Nat) (xs : List Int) (w : World) (hr : RI w .i64 A n xs) (hs : RI w .i64 B n xs) :
    Calls Try.prog 29 #[.slice A n c, .slice B n d] w fun e w' => e = .returned (.bool true) ∧ ∃ q, w' = w.drewN q := by
  obtain ⟨hl, hm, hr⟩ := hr
  obtain ⟨_, _, hs⟩ := hs
  have HR := Lib.hid hr
  have HS := Lib.hid hs
  have HL := Lib.hid hl
  clear hr hs hl
  go_enter Try.func29, Try.ntmps29
  go_wp2
  go_loopw [5] (fun i wr => ∃ k q : Nat, k ≤ n ∧ i = .int .i64 k ∧ wr = w.drewN q) (fun i _ => n - (intOf i).toNat)
  case atStart => exact ⟨0, 0, Nat.zero_le _, rfl, rfl⟩
  case round =>
    obtain ⟨k, q, hk, rfl, rfl⟩ := hrel
    by_cases hlt : k < n
    · obtain ⟨b, off, rfl, hblt, hcell⟩ := HR.out (by omega)
      obtain ⟨b', off', rfl, hblt', hcell'⟩ := HS.out (by omega)
      have hc : w.cell? ⟨b, off + k, none⟩ = some (.int .i64 (xs.getD k 0)) := hcell k hlt
      have hc' : w.cell? ⟨b', off' + k, none⟩ = some (.int .i64 (xs.getD k 0)) := hcell' k hlt
      have hz : (k : Int) < (n : Int) := by omega
      clear hcell hcell'
      go_wp2_with fail
      go_quiet (fail)
      go_wp2
      go_roundw
      case rel => exact ⟨k + 1, _, by omega, by go_num, rfl⟩
      case measure => simp [intOf]; omega
    · go_wp2
      go_ret
      exact ⟨rfl, _, rfl⟩
set_option maxRecDepth 10000 in
set_option maxHeartbeats 2000000 in
theorem same_any (v v' : Value) (h : Tw) (w : World) (k : TR w v h) (k' : TR w v' h) (hs : small h) :
    Calls Try.prog 15 #[v, v'] w fun e w' => e = .returned (.bool true) ∧ Below w.heap.size w w' := by
  obtain ⟨A, c, B, d, rfl, k1, k2⟩ := k
  obtain ⟨A', c', B', d', rfl, k3, k4⟩ := k'
  obtain ⟨b0, hb0⟩ : ∃ b0, b0 = w.heap.size := ⟨_, rfl⟩
  obtain ⟨W0, hW0⟩ : ∃ W0, W0 = w.alloc (.cells (tcs h A c B d) 25) := ⟨_, rfl⟩
  have H00 := show TX w W0 b0 h A c B d by rw [hb0]; exact TX.new (Below.refl _ w) k1 k2 hW0
  obtain ⟨b1, hb1⟩ : ∃ b1, b1 = W0.heap.size := ⟨_, rfl⟩
  obtain ⟨W1, hW1⟩ : ∃ W1, W1 = W0.alloc (.cells (tcs h A' c' B' d') 25) := ⟨_, rfl⟩
  have hb01 : Below w.heap.size w W0 := H00.bw
  have H1 := Lib.hid (show TX w W1 b1 h A' c' B' d' by rw [hb1]; exact TX.new hb01 (k3.below hb01) (k4.below hb01) hW1)
  have H0 := Lib.hid (H00.run (w' := W1) (by rw [hW1]; exact (Below.refl _ W0).alloc (Nat.le_refl _) _))
  have hb1' : b1 = b0 + 1 := by rw [hb1, hb0, hW0]; simp
  have HE0 := Lib.hid hb0
  have HE1 := Lib.hid hb1'
  have HW0 := Lib.hid hW0
  have HW1 := Lib.hid hW1
  obtain ⟨n, hn⟩ : ∃ n, n = h.st.length := ⟨_, rfl⟩
  obtain ⟨m, hm⟩ : ∃ m, m = h.ds.length := ⟨_, rfl⟩
  have HI1 := Lib.hid (show RI W1 .i64 A n h.st from RI.of_rd (by rw [hn]; exact H0.out.r1) (by have := hs.1; omega))
  have HI2 := Lib.hid (show RI W1 .i64 A' n h.st from RI.of_rd (by rw [hn]; exact H1.out.r1) (by have := hs.1; omega))
  have HI3 := Lib.hid (show RI W1 .i64 B m h.ds from RI.of_rd (by rw [hm]; exact H0.out.r2) (by have := hs.2; omega))
  have HI4 := Lib.hid (show RI W1 .i64 B' m h.ds from RI.of_rd (by rw [hm]; exact H1.out.r2) (by have := hs.2; omega))
  have HBW := Lib.hid H1.out.bw
  have x0 := H0.out.c0
  have x1 := H0.out.c1
  have x2 := H0.out.c2
  have x3 := H0.out.c3
  have x4 := H0.out.c4
  have x5 := H0.out.c5
  have x6 := H0.out.c6
  have y0 := H1.out.c0
  have y1 := H1.out.c1
  have y2 := H1.out.c2
  have y3 := H1.out.c3
  have y4 := H1.out.c4
  have y5 := H1.out.c5
  have y6 := H1.out.c6
  rw [← hn] at x5 y5
  rw [← hm] at x6 y6
  clear k1 k2 k3 k4 hb0 hW0 H00 hb1 hW1 hb01 hb1' hn hm hs
  go_enter Try.func15, Try.ntmps15
  go_upto_region 1 with fail
  rw [← HW0.out, ← HE0.out, ← HW1.out, ← HE1.out]
  go_wp2_with fail
  refine (ints_same A A' n c c' h.st W1 HI1.out HI2.out).mono ?_
  rintro e W2 ⟨rfl, q, rfl⟩
  go_wp2_with fail
  refine (ints_same B B' m d d' h.ds (W1.drewN q) (HI3.out.kept ((Kept.refl (fun _ => False) W1).drewN q) (fun _ _ _ => id)) (HI4.out.kept ((Kept.refl (fun _ => False) W1).drewN q) (fun _ _ _ => id))).mono ?_
  rintro e W3 ⟨rfl, q2, rfl⟩
  go_wp2_with fail
  go_ret
  exact ⟨rfl, below_drewN HBW.out _⟩
end Go.Proofs.Ytmedlplgeeeodaa.Tw
