/- What Headers comes to where both are alike; no condition but the ranges in each. -/
import Derived.Test.YtccljgohekmjkaaRtpLarge
namespace Go.Proofs.Ytccljgohekmjkaa.Rtp
open Go.RowKit Go.Proofs.Ytccljgohekmjkaa.Plain Go.Proofs.Ytccljgohekmjkaa.Heap Go.Proofs.Ytccljgohekmjkaa.Open Go.Proofs.Ytccljgohekmjkaa.Rows Go.Proofs.Ytccljgohekmjkaa.Bits
set_option maxRecDepth 10000 in
set_option maxHeartbeats 4000000 in
theorem same_any (v v' : Value) (h : Hd) (w : World) (k : HR w v h) (k' : HR w v' h) (hs : small h) :
    Calls Try.prog 13 #[v, v'] w fun e w' => e = .returned (.bool true) ∧ Below w.heap.size w w' := by
  obtain ⟨A, c, B, d, rfl, k1, k2⟩ := k
  obtain ⟨A', c', B', d', rfl, k3, k4⟩ := k'
  obtain ⟨b0, hb0⟩ : ∃ b0, b0 = w.heap.size := ⟨_, rfl⟩
  obtain ⟨W0, hW0⟩ : ∃ W0, W0 = w.alloc (.cells (hcs h A c B d) 26) := ⟨_, rfl⟩
  have hx0 : HX w W0 b0 h A c B d := by rw [hb0]; exact HX.new (Below.refl _ w) k1 k2 hW0
  obtain ⟨b1, hb1⟩ : ∃ b1, b1 = b0 + 1 := ⟨_, rfl⟩
  have hbs : b1 = W0.heap.size := by rw [hb1, hW0, hb0]; simp
  obtain ⟨W, hW⟩ : ∃ W, W = W0.alloc (.cells (hcs h A' c' B' d') 26) := ⟨_, rfl⟩
  have H0 := Lib.hid (show HX w W b0 h A c B d from hx0.run (by rw [hW]; exact (Below.refl _ W0).alloc (Nat.le_refl _) _))
  have H1 := Lib.hid (show HX w W b1 h A' c' B' d' by rw [hbs]; exact HX.new hx0.bw (k3.below hx0.bw) (k4.below hx0.bw) hW)
  have HE := Lib.hid hb0
  have HE0 := Lib.hid hW0
  have HE1 := Lib.hid hb1
  have HEW := Lib.hid hW
  clear k1 k2 k3 k4 hb0 hW0 hx0 hb1 hbs hW
  obtain ⟨n, hn⟩ : ∃ n, n = h.src.length := ⟨_, rfl⟩
  obtain ⟨m, hm⟩ : ∃ m, m = h.xs.length := ⟨_, rfl⟩
  have HN := Lib.hid hn
  have HM := Lib.hid hm
  have hn100 : (n : Int) ≤ 100 := by have := hs.1; omega
  have hm100 : (m : Int) ≤ 100 := by have := hs.2.1; omega
  clear hs
  have x0 := H0.out.c0
  have x1 := H0.out.c1
  have x2 := H0.out.c2
  have x3 := H0.out.c3
  have x4 := H0.out.c4
  have x5 := H0.out.c5
  have x6 := H0.out.c6
  have y0 := H1.out.c0
  have y1 := H1.out.c1
  have y2 := H1.out.c2
  have y3 := H1.out.c3
  have y4 := H1.out.c4
  have y5 := H1.out.c5
  have y6 := H1.out.c6
  rw [← hn] at x5 y5
  rw [← hm] at x6 y6
  clear hn hm
  go_enter Try.func13, Try.ntmps13
  go_upto_region 1 with fail
  rw [← HE0.out, ← HE.out, ← HEW.out, ← HE1.out]
  go_wp2_with fail
  go_loopw [5] (fun iv wx => ∃ i : Nat, (i : Int) ≤ (n : Int) ∧ iv = .int .i64 (i : Int) ∧ Below W.heap.size W wx) (fun iv _ => ((n : Int) - intOf iv).toNat)
  case atStart => exact ⟨0, by omega, rfl, Below.refl _ _⟩
  case round =>
    obtain ⟨i, hi, rfl, hbw⟩ := hrel
    have HB := Lib.hid hbw
    have H0' := Lib.hid (H0.out.run hbw)
    have H1' := Lib.hid (H1.out.run hbw)
    have t5 := H0'.out.c5
    have s5 := H1'.out.c5
    have t6 := H0'.out.c6
    have s6 := H1'.out.c6
    rw [← HN.out] at t5 s5
    rw [← HM.out] at t6 s6
    clear hbw x0 x1 x2 x3 x4 x5 x6 y0 y1 y2 y3 y4 y5 y6
    by_cases hil : (i : Int) < (n : Int)
    · obtain ⟨g, off, x, e, hg, hx, hxm, z0⟩ := src_at H0'.out.r1 (k := i) (by have := HN.out; omega)
      obtain ⟨g', off', x', e', hg', hx', hxm', z0'⟩ := src_at H1'.out.r1 (k := i) (by have := HN.out; omega)
      subst e e'
      rw [hx] at hx'
      injection hx' with hx'
      subst hx'
      clear hx hxm hxm'
      go_upto_region 6 with fail
      go_quiet (fail)
      go_wp2_with fail
      go_roundw
      case rel => exact ⟨i + 1, by omega, by go_num, below_drewN HB.out _⟩
      case measure => exact measN n i hil
    · rename World => X
      have HIN := Lib.hid (show i = n by omega)
      go_wp2_with fail
      clear t5 s5
      go_loopw [6] (fun iv wx => ∃ i : Nat, (i : Int) ≤ (m : Int) ∧ iv = .int .i64 (i : Int) ∧ Below X.heap.size X wx) (fun iv _ => ((m : Int) - intOf iv).toNat)
      case atStart => exact ⟨0, by omega, rfl, Below.refl _ _⟩
      case round =>
        obtain ⟨j, hj, rfl, hbw⟩ := hrel
        have HB2 := Lib.hid hbw
        have H02 := Lib.hid (H0'.out.run hbw)
        have H12 := Lib.hid (H1'.out.run hbw)
        have r6 := H02.out.c6
        have q6 := H12.out.c6
        rw [← HM.out] at r6 q6
        clear hbw t6 s6
        by_cases hjl : (j : Int) < (m : Int)
        · obtain ⟨g, off, x, e, hg, hx, hxm, z0, z1⟩ := ext_at H02.out.r2 (k := j) (by have := HM.out; omega)
          obtain ⟨g', off', x', e', hg', hx', hxm', z0', z1'⟩ := ext_at H12.out.r2 (k := j) (by have := HM.out; omega)
          subst e e'
          rw [hx] at hx'
          injection hx' with hx'
          subst hx'
          obtain ⟨id, dt⟩ := x
          simp only at z0 z1 z0' z1'
          clear hx hxm hxm'
          go_upto_region 11 with fail
          go_quiet (fail)
          go_wp2_with fail
          go_roundw
          case rel => exact ⟨j + 1, by omega, by go_num, below_drewN HB2.out _⟩
          case measure => exact measN m j hjl
        · go_wp2_with fail
          go_ret
          exact ⟨rfl, H02.out.bw⟩
end Go.Proofs.Ytccljgohekmjkaa.Rtp
