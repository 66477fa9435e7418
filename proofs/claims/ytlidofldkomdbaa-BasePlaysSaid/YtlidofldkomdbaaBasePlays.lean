/- BasePlays: what it comes to; no condition but what data there is. -/
import Derived.Test.YtlidofldkomdbaaBaseRef4
namespace Go.Proofs.Ytlidofldkomdbaa.Base
open Go.RowKit Go.Proofs.Ytlidofldkomdbaa.Plain Go.Proofs.Ytlidofldkomdbaa.Heap Go.Proofs.Ytlidofldkomdbaa.Open

/-- A base and the reference's, of the call's own. -/
structure PR2 (B : Nat) (w0 w : World) (p q : Nat) (s : BS) (r : RS) : Prop where
  ne : p ≠ q
  bp : B ≤ p
  bq : B ≤ q
  sz : B ≤ w.heap.size
  below : Below B w0 w
  l : BR w p s
  r : ∃ A n c, QR w q r (.slice A n c) ∧ r.l.length = n ∧ Rd w 2 A n (flat r.l) ∧ ∀ b off, A = some ⟨b, off, none⟩ → b ≠ p ∧ b ≠ q
section
variable {B : Nat} {w0 w : World} {p q : Nat} {s : BS} {r : RS}
theorem PR2.run (h : PR2 B w0 w p q s r) {w' : World} (hb : Below w.heap.size w w') : PR2 B w0 w' p q s r := by
  obtain ⟨A, n, c, h1, h2, h3, h4⟩ := h.r
  have hk := Kept.of_below (S := fun _ => False) hb
  exact ⟨h.ne, h.bp, h.bq, Nat.le_trans h.sz hb.size, below_then h.below h.sz hb, h.l.kept hk id, A, n, c, h1.kept hk id, h2, h3.kept hk (fun _ _ _ => id), h4⟩
theorem PR2.left (h : PR2 B w0 w p q s r) (ok : okB s) (at_ delay : Int) : Calls Try.prog 10 #[.pointer (some ⟨p, 0, none⟩), .int .i64 at_, .int .i64 delay] w
    fun e w' => e = .returned (.int .i64 (bstep s at_ delay).2) ∧ PR2 B w0 w' p q (bstep s at_ delay).1 r := by
  obtain ⟨A, n, c, h1, h2, h3, h4⟩ := h.r
  exact (add_br at_ delay p w s h.l ok).mono fun _ _ ⟨k1, k2, k3⟩ => ⟨k1, h.ne, h.bp, h.bq, Nat.le_trans h.sz k3.size, h.below.trans (k3.below h.sz (fun i hi => by rw [hi]; exact h.bp)), k2, A, n, c, h1.kept k3 (fun e => h.ne e.symm), h2, h3.kept k3 (fun b off e => (h4 b off e).1), h4⟩
theorem PR2.right (h : PR2 B w0 w p q s r) (hm : r.l.length ≤ 1000) (hw : 1 ≤ r.width) (hr0 : 1 ≤ r.rows) (hr1 : r.rows ≤ 64) (hn0 : 0 ≤ r.newest) (hn1 : r.newest ≤ 1125899906842624) (hok : rok r.l)
    (at_ delay N D : Int) (hN : hold at_ 0 1125899906842624 / r.width = N) (hD : hold delay (-1125899906842624) 1125899906842624 = D) : Calls Try.prog 14 #[.pointer (some ⟨q, 0, none⟩), .int .i64 at_, .int .i64 delay] w
    fun e w' => e = .returned (.int .i64 (rstep r N D).queue) ∧ PR2 B w0 w' p q s (rstep r N D) := by
  obtain ⟨A, n, c, h1, h2, h3, h4⟩ := h.r
  have hp : p < w.heap.size := h.l.lt
  have hq : q < w.heap.size := h1.cells.2.2.2.2.2.2.2
  exact (ref_add q w r A n c h1 h2 h3 (fun b off e => (h4 b off e).2) (by omega) hw hr0 hr1 hn0 hn1 hok at_ delay N D hN hD).mono fun _ _ ⟨k1, ⟨A', n', c', g1, g2, g3, g4⟩, k3⟩ =>
    ⟨k1, h.ne, h.bp, h.bq, Nat.le_trans h.sz k3.size, h.below.trans (k3.below h.sz (fun i hi => by rw [hi]; exact h.bq)), h.l.kept k3 h.ne, A', n', c', g1, g2, g3, fun b off e => by have := g4 _ e; simp only at this; omega⟩
theorem PR2.least (h : PR2 B w0 w p q s r) (ok : okB s) : Calls Try.prog 11 #[.pointer (some ⟨p, 0, none⟩)] w
    fun e w' => e = .returned (.tuple #[.int .i64 (lst s s.rows.toNat).1, .bool (lst s s.rows.toNat).2]) ∧ PR2 B w0 w' p q s r := by
  have e0 := ok.rows0
  have e1 := ok.rows1
  have e2 := ok.new0
  have e3 := ok.new1
  exact (least_any p w s h.l s.rows.toNat (by omega) (by omega) (by omega) (IntWalk.i64_in _ (by omega))).mono fun _ _ ⟨h1, h2⟩ => ⟨h1, h.run h2⟩
theorem PR2.queue (h : PR2 B w0 w p q s r) : Calls Try.prog 16 #[.pointer (some ⟨p, 0, none⟩)] w
    fun e w' => e = .returned (.int .i64 s.queue) ∧ PR2 B w0 w' p q s r :=
  (queue_any p w s h.l).mono fun _ _ ⟨h1, h2⟩ => ⟨h1, h2 ▸ h⟩
theorem PR2.rqueue (h : PR2 B w0 w p q s r) : Calls Try.prog 17 #[.pointer (some ⟨q, 0, none⟩)] w
    fun e w' => e = .returned (.int .i64 r.queue) ∧ PR2 B w0 w' p q s r := by
  obtain ⟨A, n, c, h1, h2, h3, h4⟩ := h.r
  exact (ref_queue q w r _ h1).mono fun _ _ ⟨k1, k2⟩ => ⟨k1, k2 ▸ h⟩
theorem PR2.rleast (h : PR2 B w0 w p q s r) (hm : r.l.length ≤ 1000) : Calls Try.prog 15 #[.pointer (some ⟨q, 0, none⟩)] w
    fun e w' => e = .returned (.tuple #[.int .i64 (Base.rleast r.l).1, .bool (Base.rleast r.l).2]) ∧ PR2 B w0 w' p q s r := by
  obtain ⟨A, n, c, h1, h2, h3, h4⟩ := h.r
  exact (ref_least q w r A n c h1 h2 h3 (by omega)).mono fun _ _ ⟨k1, k, k2⟩ => ⟨k1, k2 ▸ h.run (below_drewN (Below.refl _ _) k)⟩
end
theorem rok_step {r : RS} (h : rok r.l) {N D : Int} (h0 : 0 ≤ N) (h1 : N ≤ 1125899906842624) (h2 : -1125899906842624 ≤ D) (h3 : D ≤ 1125899906842624) : rok (rstep r N D).l := by
  intro x hx
  have hx2 : x ∈ rkeep (rnew r N - r.rows) (r.l ++ [(N, D)]) := hx
  rcases List.mem_append.1 (rkeep_mem.1 hx2).1 with hx | hx
  · exact h x hx
  · simp at hx; rw [hx]; exact ⟨h0, h1, h2, h3⟩
theorem rlen_step (r : RS) (N D : Int) : (rstep r N D).l.length ≤ r.l.length + 1 := by
  have h : (rkeep (rnew r N - r.rows) (r.l ++ [(N, D)])).length ≤ (r.l ++ [(N, D)]).length := rkeep_len _ _
  rw [List.length_append] at h
  exact h
set_option maxHeartbeats 1000000 in
set_option maxRecDepth 10000 in
theorem BasePlays_any (width rows : Int) (A : Option Addr) (n c : Nat) (zs : List (Int × Int)) (w : World) (_ : (Lit.int .i64 width).wf = true) (_ : (Lit.int .i64 rows).wf = true) (h1 : Els 2 (rTwo (rInt .i64) (rInt .i64)) w A n zs) :
    Calls Try.prog 5 #[.int .i64 width, .int .i64 rows, .slice A n c] w fun e w' => e = .returned (.bool true) ∧ Below w.heap.size w w' := by
  have R1 := Lib.hid h1
  clear h1
  by_cases hbad : width < 1 ∨ 1125899906842624 < width ∨ rows < 1 ∨ 64 < rows
  · go_enter Try.func5, Try.ntmps5
    go_wp2_with fail
    refine (new_bad width rows _ hbad).mono ?_
    rintro e w1 ⟨rfl, rfl⟩
    go_wp2_with fail
    refine (ref_new_bad width rows _ hbad).mono ?_
    rintro e w2 ⟨rfl, rfl⟩
    go_wp2_with fail
    go_loopw [11] (fun iv wr => iv = .int .i64 0 ∧ wr = w2) (fun _ _ => 0)
    case atStart => exact ⟨rfl, rfl⟩
    case round =>
      obtain ⟨rfl, rfl⟩ := hrel
      by_cases hn : 0 < n
      · go_wp2_with fail
        refine (wakes_any _).mono ?_
        rintro e w3 ⟨rfl, hb⟩
        go_wp2
        go_ret
        exact ⟨rfl, hb⟩
      · go_wp2_with fail
        refine (wakes_any _).mono ?_
        rintro e w3 ⟨rfl, hb⟩
        go_wp2
        go_ret
        exact ⟨rfl, hb⟩
  · have g1 : ¬ width < 1 := by omega
    have g2 : ¬ 1125899906842624 < width := by omega
    have g3 : ¬ rows < 1 := by omega
    have g4 : ¬ 64 < rows := by omega
    go_enter Try.func5, Try.ntmps5
    go_wp2_with fail
    refine (new_bb width rows _ (by omega) (by omega) (by omega) (by omega)).mono ?_
    rintro e w1 ⟨rfl, h1, h1b⟩
    have H1 := Lib.hid (And.intro h1 h1b); clear h1 h1b
    go_wp2_with fail
    refine (ref_new width rows _ (by omega) (by omega) (by omega) (by omega)).mono ?_
    rintro e w2 ⟨rfl, h2, h2b⟩
    obtain ⟨p, hp⟩ : ∃ p, p = w.heap.size := ⟨_, rfl⟩
    obtain ⟨q, hq⟩ : ∃ q, q = w1.heap.size := ⟨_, rfl⟩
    have hlt : p < q := by
      have := H1.out.1.2.2.2.lt
      omega
    have H2 := Lib.hid (show PR2 w.heap.size w w2 p q (fresh width rows) ⟨width, rows, [], 0, false, 0⟩ from ⟨by omega, by omega, by omega, by have := H1.out.2.size; have := h2b.size; omega, below_then H1.out.2 H1.out.2.size h2b, by rw [hp]; exact H1.out.1.2.2.2.kept (Kept.of_below (S := fun _ => False) h2b) id, none, 0, 0, by rw [hq]; exact h2, rfl, ⟨rfl, fun h => absurd h (by omega)⟩, nofun⟩)
    rw [← hp, ← hq]
    have HP := Lib.hid hp
    have HB0 := Lib.hid (both_new (width := width) (rows := rows) (by omega) (by omega) (by omega))
    clear h2 h2b hp hq H1 hlt hbad g1 g2 g3 g4
    go_wp2_with fail
    go_loopw [11] (fun iv wr => ∃ (i : Nat) (s : BS) (r : RS) (h : List (Int × Int)), i ≤ 100 ∧ iv = .int .i64 (i : Int) ∧ Both s r h ∧ r.l.length ≤ i ∧ rok r.l ∧ PR2 w.heap.size w wr p q s r) (fun iv _ => 100 - (intOf iv).toNat)
    case atStart => exact ⟨0, _, _, _, by omega, rfl, HB0.out, by simp, nofun, H2.out⟩
    case round =>
      obtain ⟨i, s, r, h, hi, rfl, hb, hlen, hrok, hpr⟩ := hrel
      have HB := Lib.hid hb
      have HLen := Lib.hid hlen
      have HRok := Lib.hid hrok
      have HQ := Lib.hid hpr
      clear hb hlen hrok hpr H2 HB0
      by_cases hlt : i < n
      · by_cases hlt2 : (i : Int) < 100
        · obtain ⟨b, off, rfl, hbl, a0, a1, hz, _, _, q0, q1⟩ := smp_at R1.out hlt
          have x0 : wr.cell? ⟨b, off + i * 2, none⟩ = some (.int .i64 a0) := (HQ.out.below.cell (p := ⟨b, off + i * 2, none⟩) hbl).trans q0
          have x1 : wr.cell? ⟨b, off + i * 2 + 1, none⟩ = some (.int .i64 a1) := (HQ.out.below.cell (p := ⟨b, off + i * 2 + 1, none⟩) hbl).trans q1
          have Q0 := Lib.hid q0
          have Q1 := Lib.hid q1
          obtain ⟨N, hN⟩ : ∃ N, hold a0 0 1125899906842624 / s.width = N := ⟨_, rfl⟩
          obtain ⟨D, hD⟩ : ∃ D, hold a1 (-1125899906842624) 1125899906842624 = D := ⟨_, rfl⟩
          have hbN := row_bd HB.out.ok a0
          have hbD := hold_bd a1 (show (-1125899906842624 : Int) ≤ 1125899906842624 by omega)
          rw [hN] at hbN
          rw [hD] at hbD
          have hst := both_step HB.out a0 a1 N D hN hD
          have HSt := Lib.hid hst.1
          have HVal := Lib.hid hst.2
          have hok2 := hst.1.ok
          have HOk2 := Lib.hid hok2
          have HL2 := Lib.hid (both_least hst.1)
          have HQu := Lib.hid hst.1.queue
          have HRok2 := Lib.hid (rok_step HRok.out hbN.1 hbN.2 hbD.1 hbD.2)
          have HLen2 := Lib.hid (show (rstep r N D).l.length ≤ i + 1 from Nat.le_trans (rlen_step r N D) (Nat.succ_le_succ HLen.out))
          have HN := Lib.hid (show hold a0 0 1125899906842624 / r.width = N by rw [HB.out.width]; exact hN)
          have HD := Lib.hid hD
          clear q0 q1 hz hN hD hst hok2 hbN hbD
          go_wp2_with fail
          go_region_held3 (fun w' => w'.cell? ⟨b, off + i * 2, none⟩ = some (.int .i64 a0) ∧ w'.cell? ⟨b, off + i * 2 + 1, none⟩ = some (.int .i64 a1)) (first | exact ⟨x0, x1⟩ | exact Y3 | exact Y4)
            (first
              | (go_at_call 10
                 refine ((HQ.out.run (below_drewN (Below.refl _ _) 1)).left HB.out.ok a0 a1).mono ?_
                 rintro e w3 ⟨rfl, h3⟩
                 have Y3 : w3.cell? ⟨b, off + i * 2, none⟩ = some (.int .i64 a0) ∧ w3.cell? ⟨b, off + i * 2 + 1, none⟩ = some (.int .i64 a1) := ⟨(h3.below.cell (p := ⟨b, off + i * 2, none⟩) hbl).trans Q0.out, (h3.below.cell (p := ⟨b, off + i * 2 + 1, none⟩) hbl).trans Q1.out⟩
                 have H3 := Lib.hid h3
                 rw [HVal.out]
                 clear h3)
              | (go_at_call 14
                 refine (H3.out.right (by have := HLen.out; omega) (by rw [HB.out.width]; exact HB.out.ok.width) (by rw [HB.out.rows]; exact HB.out.ok.rows0) (by rw [HB.out.rows]; exact HB.out.ok.rows1) (by rw [HB.out.newest]; exact HB.out.ok.new0) (by rw [HB.out.newest]; exact HB.out.ok.new1) HRok.out a0 a1 N D HN.out HD.out).mono ?_
                 rintro e w4 ⟨rfl, h4⟩
                 have Y4 : w4.cell? ⟨b, off + i * 2, none⟩ = some (.int .i64 a0) ∧ w4.cell? ⟨b, off + i * 2 + 1, none⟩ = some (.int .i64 a1) := ⟨(h4.below.cell (p := ⟨b, off + i * 2, none⟩) hbl).trans Q0.out, (h4.below.cell (p := ⟨b, off + i * 2 + 1, none⟩) hbl).trans Q1.out⟩
                 have H4 := Lib.hid h4
                 clear h4))
          obtain ⟨X, hX⟩ : ∃ X, X = (rstep r N D).queue := ⟨_, rfl⟩
          rw [← hX]
          have HX := Lib.hid hX
          clear hX
          go_wp2_with fail
          refine (H4.out.least HOk2.out).mono ?_
          rintro e w5 ⟨rfl, h5⟩
          rw [← HL2.out]
          have H5 := Lib.hid h5
          clear h5
          go_wp2_with fail
          refine (H5.out.rleast (by have := HLen2.out; omega)).mono ?_
          rintro e w6 ⟨rfl, h6⟩
          obtain ⟨⟨L, lk⟩, hL⟩ : ∃ x, rleast (rstep r N D).l = x := ⟨_, rfl⟩
          rw [hL]
          have H6 := Lib.hid h6
          clear h6 hL
          go_wp2_with fail
          refine (H6.out.queue).mono ?_
          rintro e w7 ⟨rfl, h7⟩
          rw [← HQu.out]
          have H7 := Lib.hid h7
          clear h7
          go_wp2_with fail
          refine (H7.out.rqueue).mono ?_
          rintro e w8 ⟨rfl, h8⟩
          rw [← HX.out]
          have H8 := Lib.hid h8
          clear h8
          go_wp2_with fail
          go_roundw
          case rel => exact ⟨i + 1, _, _, _, by omega, by go_num, HSt.out, HLen2.out, HRok2.out, H8.out⟩
          case measure => simp [intOf]; omega
        · go_wp2_with fail
          refine (wakes_any _).mono ?_
          rintro e w3 ⟨rfl, hb⟩
          go_wp2
          go_ret
          exact ⟨rfl, below_then HQ.out.below HQ.out.sz hb⟩
      · go_wp2_with fail
        refine (wakes_any _).mono ?_
        rintro e w3 ⟨rfl, hb⟩
        go_wp2
        go_ret
        exact ⟨rfl, below_then HQ.out.below HQ.out.sz hb⟩
end Go.Proofs.Ytlidofldkomdbaa.Base
