/- PacerAlone: without a rate no more than the burst goes; with one, all goes; no condition. -/
import Derived.Test.YtkjjkepiihdihaaPaceLaw2
namespace Go.Proofs.Ytkjjkepiihdihaa.Pace
open Go.RowKit Go.Proofs.Ytkjjkepiihdihaa.Plain Go.Proofs.Ytkjjkepiihdihaa.Heap Go.Proofs.Ytkjjkepiihdihaa.Rows Go.Proofs.Ytkjjkepiihdihaa.Open

/-- What goes is taken off the head, and paid for. -/
theorem polls_acc : ∀ (n : Nat) {s : PS} (_ : okP s) (f : Int), upto s 4 = (polls n s f).1 ++ upto (polls n s f).2 4 ∧ (polls n s f).2.credit = s.credit - szs (polls n s f).1 * 8000000 ∧ (polls n s f).2.window = s.window ∧ (polls n s f).2.rate = s.rate ∧ (polls n s f).2.burst = s.burst ∧ (polls n s f).2.now = s.now ∧ (polls n s f).2.queue = s.queue
  | 0, s, _, f => ⟨rfl, by simp [polls, szs], rfl, rfl, rfl, rfl, rfl⟩
  | n + 1, s, ok, f => by
    cases h : nxt s f with
    | none => rw [polls_none h]; exact ⟨rfl, by simp [szs], rfl, rfl, rfl, rfl, rfl⟩
    | some x =>
      obtain ⟨l, h1, _, h3⟩ := nxt_some h
      have hu := upto_pop ok h1
      obtain ⟨i1, i2, i3, i4, i5, i6, i7⟩ := polls_acc n (pop_okc ok h1 h3) (f + x.2.2.2.1)
      rw [polls_some h]
      refine ⟨by rw [h1, ← hu, List.cons_append, ← i1], ?_, i3, i4, i5, i6, i7⟩
      rw [i2, szs_cons]
      show s.credit - _ - _ = _
      omega
theorem poll_acc {s : PS} (ok : okP s) (now f : Int) : upto s 4 = (poll s now f).1 ++ upto (poll s now f).2 4 ∧ (poll s now f).2.credit = (goes s now).credit - szs (poll s now f).1 * 8000000 ∧ (poll s now f).2.window = s.window ∧ (poll s now f).2.rate = s.rate ∧ (poll s now f).2.burst = s.burst ∧ (poll s now f).2.now = clampT s now ∧ (poll s now f).2.queue = s.queue :=
  polls_acc _ (goes_ok ok now) _
theorem push_upto {s : PS} (a b : Int) {c : Nat} (hc : c < 4) (d : Int) : (upto (push s a b c d) 4).length = (upto s 4).length + 1 ∧ szs (upto (push s a b c d) 4) = szs (upto s 4) + d := by
  rw [upto_sums.1, upto_sums.1, upto_sums.2, upto_sums.2]
  rcases (show c = 0 ∨ c = 1 ∨ c = 2 ∨ c = 3 by omega) with rfl | rfl | rfl | rfl <;> simp [push, szs] <;> exact ⟨by omega, by omega⟩
/-- A pacer without a rate. -/
structure Al (b sum went : Int) (k : Nat) (s : PS) : Prop where
  burst : s.burst = b * 8000000
  window : s.window = 1099511627776
  rate : s.rate = 0
  credit : s.credit = (b - went) * 8000000
  size : szs (upto s 4) + went = sum
  len : (upto s 4).length ≤ k
  queue : s.queue = 256
theorem Al.enq {b sum : Int} {k : Nat} {s : PS} (ok : okP s) (h : Al b sum 0 k s) (hn : s.now = 0) (hk : k < 200) (a d : Int) (hd : 0 ≤ d) (hd2 : d ≤ 1500) : Al b (sum + d) 0 (k + 1) (enq s a 0 0 d 0).1 ∧ (enq s a 0 0 d 0).1.now = 0 := by
  have e1 : goes s 0 = s := by have := goes_same ok; rwa [hn] at this
  have hl : ((s.q 0).length : Int) < s.queue := by
    have h1 := h.len
    rw [upto_sums.1] at h1
    rw [h.queue]
    omega
  have e := enq_yes (s := s) (a := a) (b := 0) (d := d) (now := 0) (c := 0) (by omega) hd hd2 hl
  rw [e1] at e
  rw [show Pace.enq s a 0 0 d 0 = Pace.enq s a 0 ((0 : Nat) : Int) d 0 from rfl, e]
  obtain ⟨p1, p2⟩ := push_upto (s := s) a 0 (c := 0) (by omega) d
  refine ⟨⟨h.burst, h.window, h.rate, h.credit, ?_, ?_, h.queue⟩, hn⟩
  · rw [p2]; have := h.size; omega
  · rw [p1]; have := h.len; omega
theorem Al.goes {b sum went : Int} {k : Nat} {s : PS} (ok : okP s) (h : Al b sum went k s) (now : Int) : (Pace.goes s now).credit = (b - went) * 8000000 := by
  show min (s.credit + s.rate * _) s.burst = _
  rw [h.rate, Int.zero_mul]
  have h1 := ok.credit1
  have h2 := h.credit
  omega
theorem szs_out {s : PS} (ok : okP s) (now f : Int) : 0 ≤ szs (poll s now f).1 := (szs_bd _ (poll_bd ok now f)).1
theorem Al.poll {b sum went : Int} {k : Nat} {s : PS} (ok : okP s) (h : Al b sum went k s) (hk : k ≤ 200) (now : Int) :
    Al b sum (went + szs (poll s now 0).1) k (poll s now 0).2 ∧ went + szs (poll s now 0).1 ≤ b ∧ (sum ≤ b → went + szs (poll s now 0).1 = sum) := by
  obtain ⟨p1, p2, p3, p4, p5, p6, p7⟩ := poll_acc ok now 0
  have hg := h.goes ok now
  have hsz : szs (upto s 4) = szs (Pace.poll s now 0).1 + szs (upto (Pace.poll s now 0).2 4) := by rw [p1, szs_append]
  have hln : (upto s 4).length = (Pace.poll s now 0).1.length + (upto (Pace.poll s now 0).2 4).length := by rw [p1, List.length_append]
  rw [hg] at p2
  have hcr := (poll_ok ok now 0).credit0
  have hs := h.size
  have hl := h.len
  refine ⟨⟨p5.trans h.burst, p3.trans h.window, p4.trans h.rate, ?_, by omega, by omega, p7.trans h.queue⟩, by omega, fun hle => ?_⟩
  · rw [p2]; omega
  · have hb := (upto_bd ok (k := 4) (by omega)).2.2
    have hb0 := (upto_bd ok (k := 4) (by omega)).2.1
    have g := (gate (upto s 4).length (goes_ok ok now) 0 (Nat.le_refl _) (by
      rw [hg]
      show szs (upto s 4) * 8000000 ≤ _
      omega)).2
    have hc : clampI 0 0 1099511627776 = 0 := rfl
    have hpo : Pace.poll s now 0 = polls (upto s 4).length (Pace.goes s now) 0 := by unfold Pace.poll; rw [hc]
    rw [← hpo] at g
    rcases g with g | g
    · rw [g] at hsz
      simp [szs] at hsz hs ⊢
      omega
    · have hw : (Pace.goes s now).window = 1099511627776 := h.window
      rw [hw] at g
      have h2 := (szs_bd _ (polls_bd (upto s 4).length (goes_ok ok now) 0)).2
      have h3 := polls_len (upto s 4).length (Pace.goes s now) 0
      rw [← hpo] at h2 h3
      omega
/-- A pacer with a rate that fills a packet's credit from poll to poll. -/
structure Bl (b sum went r : Int) (k : Nat) (s : PS) : Prop where
  burst : s.burst = b * 8000000
  window : s.window = 1099511627776
  rate : s.rate = r
  size : szs (upto s 4) + went = sum
  len : (upto s 4).length ≤ k
theorem Bl.poll {b sum went r : Int} {k : Nat} {s : PS} (ok : okP s) (h : Bl b sum went r k s) (hk : k ≤ 200) (hb : 1500 ≤ b) (dt now : Int) (hn : now = s.now + dt) (h0 : 0 ≤ dt) (hn2 : now ≤ 1125899906842624) (hr : 12000000000 ≤ r * dt) :
    Bl b sum (went + szs (poll s now 0).1) r (k - 1) (poll s now 0).2 ∧ (poll s now 0).2.now = now := by
  obtain ⟨p1, p2, p3, p4, p5, p6, p7⟩ := poll_acc ok now 0
  have hcl : clampT s now = now := by unfold clampT; rw [if_neg (by omega), if_neg (by omega)]
  have hsz : szs (upto s 4) = szs (Pace.poll s now 0).1 + szs (upto (Pace.poll s now 0).2 4) := by rw [p1, szs_append]
  have hln : (upto s 4).length = (Pace.poll s now 0).1.length + (upto (Pace.poll s now 0).2 4).length := by rw [p1, List.length_append]
  have hs := h.size
  have hl := h.len
  refine ⟨⟨p5.trans h.burst, p3.trans h.window, p4.trans h.rate, by omega, ?_⟩, by rw [p6, hcl]⟩
  cases hu : upto s 4 with
  | nil => rw [hu] at hln; simp at hln; omega
  | cons x l =>
    have hcr : (Pace.goes s now).credit = min (s.credit + r * dt) (b * 8000000) := by
      show min (s.credit + s.rate * (clampT s now - s.now)) s.burst = _
      rw [hcl, h.rate, h.burst, hn, show s.now + dt - s.now = dt by omega]
    have hx := head_bd ok hu
    have hnx : nxt (Pace.goes s now) 0 = some x := by
      have hu2 : upto (Pace.goes s now) 4 = x :: l := hu
      unfold nxt
      rw [hu2]
      simp only
      have hw : (Pace.goes s now).window = 1099511627776 := h.window
      rw [if_neg]
      rw [hw, hcr]
      have h1 := ok.credit0
      generalize r * dt = m at *
      omega
    have hlen : (upto s 4).length = l.length + 1 := by rw [hu]; rfl
    have hpo : Pace.poll s now 0 = polls (l.length + 1) (Pace.goes s now) 0 := by unfold Pace.poll; rw [hlen]; rfl
    have h1 : 1 ≤ (Pace.poll s now 0).1.length := by rw [hpo, polls_some hnx]; simp
    rw [hu] at hln
    simp at hln
    omega
theorem wf_u32 {n : Int} (h : (Lit.int .u32 n).wf = true) : 0 ≤ n ∧ n ≤ 4294967295 := by
  simpa [Lit.wf, IntKind.min, IntKind.max, IntKind.signed, IntKind.bits] using h
theorem szs_take {out : List W5} (h : ∀ x ∈ out, 0 ≤ x.2.2.2.1 ∧ x.2.2.2.1 ≤ 1500) (j : Nat) : 0 ≤ szs (out.take j) ∧ szs (out.take j) ≤ 1500 * (j : Int) := by
  have h1 := szs_bd (out.take j) fun x hx => h x (List.mem_of_mem_take hx)
  have h2 : (out.take j).length ≤ j := List.length_take_le _ _
  omega
set_option maxRecDepth 10000 in
set_option maxHeartbeats 4000000 in
theorem PacerAlone_any (bu : Int) (A : Option Addr) (n c : Nat) (zs : List Int) (ra : Int) (w : World) (hbu : (Lit.int .u16 bu).wf = true) (h1 : Els 1 (rInt .u16) w A n zs) (hra : (Lit.int .u32 ra).wf = true) :
    Calls Try.prog 6 #[.int .u16 bu, .slice A n c, .int .u32 ra] w fun e w' => e = .returned (.bool true) ∧ Below w.heap.size w w' := by
  have R := Lib.hid h1.ints.1
  have U := Lib.hid h1.ints.2
  obtain ⟨u0, u1⟩ := wf_u16 hbu
  obtain ⟨v0, v1⟩ := wf_u32 hra
  obtain ⟨r, hr, hr0, hr1⟩ : ∃ r, 8000 + ra % 10000000 = r ∧ 8000 ≤ r ∧ r ≤ 10008000 := ⟨_, rfl, by omega, by omega⟩
  obtain ⟨m, hm, hm0, hm1⟩ : ∃ m, ra % 10000000 = m ∧ 0 ≤ m ∧ m < 10000000 := ⟨_, rfl, by omega, by omega⟩
  rw [hm] at hr
  obtain ⟨D, hD, hD0, hD1⟩ : ∃ D, 12000000000 / r = D ∧ 0 ≤ D ∧ D ≤ 1500000 := by
    refine ⟨_, rfl, Int.ediv_nonneg (by omega) (by omega), ?_⟩
    have h1 := Int.mul_ediv_self_le (x := 12000000000) (k := r) (by omega)
    have h2 : 8000 * (12000000000 / r) ≤ r * (12000000000 / r) := Int.mul_le_mul_of_nonneg_right hr0 (Int.ediv_nonneg (by omega) (by omega))
    omega
  have hrd : 12000000000 ≤ r * (D + 1) := by
    rw [← hD]
    have h1 := Int.lt_mul_ediv_self_add (x := 12000000000) (k := r) (by omega)
    rw [Int.mul_add, Int.mul_one]
    omega
  have hmt : Int.tmod ra 10000000 = m := by rw [tmod_pos v0]; exact hm
  have hDt : Int.tdiv 12000000000 r = D := by rw [Int.tdiv_eq_ediv_of_nonneg (by omega)]; exact hD
  obtain ⟨b, hb, hb0, hb1⟩ : ∃ b, 1500 + bu = b ∧ 1500 ≤ b ∧ b ≤ 67035 := ⟨_, rfl, by omega, by omega⟩
  have HRD := Lib.hid hrd
  have HD := Lib.hid hD
  have HDT := Lib.hid hDt
  clear h1 hrd hm hD hDt hbu hra
  go_enter Try.func6, Try.ntmps6
  go_wp2_with fail
  refine (new_px (fun g => g < w.heap.size) b 256 w (by omega) (by omega) (by omega) (by omega) (fun _ h => h)).mono ?_
  rintro e w1 ⟨p, rfl, h1⟩
  have H1 := Lib.hid h1
  clear h1
  go_wp2_with fail
  refine (H1.out.set 0 1099511627776 0).mono ?_
  rintro e w2 ⟨rfl, h2⟩
  have HG := Lib.hid (show Al b 0 0 0 (setp ⟨b * 8000000, b * 8000000, 0, 0, 0, 256, fun _ => []⟩ 0 1099511627776 0) ∧ (setp ⟨b * 8000000, b * 8000000, 0, 0, 0, 256, fun _ => []⟩ 0 1099511627776 0).now = 0 from
    ⟨⟨rfl, rfl, rfl, by show min (b * 8000000 + 0 * (0 - 0)) (b * 8000000) = (b - 0) * 8000000; omega, by simp [upto, setp, goes, szs], by simp [upto, setp, goes], rfl⟩, rfl⟩)
  have H2 := Lib.hid h2
  clear h2
  go_wp2_with fail
  go_loopw [10, 11] (fun sv iv wx => ∃ (i : Nat) (s : PS) (sum : Int), (i : Int) ≤ 200 ∧ iv = .int .i64 (i : Int) ∧ sv = .int .i64 sum ∧ 0 ≤ sum ∧ sum ≤ 1500 * (i : Int) ∧ Al b sum 0 i s ∧ s.now = 0 ∧ PX (fun g => g < w.heap.size) w wx p s) (fun _ iv _ => ((200 : Int) - intOf iv).toNat)
  case atStart => exact ⟨0, _, 0, by omega, rfl, rfl, by omega, by omega, HG.out.1, HG.out.2, H2.out⟩
  case round =>
    obtain ⟨i, s, sum, hi, rfl, rfl, hs0, hs1, hg, hnow, hx⟩ := hrel
    have HX := Lib.hid hx
    have HGA := Lib.hid hg
    have HN := Lib.hid hnow
    clear hg hx hnow
    by_cases hgo : (i : Int) < (n : Int) ∧ (i : Int) < 200
    · obtain ⟨hn, h2⟩ := hgo
      obtain ⟨g, off, rfl, hb, hc⟩ := R.out.2.2 (by omega)
      have x1 : wr.cell? ⟨g, off + i, none⟩ = some (.int .u16 (zs.getD i 0)) := ((HX.out.below rfl).cell (p := ⟨g, off + i, none⟩) hb).trans (hc i (by omega))
      obtain ⟨y0, y1⟩ := wf_u16 (U.out i (by omega))
      obtain ⟨y, hy⟩ : ∃ y, y = zs.getD i 0 := ⟨_, rfl⟩
      rw [← hy] at x1 y0 y1
      obtain ⟨q, hq, hq0, hq1⟩ : ∃ q, y % 1500 = q ∧ 0 ≤ q ∧ q < 1500 := ⟨_, rfl, by omega, by omega⟩
      have hmt : Int.tmod y 1500 = q := by rw [tmod_pos y0]; exact hq
      have G2 := Lib.hid (HGA.out.enq HX.out.ok HN.out (by omega) (i : Int) (1 + q) (by omega) (by omega))
      clear hy hc hq
      go_wp2_with fail
      refine (HX.out.enqueue (i : Int) 0 0 (1 + q) 0).mono ?_
      rintro e w3 ⟨rfl, h3⟩
      have H3 := Lib.hid h3
      clear h3
      go_wp2_with fail
      go_roundw
      case rel => exact ⟨i + 1, _, sum + (1 + q), by omega, by go_num, rfl, by omega, by omega, G2.out.1, G2.out.2, H3.out⟩
      case measure => exact meas4 200 i h2
    · have hgo : ¬ (i : Int) < (n : Int) ∨ ((i : Int) < (n : Int) ∧ ¬ (i : Int) < 200) := by omega
      have hsum : sum ≤ 300000 := by omega
      have HA := Lib.hid (show Al b sum 0 200 s from ⟨HGA.out.burst, HGA.out.window, HGA.out.rate, HGA.out.credit, HGA.out.size, by have := HGA.out.len; omega, HGA.out.queue⟩)
      rcases hgo with hgo | ⟨hgo, hgo2⟩
      all_goals
        go_wp2_with fail
        go_loopw [13, 14] (fun gv iv wx => ∃ (i : Nat) (s : PS) (went : Int), (i : Int) ≤ 3 ∧ iv = .int .i64 (i : Int) ∧ gv = .int .i64 went ∧ 0 ≤ went ∧ went ≤ b ∧ Al b sum went 200 s ∧ s.now ≤ 2000000 ∧ (1 ≤ i → sum ≤ b → went = sum) ∧ PX (fun g => g < w.heap.size) w wx p s) (fun _ iv _ => ((3 : Int) - intOf iv).toNat)
        case atStart => exact ⟨0, s, 0, by omega, rfl, rfl, by omega, by omega, HA.out, by have := HN.out; omega, by omega, HX.out⟩
        case round =>
          obtain ⟨i2, s2, went, hi2, rfl, rfl, hw0, hw1, hg2, hnow2, hall2, hx2⟩ := hrel
          have HX2 := Lib.hid hx2
          have HA2 := Lib.hid hg2
          clear hg2 hx2
          by_cases h3 : (i2 : Int) < 3
          · have ga := HA2.out.poll HX2.out.ok (by omega) ((i2 : Int) * 1000000)
            have hn3 := (poll_acc HX2.out.ok ((i2 : Int) * 1000000) 0).2.2.2.2.2.1
            have hn4 : clampT s2 ((i2 : Int) * 1000000) ≤ 2000000 := by unfold clampT; split <;> (try split) <;> omega
            rw [← hn3] at hn4
            clear hn3
            have hp := HX2.out.polling ((i2 : Int) * 1000000) 0
            have hle := poll_len HX2.out.ok ((i2 : Int) * 1000000) 0
            have hbd := poll_bd HX2.out.ok ((i2 : Int) * 1000000) 0
            obtain ⟨out, ho⟩ : ∃ out, out = (poll s2 ((i2 : Int) * 1000000) 0).1 := ⟨_, rfl⟩
            obtain ⟨s3, hs3⟩ : ∃ s3, s3 = (poll s2 ((i2 : Int) * 1000000) 0).2 := ⟨_, rfl⟩
            rw [← ho] at hp ga hle hbd
            rw [← hs3] at hp ga hn4
            obtain ⟨L, hL⟩ : ∃ L, L = out.length := ⟨_, rfl⟩
            rw [← hL] at hp hle
            have HL := Lib.hid hL
            have HPo := Lib.hid hp
            have GA3 := Lib.hid ga
            have HBD := Lib.hid hbd
            have hle' : (L : Int) ≤ 1024 := by omega
            clear hp ga ho hbd hle hL
            clear hall2 hs3
            go_wp2_with fail
            refine HPo.out.mono ?_
            rintro e w4 ⟨A4, c4, rfl, hr, _, h4, _⟩
            have HR := Lib.hid hr
            have H4 := Lib.hid h4
            clear hr h4
            go_wp2_with fail
            go_loopw [13, 16] (fun sv iv wx => ∃ j : Nat, (j : Int) ≤ (L : Int) ∧ iv = .int .i64 (j : Int) ∧ sv = .int .i64 (went + szs (out.take j)) ∧ wx = w4) (fun _ iv _ => ((L : Int) - intOf iv).toNat)
            case atStart => exact ⟨0, by omega, rfl, by simp [szs], rfl⟩
            case round =>
              obtain ⟨j, hj, rfl, rfl, rfl⟩ := hrel
              obtain ⟨b0, b1⟩ := szs_take HBD.out j
              obtain ⟨S, hS⟩ : ∃ S, S = szs (out.take j) := ⟨_, rfl⟩
              rw [← hS] at b0 b1
              rw [← hS]
              have HS := Lib.hid hS
              clear hS
              by_cases hjl : (j : Int) < (L : Int)
              · obtain ⟨g, off, x, rfl, hx, _, x0, x2, x3⟩ := out_at HR.out (i := j) (by omega)
                obtain ⟨z0, z1⟩ := HBD.out x (List.mem_of_getElem? hx)
                have HT := Lib.hid (szs_snoc _ _ _ hx)
                obtain ⟨x1', x2', x3', z, x5'⟩ := x
                simp only at x0 x2 x3 z0 z1
                clear hx
                go_wp2_with fail
                go_roundw
                case rel => exact ⟨j + 1, by omega, by go_num, by rw [HT.out, ← HS.out]; go_num, trivial⟩
                case measure => exact meas4 L j hjl
              · have hjL : j = L := by omega
                have hall : out.take j = out := by rw [hjL, HL.out]; exact List.take_length
                rw [hall] at HS
                clear hall
                go_wp2_with fail
                go_roundw
                case rel =>
                  rw [HS.out]
                  exact ⟨i2 + 1, s3, went + szs out, by omega, by go_num, rfl, by have := (szs_bd out HBD.out).1; omega, GA3.out.2.1, GA3.out.1, hn4, fun _ => GA3.out.2.2, H4.out⟩
                case measure => exact meas4 3 i2 h3
          · have hall3 : sum ≤ b → went = sum := hall2 (by omega)
            clear hall2
            have hsz := HA2.out.size
            have hsz0 := (upto_bd HX2.out.ok (k := 4) (by omega)).2.1
            have hB := Lib.hid (show Bl b sum went r 200 (setp s2 r 1099511627776 2000000) ∧ (setp s2 r 1099511627776 2000000).now = 2000000 from
              ⟨⟨HA2.out.burst, rfl, by show clampI r 0 17179869184 = r; unfold clampI; rw [if_neg (by omega), if_neg (by omega)], HA2.out.size, HA2.out.len⟩, by show clampT s2 2000000 = 2000000; unfold clampT; rw [if_neg (by omega), if_neg (by omega)]⟩)
            have hws : went ≤ sum := by omega
            clear hsz hsz0
            have hcase : (sum ≤ b ∧ ((went : Int) != sum) = false) ∨ ¬ sum ≤ b := by
              by_cases h : sum ≤ b
              · exact .inl ⟨h, by simpa using hall3 h⟩
              · exact .inr h
            clear hall3
            rcases hcase with ⟨hsb, hwe⟩ | hsb
            all_goals
              go_wp2_with fail
              refine (HX2.out.set r 1099511627776 2000000).mono ?_
              rintro e w5 ⟨rfl, h5⟩
              have H5 := Lib.hid h5
              clear h5
              go_wp2_with fail
              go_loopw [13, 18, 19] (fun gv nv iv wx => ∃ (i : Nat) (s : PS) (went nw : Int), (i : Int) ≤ 200 ∧ iv = .int .i64 (i : Int) ∧ gv = .int .i64 went ∧ nv = .int .i64 nw ∧ 2000000 ≤ nw ∧ nw ≤ 2000000 + (i : Int) * 1500001 ∧ 0 ≤ went ∧ Bl b sum went r (200 - i) s ∧ s.now = nw ∧ PX (fun g => g < w.heap.size) w wx p s) (fun _ _ iv _ => ((200 : Int) - intOf iv).toNat)
              case atStart => exact ⟨0, _, went, 2000000, by omega, rfl, rfl, rfl, by omega, by omega, hw0, hB.out.1, hB.out.2, H5.out⟩
              case round =>
                clear HX2 H5
                obtain ⟨i2, s2, went, nw, hi2, rfl, rfl, rfl, hnw0, hnw1, hwn0, hg2, hnow2, hx2⟩ := hrel
                have HX2 := Lib.hid hx2
                have HB2 := Lib.hid hg2
                have HN2 := Lib.hid hnow2
                have hws2 : went ≤ sum := by have h1 := hg2.size; have h2 := (upto_bd hx2.ok (k := 4) (by omega)).2.1; omega
                clear hg2 hx2 hnow2
                by_cases h2 : (i2 : Int) < 200
                · have ga := HB2.out.poll HX2.out.ok (by omega) hb0 (D + 1) (nw + (D + 1)) (by rw [HN2.out]) (by omega) (by omega) HRD.out
                  have hdd := HDT.out
                  have hp := HX2.out.polling (nw + (D + 1)) 0
                  have hle := poll_len HX2.out.ok (nw + (D + 1)) 0
                  have hbd := poll_bd HX2.out.ok (nw + (D + 1)) 0
                  obtain ⟨out, ho⟩ : ∃ out, out = (poll s2 (nw + (D + 1)) 0).1 := ⟨_, rfl⟩
                  obtain ⟨s3, hs3⟩ : ∃ s3, s3 = (poll s2 (nw + (D + 1)) 0).2 := ⟨_, rfl⟩
                  rw [← ho] at hp ga hle hbd
                  rw [← hs3] at hp ga
                  obtain ⟨L, hL⟩ : ∃ L, L = out.length := ⟨_, rfl⟩
                  rw [← hL] at hp hle
                  have HL := Lib.hid hL
                  have HPo := Lib.hid hp
                  have GA3 := Lib.hid ga
                  have HBD := Lib.hid hbd
                  have hle' : (L : Int) ≤ 1024 := by omega
                  clear hp ga ho hbd hle hL hs3
                  go_wp2_with fail
                  refine HPo.out.mono ?_
                  rintro e w4 ⟨A4, c4, rfl, hr, _, h4, _⟩
                  have HR := Lib.hid hr
                  have H4 := Lib.hid h4
                  clear hr h4
                  go_wp2_with fail
                  go_loopw [13, 21] (fun sv iv wx => ∃ j : Nat, (j : Int) ≤ (L : Int) ∧ iv = .int .i64 (j : Int) ∧ sv = .int .i64 (went + szs (out.take j)) ∧ wx = w4) (fun _ iv _ => ((L : Int) - intOf iv).toNat)
                  case atStart => exact ⟨0, by omega, rfl, by simp [szs], rfl⟩
                  case round =>
                    obtain ⟨j, hj, rfl, rfl, rfl⟩ := hrel
                    obtain ⟨b0, b1⟩ := szs_take HBD.out j
                    obtain ⟨S, hS⟩ : ∃ S, S = szs (out.take j) := ⟨_, rfl⟩
                    rw [← hS] at b0 b1
                    rw [← hS]
                    have HS := Lib.hid hS
                    clear hS
                    by_cases hjl : (j : Int) < (L : Int)
                    · obtain ⟨g, off, x, rfl, hx, _, x0, x2, x3⟩ := out_at HR.out (i := j) (by omega)
                      obtain ⟨z0, z1⟩ := HBD.out x (List.mem_of_getElem? hx)
                      have HT := Lib.hid (szs_snoc _ _ _ hx)
                      obtain ⟨x1', x2', x3', z, x5'⟩ := x
                      simp only at x0 x2 x3 z0 z1
                      clear hx
                      go_wp2_with fail
                      go_roundw
                      case rel => exact ⟨j + 1, by omega, by go_num, by rw [HT.out, ← HS.out]; go_num, trivial⟩
                      case measure => exact meas4 L j hjl
                    · have hjL : j = L := by omega
                      have hall : out.take j = out := by rw [hjL, HL.out]; exact List.take_length
                      rw [hall] at HS
                      clear hall
                      go_wp2_with fail
                      go_roundw
                      case rel =>
                        rw [HS.out]
                        exact ⟨i2 + 1, s3, went + szs out, nw + (D + 1), by omega, by go_num, rfl, rfl, by omega, by omega, by have := (szs_bd out HBD.out).1; omega, by have h := GA3.out.1; rwa [show 200 - i2 - 1 = 200 - (i2 + 1) by omega] at h, GA3.out.2, H4.out⟩
                      case measure => exact meas4 200 i2 h2
                · have hlen : upto s2 4 = [] := List.eq_nil_of_length_eq_zero (by have := HB2.out.len; omega)
                  have hwsum : went = sum := by have h := HB2.out.size; rw [hlen] at h; simpa [szs] using h
                  have hww : ((went : Int) == sum) = true := by simpa using hwsum
                  have HWA := HX2.out.waiting
                  rw [hlen] at HWA
                  have HWA := Lib.hid HWA
                  clear hlen hwsum
                  go_wp2_with fail
                  refine HWA.out.mono ?_
                  rintro e w6 ⟨rfl, h6⟩
                  have H6 := Lib.hid (h6.below rfl)
                  clear h6
                  go_wp2_with fail
                  refine (wakes_any _).mono ?_
                  rintro e w7 ⟨rfl, h7⟩
                  have H7 := Lib.hid h7
                  clear h7
                  go_wp2_with fail
                  go_ret
                  exact ⟨rfl, below_then H6.out H6.out.size H7.out⟩
end Go.Proofs.Ytkjjkepiihdihaa.Pace
