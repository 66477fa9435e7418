/- PacerGate: nothing goes as long as the window is full; no condition. -/
import Derived.Test.YtkjjkepiihdihaaPaceLaw1
namespace Go.Proofs.Ytkjjkepiihdihaa.Pace
open Go.RowKit Go.Proofs.Ytkjjkepiihdihaa.Plain Go.Proofs.Ytkjjkepiihdihaa.Heap Go.Proofs.Ytkjjkepiihdihaa.Rows Go.Proofs.Ytkjjkepiihdihaa.Open

theorem goes_same {s : PS} (ok : okP s) : goes s s.now = s := by
  have h := ok.credit1
  have h1 : clampT s s.now = s.now := by have := ok.now1; unfold clampT; rw [if_neg (by omega), if_neg (by omega)]
  unfold goes
  rw [h1]
  have e : min (s.credit + s.rate * (s.now - s.now)) s.burst = s.credit := by rw [Int.sub_self, Int.mul_zero]; omega
  rw [e]
theorem nxt_some {s : PS} {f : Int} {x : W5} (h : nxt s f = some x) : ∃ l, upto s 4 = x :: l ∧ ¬ s.window ≤ f ∧ ¬ s.credit < x.2.2.2.1 * 8000000 := by
  unfold nxt at h
  split at h
  · cases h
  · rename_i y l hu
    split at h
    · cases h
    · rename_i h2
      injection h with h
      subst h
      exact ⟨l, hu, fun e => h2 (.inl e), fun e => h2 (.inr e)⟩
theorem nxt_none {s : PS} {f : Int} (h : nxt s f = none) : upto s 4 = [] ∨ s.window ≤ f ∨ ∃ x l, upto s 4 = x :: l ∧ s.credit < x.2.2.2.1 * 8000000 := by
  unfold nxt at h
  split at h
  · rename_i hu
    exact .inl hu
  · rename_i x l hu
    split at h
    · rename_i h2
      rcases h2 with h2 | h2
      · exact .inr (.inl h2)
      · exact .inr (.inr ⟨x, l, hu, h2⟩)
    · cases h
/-- What is left where the head has gone. -/
theorem upto_pop {s : PS} (ok : okP s) {x : W5} {l : List W5} (h : upto s 4 = x :: l) : upto (pop s x) 4 = l := by
  rcases class_of s with hc | ⟨c, hc, he, hn⟩
  · rw [upto_nil hc] at h; cases h
  · obtain ⟨y, m, hq⟩ : ∃ y m, s.q c = y :: m := by
      cases hq : s.q c with
      | nil => rw [hq] at hn; simp at hn
      | cons y m => exact ⟨y, m, rfl⟩
    have h1 := upto_cons ok hc he hq
    rw [h] at h1
    injection h1 with h2 h3
    subst h2
    exact h3.symm
theorem szs_cons (x : W5) (l : List W5) : szs (x :: l) = x.2.2.2.1 + szs l := by simp [szs]
theorem head_bd {s : PS} (ok : okP s) {x : W5} {l : List W5} (h : upto s 4 = x :: l) : 0 ≤ x.2.2.2.1 ∧ x.2.2.2.1 ≤ 1500 := by
  obtain ⟨c, hc, hm⟩ := upto_mem (s := s) (k := 4) (x := x) (by rw [h]; exact List.mem_cons_self ..)
  exact ⟨(ok.el c hc x hm).2.1, (ok.el c hc x hm).2.2.1⟩
theorem pop_okc {s : PS} (ok : okP s) {x : W5} {l : List W5} (h : upto s 4 = x :: l) (hc : ¬ s.credit < x.2.2.2.1 * 8000000) : okP (pop s x) := pop_ok ok (by rw [h]; exact List.mem_cons_self ..) hc
/-- Where the credit lasts for all, the window alone holds back. -/
theorem gate : ∀ (n : Nat) {s : PS} (_ : okP s) (f : Int), (upto s 4).length ≤ n → szs (upto s 4) * 8000000 ≤ s.credit →
    (∀ i, i < (polls n s f).1.length → f + szs ((polls n s f).1.take i) < s.window) ∧ (upto (polls n s f).2 4 = [] ∨ s.window ≤ f + szs (polls n s f).1)
  | 0, s, _, f, hn, _ => by
    have h0 : upto s 4 = [] := List.eq_nil_of_length_eq_zero (by omega)
    exact ⟨fun i hi => by simp [polls] at hi, .inl h0⟩
  | n + 1, s, ok, f, hn, hc => by
    cases h : nxt s f with
    | none =>
      rw [polls_none h]
      refine ⟨fun i hi => by simp at hi, ?_⟩
      rcases nxt_none h with h1 | h1 | ⟨x, l, h1, h2⟩
      · exact .inl h1
      · exact .inr (by simpa [szs] using h1)
      · rw [h1, szs_cons] at hc
        have hp := head_bd ok h1
        have hl := (szs_bd l fun y hy => by
          obtain ⟨c, h3, h4⟩ := upto_mem (s := s) (k := 4) (x := y) (by rw [h1]; exact List.mem_cons_of_mem _ hy)
          exact ⟨(ok.el c h3 y h4).2.1, (ok.el c h3 y h4).2.2.1⟩).1
        omega
    | some x =>
      obtain ⟨l, h1, h2, h3⟩ := nxt_some h
      have hu := upto_pop ok h1
      have ih := gate n (pop_okc ok h1 h3) (f + x.2.2.2.1) (by rw [hu]; rw [h1] at hn; simpa using hn) (by
        rw [hu]
        rw [h1, szs_cons] at hc
        show szs l * 8000000 ≤ s.credit - x.2.2.2.1 * 8000000
        omega)
      rw [polls_some h]
      refine ⟨fun i hi => ?_, ?_⟩
      · cases i with
        | zero => simp [szs]; omega
        | succ i =>
          have := ih.1 i (by simpa using hi)
          rw [List.take_succ_cons, szs_cons, ← Int.add_assoc]
          exact this
      · rcases ih.2 with h4 | h4
        · exact .inl h4
        · right
          rw [szs_cons, ← Int.add_assoc]
          exact h4
/-- An element of what went, where it lies. -/
theorem out_at {w : World} {A : Option Addr} {n c : Nat} {out : List W5} (h : RW w 4 (.slice A n c) n (flat4 out)) {i : Nat} (hi : i < n) :
    ∃ g off x, A = some ⟨g, off, none⟩ ∧ out[i]? = some x ∧ g < w.heap.size ∧ w.cell? ⟨g, off + i * 4, none⟩ = some (.int .i64 x.1) ∧ w.cell? ⟨g, off + i * 4 + 2, none⟩ = some (.int .i64 x.2.2.1) ∧ w.cell? ⟨g, off + i * 4 + 3, none⟩ = some (.int .i64 x.2.2.2.1) := by
  have hl := h.1
  rw [flat4_len] at hl
  obtain ⟨g, off, hA, hg, hc⟩ := h.rd.2 (by omega)
  obtain ⟨x, hx⟩ : ∃ x, out[i]? = some x := ⟨_, List.getElem?_eq_getElem (by omega)⟩
  obtain ⟨f0, _, f2, f3⟩ := flat4_get _ i x hx
  exact ⟨g, off, x, hA, hx, hg, hc _ _ f0, hc _ _ f2, hc _ _ f3⟩
theorem enq_len {s : PS} (a b cl d now : Int) : (upto (enq s a b cl d now).1 4).length ≤ (upto s 4).length + 1 := by
  rw [upto_sums.1, upto_sums.1]
  unfold enq
  split
  · rename_i h
    obtain ⟨c, rfl⟩ : ∃ c : Nat, cl = (c : Int) := ⟨cl.toNat, by omega⟩
    rcases (show c = 0 ∨ c = 1 ∨ c = 2 ∨ c = 3 by omega) with rfl | rfl | rfl | rfl <;> simp [push, goes] <;> omega
  · show (s.q 0).length + (s.q 1).length + (s.q 2).length + (s.q 3).length ≤ _
    omega
theorem enq_same {s : PS} (ok : okP s) (a b cl d : Int) : (enq s a b cl d s.now).1.credit = s.credit ∧ (enq s a b cl d s.now).1.window = s.window ∧ (enq s a b cl d s.now).1.now = s.now ∧ (enq s a b cl d s.now).1.rate = s.rate ∧ (enq s a b cl d s.now).1.burst = s.burst ∧ (enq s a b cl d s.now).1.queue = s.queue := by
  unfold enq
  rw [goes_same ok]
  split <;> exact ⟨rfl, rfl, rfl, rfl, rfl, rfl⟩
/-- A pacer that waits at one time: what the loop of Gate keeps. -/
structure Ga (W : Int) (k : Nat) (s : PS) : Prop where
  credit : s.credit = 134217728000000
  window : s.window = W
  now : s.now = 0
  len : (upto s 4).length ≤ k
theorem Ga.enq {W : Int} {k : Nat} {s : PS} (ok : okP s) (h : Ga W k s) (a b c d : Int) : Ga W (k + 1) (enq s a b c d 0).1 := by
  have h1 := enq_same ok a b c d
  rw [h.now] at h1
  exact ⟨h1.1.trans h.credit, h1.2.1.trans h.window, h1.2.2.1, Nat.le_trans (enq_len a b c d 0) (by have := h.len; omega)⟩
theorem Ga.poll {W : Int} {k : Nat} {s : PS} (ok : okP s) (h : Ga W k s) (hk : k ≤ 200) (f : Int) (hf : 0 ≤ f) (hf2 : f ≤ 1048576) :
    (∀ i, i < (poll s 0 f).1.length → f + szs ((poll s 0 f).1.take i) < W) ∧ (upto (poll s 0 f).2 4 = [] ∨ W ≤ f + szs (poll s 0 f).1) := by
  have e1 : goes s 0 = s := by have := goes_same ok; rwa [h.now] at this
  have e2 : clampI f 0 1099511627776 = f := by unfold clampI; rw [if_neg (by omega), if_neg (by omega)]
  have hb := (upto_bd ok (k := 4) (by omega)).2.2
  have hl := h.len
  have := gate (upto s 4).length ok f (Nat.le_refl _) (by rw [h.credit]; omega)
  unfold Pace.poll
  rw [e1, e2]
  rw [h.window] at this
  exact this
theorem polls_len : ∀ (n : Nat) (s : PS) (f : Int), (polls n s f).1.length ≤ n
  | 0, _, _ => by simp [polls]
  | n + 1, s, f => by
    cases h : nxt s f with
    | none => rw [polls_none h]; simp
    | some x => rw [polls_some h]; simpa using polls_len n _ _
theorem polls_bd : ∀ (n : Nat) {s : PS} (_ : okP s) (f : Int), ∀ x ∈ (polls n s f).1, 0 ≤ x.2.2.2.1 ∧ x.2.2.2.1 ≤ 1500
  | 0, _, _, _ => fun x hx => by cases hx
  | n + 1, s, ok, f => fun x hx => by
    cases h : nxt s f with
    | none => rw [polls_none h] at hx; cases hx
    | some y =>
      obtain ⟨l, h1, _, h3⟩ := nxt_some h
      rw [polls_some h] at hx
      rcases List.mem_cons.1 hx with rfl | hx
      · exact head_bd ok h1
      · exact polls_bd n (pop_okc ok h1 h3) _ x hx
theorem poll_len {s : PS} (ok : okP s) (now f : Int) : (poll s now f).1.length ≤ 1024 := Nat.le_trans (polls_len _ _ _) (upto_le ok)
theorem poll_bd {s : PS} (ok : okP s) (now f : Int) : ∀ x ∈ (poll s now f).1, 0 ≤ x.2.2.2.1 ∧ x.2.2.2.1 ≤ 1500 := polls_bd _ (goes_ok ok now) _
set_option maxRecDepth 5000 in
set_option maxHeartbeats 2000000 in
theorem PacerGate_any (wd fl : Int) (A : Option Addr) (n c : Nat) (zs : List Int) (w : World) (_ : (Lit.int .i64 wd).wf = true) (_ : (Lit.int .i64 fl).wf = true) (h1 : Els 1 (rInt .u16) w A n zs) :
    Calls Try.prog 5 #[.int .i64 wd, .int .i64 fl, .slice A n c] w fun e w' => e = .returned (.bool true) ∧ Below w.heap.size w w' := by
  have R := Lib.hid h1.ints.1
  have U := Lib.hid h1.ints.2
  obtain ⟨W, hW, hW0, hW1⟩ : ∃ W, wd % 1048576 = W ∧ 0 ≤ W ∧ W < 1048576 := ⟨_, rfl, by omega, by omega⟩
  obtain ⟨F, hF, hF0, hF1⟩ : ∃ F, fl % 1048576 = F ∧ 0 ≤ F ∧ F < 1048576 := ⟨_, rfl, by omega, by omega⟩
  have HW := Lib.hid hW
  have HF := Lib.hid hF
  clear h1 hW hF
  go_enter Try.func5, Try.ntmps5
  go_wp2_with fail
  refine (new_px (fun g => g < w.heap.size) 16777216 256 w (by omega) (by omega) (by omega) (by omega) (fun _ h => h)).mono ?_
  rintro e w1 ⟨p, rfl, h1⟩
  have H1 := Lib.hid h1
  clear h1
  go_wp2_with fail
  refine (mod64_any wd 1048576 _ (by omega) (by omega)).mono ?_
  rintro e w2 ⟨rfl, rfl⟩
  rw [HW.out]
  go_wp2_with fail
  refine (mod64_any fl 1048576 _ (by omega) (by omega)).mono ?_
  rintro e w2 ⟨rfl, rfl⟩
  rw [HF.out]
  go_wp2_with fail
  refine (H1.out.set 0 W 0).mono ?_
  rintro e w2 ⟨rfl, h2⟩
  have HG := Lib.hid (show Ga W 0 (setp ⟨16777216 * 8000000, 16777216 * 8000000, 0, 0, 0, 256, fun _ => []⟩ 0 W 0) from
    ⟨rfl, by show clampI W 0 1099511627776 = W; unfold clampI; rw [if_neg (by omega), if_neg (by omega)], rfl, by simp [upto, setp, goes]⟩)
  have H2 := Lib.hid h2
  clear h2
  go_wp2_with fail
  go_loopw [11] (fun iv wx => ∃ (i : Nat) (s : PS), (i : Int) ≤ 200 ∧ iv = .int .i64 (i : Int) ∧ Ga W i s ∧ PX (fun g => g < w.heap.size) w wx p s) (fun iv _ => ((200 : Int) - intOf iv).toNat)
  case atStart => exact ⟨0, _, by omega, rfl, HG.out, H2.out⟩
  case round =>
    obtain ⟨i, s, hi, rfl, hg, hx⟩ := hrel
    have HX := Lib.hid hx
    have HGA := Lib.hid hg
    clear hg hx
    by_cases hgo : (i : Int) < (n : Int) ∧ (i : Int) < 200
    · obtain ⟨hn, h2⟩ := hgo
      obtain ⟨b, off, rfl, hb, hc⟩ := R.out.2.2 (by omega)
      have x1 : wr.cell? ⟨b, off + i, none⟩ = some (.int .u16 (zs.getD i 0)) := ((HX.out.below rfl).cell (p := ⟨b, off + i, none⟩) hb).trans (hc i (by omega))
      obtain ⟨y0, y1⟩ := wf_u16 (U.out i (by omega))
      obtain ⟨y, hy⟩ : ∃ y, y = zs.getD i 0 := ⟨_, rfl⟩
      rw [← hy] at x1 y0 y1
      obtain ⟨r, hr, hr0, hr1⟩ : ∃ r, y % 1501 = r ∧ 0 ≤ r ∧ r ≤ 1500 := ⟨_, rfl, by omega, by omega⟩
      have hm : Int.tmod y 1501 = r := by rw [tmod_pos y0]; exact hr
      have G2 := Lib.hid (HGA.out.enq HX.out.ok (i : Int) 0 0 r)
      clear hy hc hr
      go_wp2_with fail
      refine (HX.out.enqueue (i : Int) 0 0 r 0).mono ?_
      rintro e w3 ⟨rfl, h3⟩
      have H3 := Lib.hid h3
      clear h3
      go_wp2_with fail
      go_roundw
      case rel => exact ⟨i + 1, _, by omega, by go_num, G2.out, H3.out⟩
      case measure => exact meas4 200 i h2
    · have hgo : ¬ (i : Int) < (n : Int) ∨ ((i : Int) < (n : Int) ∧ ¬ (i : Int) < 200) := by omega
      obtain ⟨g1, g2⟩ := HGA.out.poll HX.out.ok (by omega) F hF0 (by omega)
      have hle := poll_len HX.out.ok 0 F
      have hbd := poll_bd HX.out.ok 0 F
      have hp := HX.out.polling 0 F
      obtain ⟨out, ho⟩ : ∃ out, out = (poll s 0 F).1 := ⟨_, rfl⟩
      obtain ⟨s3, hs3⟩ : ∃ s3, s3 = (poll s 0 F).2 := ⟨_, rfl⟩
      rw [← ho] at hp g1 g2 hle hbd
      rw [← hs3] at hp g2
      obtain ⟨L, hL⟩ : ∃ L, L = out.length := ⟨_, rfl⟩
      rw [← hL] at hp g1 hle
      have HL := Lib.hid hL
      have HPo := Lib.hid hp
      have G1 := Lib.hid g1
      have G2 := Lib.hid g2
      have HBD := Lib.hid hbd
      have hle' : (L : Int) ≤ 1024 := by omega
      clear hp g1 g2 ho hs3 hbd hle hL
      rcases hgo with hgo | ⟨hgo, hgo2⟩
      all_goals
        go_wp2_with fail
        refine HPo.out.mono ?_
        rintro e w3 ⟨A3, c3, rfl, hr, _, h3, _⟩
        have HR := Lib.hid hr
        have H3 := Lib.hid h3
        clear hr h3
        go_wp2_with fail
        go_loopw [13, 14] (fun sv iv wx => ∃ j : Nat, (j : Int) ≤ (L : Int) ∧ iv = .int .i64 (j : Int) ∧ sv = .int .i64 (F + szs (out.take j)) ∧ wx = w3) (fun _ iv _ => ((L : Int) - intOf iv).toNat)
        case atStart => exact ⟨0, by omega, rfl, by simp [szs], rfl⟩
        case round =>
          obtain ⟨j, hj, rfl, rfl, rfl⟩ := hrel
          have hbt : 0 ≤ szs (out.take j) ∧ szs (out.take j) ≤ 1500 * (j : Int) := by
            have h1 := szs_bd (out.take j) fun x hx => HBD.out x (List.mem_of_mem_take hx)
            have h2 : (out.take j).length ≤ j := List.length_take_le _ _
            omega
          obtain ⟨S, hS⟩ : ∃ S, S = szs (out.take j) := ⟨_, rfl⟩
          rw [← hS] at hbt
          rw [← hS]
          have HS := Lib.hid hS
          obtain ⟨b0, b1⟩ := hbt
          clear hS
          by_cases hjl : (j : Int) < (L : Int)
          · obtain ⟨g, off, x, rfl, hx, _, x0, x2, x3⟩ := out_at HR.out (i := j) (by omega)
            have hw : F + S < W := by rw [HS.out]; exact G1.out j (by omega)
            obtain ⟨z0, z1⟩ := HBD.out x (List.mem_of_getElem? hx)
            have HT := Lib.hid (szs_snoc _ _ _ hx)
            obtain ⟨x1', x2', x3', z, x5'⟩ := x
            simp only at x0 x2 x3 z0 z1
            clear hx
            go_wp2_with fail
            go_roundw
            case rel => exact ⟨j + 1, by omega, by go_num, by rw [HT.out, ← HS.out]; go_num, trivial⟩
            case measure => exact meas4 L j hjl
          · have hjL : j = L := by omega
            have hall : out.take j = out := by rw [hjL, HL.out]; exact List.take_length
            have g2 := G2.out
            rw [← hall, ← HS.out] at g2
            clear hall
            go_wp2_with fail
            refine (H3.out.waiting).mono ?_
            rintro e w4 ⟨rfl, h4⟩
            have H4 := Lib.hid (h4.below rfl)
            clear h4
            rcases g2 with g2 | g2
            · rw [g2]
              clear g2
              go_wp2_with fail
              all_goals
                refine (wakes_any _).mono ?_
                rintro e w5 ⟨rfl, h5⟩
                have H5 := Lib.hid h5
                clear h5
                go_wp2_with fail
                go_ret
                exact ⟨rfl, below_then H4.out H4.out.size H5.out⟩
            · go_wp2_with fail
              all_goals
                refine (wakes_any _).mono ?_
                rintro e w5 ⟨rfl, h5⟩
                have H5 := Lib.hid h5
                clear h5
                go_wp2_with fail
                go_ret
                exact ⟨rfl, below_then H4.out H4.out.size H5.out⟩
end Go.Proofs.Ytkjjkepiihdihaa.Pace
