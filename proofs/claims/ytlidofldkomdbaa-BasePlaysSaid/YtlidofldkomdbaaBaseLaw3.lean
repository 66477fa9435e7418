/- BaseLeasts: what it comes to; no condition but what data there is. -/
import Derived.Test.YtlidofldkomdbaaBaseLaw2
import Derived.Test.YtlidofldkomdbaaOpen
namespace Go.Proofs.Ytlidofldkomdbaa.Base
open Go.RowKit Go.Proofs.Ytlidofldkomdbaa.Plain Go.Proofs.Ytlidofldkomdbaa.Heap Go.Proofs.Ytlidofldkomdbaa.Open

/-- A base whose samples are all of row 0. -/
def Row0 (R : Int) (k : Nat) (L : Int) (s : BS) : Prop := ∃ h, Inv s h ∧ okB s ∧ s.width = 1000 ∧ s.rows = R ∧ s.newest = 0 ∧ ((k = 0 ∧ h = []) ∨ (0 < k ∧ IsL h (0 - R) (L, true)))
theorem row0_step {R : Int} {k : Nat} {L d : Int} {s : BS} (hr : Row0 R k L s) (h0 : 1 ≤ R) (hk : k < 200) (hd : -2147483648 ≤ d) (hd' : d ≤ 2147483647) (L' : Int) (hL : L' = if k = 0 ∨ d < L then d else L) :
    Row0 R (k + 1) L' (bstep s k d).1 ∧ (bstep s k d).2 = d - L' ∧ lst (bstep s k d).1 R.toNat = (L', true) := by
  obtain ⟨h, hi, ok, hw, hR, hn, hc⟩ := hr
  have Hd : hold d (-1125899906842624) 1125899906842624 = d := hold_id (by omega) (by omega)
  have N : hold k 0 1125899906842624 / s.width = 0 := by rw [hw, hold_id (by omega) (by omega)]; omega
  have i1 := inv_step hi ok k d
  rw [N, Hd] at i1
  have o1 := bstep_ok ok k d
  obtain ⟨r1, w1, n1, a1, _, v1⟩ := bstep_facts s k d 0 d N Hd
  have u1 : (up s 0).newest = 0 := by
    unfold up
    split
    · rfl
    · exact hn
  rw [u1] at n1 v1
  rw [hR] at r1 v1
  have hl := lst_inv i1 o1
  rw [r1, n1] at hl
  have hIs : IsL (h ++ [(0, d)]) (0 - R) (L', true) := by
    rcases hc with ⟨rfl, rfl⟩ | ⟨hk, hc⟩
    · rw [hL, if_pos (.inl rfl)]
      exact IsL.one (by omega)
    · have := hc.snoc (n := 0) (d := d) (by omega)
      have e : mn L d = L' := by
        rw [hL]
        unfold mn
        by_cases hdl : d < L
        · rw [if_pos hdl, if_pos (.inr hdl)]
        · rw [if_neg hdl, if_neg (by omega)]
      rwa [e] at this
  have hl2 := hl.uniq hIs
  refine ⟨⟨_, i1, o1, w1.trans hw, r1, n1, .inr ⟨by omega, hIs⟩⟩, ?_, hl2⟩
  rw [v1 (by omega), hl2]
theorem wf_i32' {n : Int} (h : (Lit.int .i32 n).wf = true) : -2147483648 ≤ n ∧ n ≤ 2147483647 := wf_i32 h
set_option maxHeartbeats 1000000 in
set_option maxRecDepth 10000 in
theorem BaseLeasts_any (A : Option Addr) (n c : Nat) (l : List Int) (rows : Int) (w : World) (h1 : Els 1 (rInt .i32) w A n l) (_ : (Lit.int .i64 rows).wf = true) :
    Calls Try.prog 4 #[.slice A n c, .int .i64 rows] w fun e w' => e = .returned (.bool true) ∧ Below w.heap.size w w' := by
  obtain ⟨r1, u1⟩ := h1.ints
  have R1 := Lib.hid r1
  have U1 := Lib.hid u1
  clear h1 r1 u1
  have m0 := Int.emod_nonneg rows (show (64 : Int) ≠ 0 by omega)
  have m1 := Int.emod_lt_of_pos rows (show (0 : Int) < 64 by omega)
  go_enter Try.func4, Try.ntmps4
  go_wp2_with fail
  refine (mod_any rows 64 _ (by decide) (by decide)).mono ?_
  rintro e w1 ⟨rfl, rfl⟩
  obtain ⟨k, hk⟩ : ∃ k, k = 1 + rows % 64 := ⟨_, rfl⟩
  have tk : wrap64 (1 + rows % 64) = k := by rw [hk]; exact w64 (by omega) (by omega)
  have k1 : 1 ≤ k := by omega
  have k2 : k ≤ 64 := by omega
  have ok0 := fresh_ok (width := 1000) (rows := k) (by omega) k1 k2
  clear hk m0 m1
  generalize rows % 64 = m at *
  go_wp2_with fail
  simp only [tk]
  refine (new_bb 1000 k _ (by decide) (by decide) (by omega) (by omega)).mono ?_
  rintro e w1 ⟨rfl, h1, _⟩
  obtain ⟨p, hp⟩ : ∃ p, p = w.heap.size := ⟨_, rfl⟩
  have H2 := Lib.hid (show BB w.heap.size w w1 p (fresh 1000 k) by rw [hp]; exact h1)
  rw [← hp]
  have HP := Lib.hid hp
  clear h1 hp tk
  go_wp2
  go_loopw [7, 8] (fun ls iv wr => ∃ (i : Nat) (L : Int) (s : BS), i ≤ 200 ∧ iv = .int .i64 i ∧ ls = .int .i64 L ∧ (i = 0 ∨ (-2147483648 ≤ L ∧ L ≤ 2147483647)) ∧ Row0 k i L s ∧ BB w.heap.size w wr p s) (fun _ iv _ => 200 - (intOf iv).toNat)
  case atStart => exact ⟨0, 0, fresh 1000 k, by omega, rfl, rfl, .inl rfl, ⟨[], inv_fresh _ _, ok0, rfl, rfl, rfl, .inl ⟨rfl, rfl⟩⟩, H2.out⟩
  case round =>
    obtain ⟨i, L, s, hi, rfl, rfl, hlb, hr, hb⟩ := hrel
    have HLB := Lib.hid hlb
    have HR := Lib.hid hr
    have HB := Lib.hid hb
    clear hr hb H2 hlb
    by_cases hlt : i < n
    · by_cases hlt2 : (i : Int) < 200
      · obtain ⟨b1, o1, rfl, hb1, hc1⟩ := R1.out.2.2 (by omega)
        have x1 : wr.cell? ⟨b1, o1 + i, none⟩ = some (.int .i32 (l.getD i 0)) := (HB.out.2.2.1.cell (p := ⟨b1, o1 + i, none⟩) hb1).trans (hc1 i hlt)
        obtain ⟨y1, y1'⟩ := wf_i32 (U1.out i hlt)
        clear hc1
        generalize l.getD i 0 = d at *
        have hLb : i = 0 ∨ (-2147483648 ≤ L ∧ L ≤ 2147483647) := HLB.out
        rcases (by omega : i = 0 ∨ (i ≠ 0 ∧ d < L) ∨ (i ≠ 0 ∧ ¬ d < L)) with rfl | ⟨hz, hz2⟩ | ⟨hz, hz2⟩
        · rw [Nat.add_zero] at x1
          have HS := Lib.hid (row0_step HR.out k1 (by omega) y1 y1' d (by rw [if_pos (.inl rfl)]))
          rw [show ((0 : Nat) : Int) = 0 from rfl] at HS
          have hok : okB s := by obtain ⟨_, _, h, _⟩ := HR.out; exact h
          have hrows : (bstep s 0 d).1.rows = k := by obtain ⟨_, _, _, _, h, _⟩ := HS.out.1; exact h
          have HRows := Lib.hid hrows
          have w1' : wrap64 d = d := w64 (by omega) (by omega)
          have t5 : wrap64 (d - d) = d - d := w64 (by omega) (by omega)
          clear hrows
          go_wp2_with fail
          refine (add_any _ _ 0 d _ _ s HB.out hok).mono ?_
          rintro e w2 ⟨rfl, h2⟩
          rw [HS.out.2.1]
          have H3 := Lib.hid h2; clear h2
          go_wp2_with fail
          refine (least_bb _ _ _ _ _ H3.out (bstep_ok hok 0 d)).mono ?_
          rintro e w3 ⟨rfl, h3⟩
          rw [HRows.out, HS.out.2.2]
          have H4 := Lib.hid h3; clear h3
          go_wp2
          go_roundw
          case rel => exact ⟨0 + 1, d, _, by omega, by go_num, rfl, .inr (by omega), HS.out.1, H4.out⟩
          case measure => simp [intOf]
        · have HS := Lib.hid (row0_step HR.out k1 (by omega) y1 y1' d (by rw [if_pos (.inr hz2)]))
          have hmod : (i : Int) % 1000 = i := by omega
          have hok : okB s := by obtain ⟨_, _, h, _⟩ := HR.out; exact h
          have hrows : (bstep s i d).1.rows = k := by obtain ⟨_, _, _, _, h, _⟩ := HS.out.1; exact h
          have HRows := Lib.hid hrows
          have w1' : wrap64 d = d := w64 (by omega) (by omega)
          have t5 : wrap64 (d - d) = d - d := w64 (by omega) (by omega)
          clear hrows
          go_wp2_with fail
          refine (add_any _ _ i d _ _ s HB.out hok).mono ?_
          rintro e w2 ⟨rfl, h2⟩
          rw [HS.out.2.1]
          have H3 := Lib.hid h2; clear h2
          go_wp2_with fail
          refine (least_bb _ _ _ _ _ H3.out (bstep_ok hok i d)).mono ?_
          rintro e w3 ⟨rfl, h3⟩
          rw [HRows.out, HS.out.2.2]
          have H4 := Lib.hid h3; clear h3
          go_wp2
          go_roundw
          case rel => exact ⟨i + 1, d, _, by omega, by go_num, rfl, .inr (by omega), HS.out.1, H4.out⟩
          case measure => simp [intOf]; omega
        · have HS := Lib.hid (row0_step HR.out k1 (by omega) y1 y1' L (by rw [if_neg (by omega)]))
          have hmod : (i : Int) % 1000 = i := by omega
          have hok : okB s := by obtain ⟨_, _, h, _⟩ := HR.out; exact h
          have hrows : (bstep s i d).1.rows = k := by obtain ⟨_, _, _, _, h, _⟩ := HS.out.1; exact h
          have HRows := Lib.hid hrows
          have w1' : wrap64 d = d := w64 (by omega) (by omega)
          have t5 : wrap64 (d - L) = d - L := w64 (by omega) (by omega)
          clear hrows
          go_wp2_with fail
          refine (add_any _ _ i d _ _ s HB.out hok).mono ?_
          rintro e w2 ⟨rfl, h2⟩
          rw [HS.out.2.1]
          have H3 := Lib.hid h2; clear h2
          go_wp2_with fail
          refine (least_bb _ _ _ _ _ H3.out (bstep_ok hok i d)).mono ?_
          rintro e w3 ⟨rfl, h3⟩
          rw [HRows.out, HS.out.2.2]
          have H4 := Lib.hid h3; clear h3
          go_wp2
          go_roundw
          case rel => exact ⟨i + 1, L, _, by omega, by go_num, rfl, .inr (by omega), HS.out.1, H4.out⟩
          case measure => simp [intOf]; omega
      · go_wp2_with fail
        refine (wakes_any _).mono ?_
        rintro e w3 ⟨rfl, hb⟩
        go_wp2
        go_ret
        exact ⟨rfl, below_then HB.out.2.2.1 HB.out.2.1 hb⟩
    · go_wp2_with fail
      refine (wakes_any _).mono ?_
      rintro e w3 ⟨rfl, hb⟩
      go_wp2
      go_ret
      exact ⟨rfl, below_then HB.out.2.2.1 HB.out.2.1 hb⟩
end Go.Proofs.Ytlidofldkomdbaa.Base
