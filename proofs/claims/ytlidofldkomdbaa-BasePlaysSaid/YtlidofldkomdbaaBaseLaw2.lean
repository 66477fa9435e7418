/- BaseForgets: what it comes to; no condition but what numbers there are. -/
import Derived.Test.YtlidofldkomdbaaBasePlain
import Derived.Test.YtlidofldkomdbaaBaseLaw1
namespace Go.Proofs.Ytlidofldkomdbaa.Base
open Go.RowKit Go.Proofs.Ytlidofldkomdbaa.Plain Go.Proofs.Ytlidofldkomdbaa.Heap

theorem hold_id {a lo hi : Int} (h : lo ≤ a) (h' : a ≤ hi) : hold a lo hi = a := by unfold hold; rw [if_neg (by omega), if_neg (by omega)]
theorem lst_queue (s : BS) (q : Int) (k : Nat) : lst { s with queue := q } k = lst s k := by
  induction k with
  | zero => rfl
  | succ k ih => unfold lst; rw [ih]
theorem bstep_facts (s : BS) (at_ delay : Int) (n D : Int) (hn : hold at_ 0 1125899906842624 / s.width = n) (hD : hold delay (-1125899906842624) 1125899906842624 = D) :
    (bstep s at_ delay).1.rows = s.rows ∧ (bstep s at_ delay).1.width = s.width ∧ (bstep s at_ delay).1.newest = (up s n).newest ∧ (bstep s at_ delay).1.any = true ∧
    (n ≤ (up s n).newest - s.rows → (bstep s at_ delay).2 = 0) ∧ (¬ n ≤ (up s n).newest - s.rows → (bstep s at_ delay).2 = D - (lst (bstep s at_ delay).1 s.rows.toNat).1) := by
  obtain ⟨f1, f2, f3, f4, f5, f6, f7⟩ := up_facts s n
  unfold bstep
  rw [hn, hD]
  split
  · rename_i hc
    exact ⟨f1, f2, rfl, f4, fun _ => rfl, fun h => absurd hc h⟩
  · rename_i hc
    exact ⟨f1, f2, rfl, f4, fun h => absurd h hc, fun _ => by rw [lst_queue]⟩
theorem bstep_queue (s : BS) (at_ delay : Int) : (bstep s at_ delay).1.queue = (bstep s at_ delay).2 := by
  unfold bstep
  split
  · unfold up; split <;> rfl
  · rfl
theorem IsL.one {lo n d : Int} (h : lo < n) : IsL [(n, d)] lo (d, true) := .inr ⟨rfl, ⟨(n, d), by simp, h, rfl⟩, fun x hx _ => by simp at hx; rw [hx]; exact Int.le_refl _⟩
theorem IsL.snoc {hs : List (Int × Int)} {lo n d l : Int} (h : IsL hs lo (l, true)) (hn : lo < n) : IsL (hs ++ [(n, d)]) lo (mn l d, true) := by
  have hm := mn_le (a := l) (b := d)
  rcases h with ⟨h, _⟩ | ⟨_, ⟨x, h1, h2, h3⟩, h4⟩
  · cases h
  · refine .inr ⟨rfl, ?_, fun y hy hc => ?_⟩
    · rcases hm.2.2 with e | e
      · exact ⟨x, List.mem_append_left _ h1, h2, by rw [e]; exact h3⟩
      · exact ⟨(n, d), by simp, hn, e.symm⟩
    · rcases List.mem_append.1 hy with hy | hy
      · have := h4 y hy hc
        simp only at this ⊢
        omega
      · simp at hy; rw [hy]; exact hm.2.1
/-- What lies k rows back counts no longer. -/
theorem forgets_plain (k a c : Int) (hk : 1 ≤ k) (hk' : k ≤ 64) (ha : -1099511627776 < a) (ha' : a < 1099511627776) (hc : -1099511627776 < c) (hc' : c < 1099511627776) (s1 s2 s3 : BS) (e1 : (bstep (fresh 100 k) 0 a).1 = s1) (e2 : (bstep s1 (100 * k - 1) c).1 = s2) (e3 : (bstep s2 (100 * k) c).1 = s3) :
    (bstep s1 (100 * k - 1) c).2 = c - mn a c ∧ (bstep s2 (100 * k) c).2 = 0 ∧ lst s3 k.toNat = (c, true) ∧ (bstep s3 0 (a - 5)).2 = 0 ∧ okB s1 ∧ okB s2 ∧ okB s3 ∧ s3.rows = k := by
  have o0 := fresh_ok (width := 100) (rows := k) (by omega) hk hk'
  have o1 : okB s1 := by rw [← e1]; exact bstep_ok o0 0 a
  have o2 : okB s2 := by rw [← e2]; exact bstep_ok o1 _ c
  have o3 : okB s3 := by rw [← e3]; exact bstep_ok o2 _ c
  have Ha : hold a (-1125899906842624) 1125899906842624 = a := hold_id (by omega) (by omega)
  have Hc : hold c (-1125899906842624) 1125899906842624 = c := hold_id (by omega) (by omega)
  have N0 : hold 0 0 1125899906842624 / 100 = 0 := by decide
  have N1 : hold (100 * k - 1) 0 1125899906842624 / 100 = k - 1 := by rw [hold_id (by omega) (by omega)]; omega
  have N2 : hold (100 * k) 0 1125899906842624 / 100 = k := by rw [hold_id (by omega) (by omega)]; omega
  obtain ⟨r1, w1, n1, a1, _, _⟩ := bstep_facts (fresh 100 k) 0 a 0 a N0 Ha
  rw [e1] at r1 w1 n1 a1
  have r1 : s1.rows = k := r1
  have w1 : s1.width = 100 := w1
  have n1 : s1.newest = 0 := n1
  have i1 : Inv s1 ([] ++ [(0, a)]) := by
    have := inv_step (inv_fresh 100 k) o0 0 a
    rw [show hold 0 0 1125899906842624 / (fresh 100 k).width = 0 from N0, Ha, e1] at this
    exact this
  have N1' : hold (100 * k - 1) 0 1125899906842624 / s1.width = k - 1 := by rw [w1]; exact N1
  obtain ⟨r2, w2, n2, a2, _, v2⟩ := bstep_facts s1 (100 * k - 1) c (k - 1) c N1' Hc
  rw [e2] at r2 w2 n2 a2 v2
  have u2 : (up s1 (k - 1)).newest = k - 1 := by
    unfold up
    split
    · rfl
    · rename_i h
      have h2 : ¬ s1.newest < k - 1 := fun h' => h (.inr h')
      show s1.newest = k - 1
      omega
  have r2 : s2.rows = k := r2.trans r1
  have w2 : s2.width = 100 := w2.trans w1
  have n2 : s2.newest = k - 1 := n2.trans u2
  have i2 : Inv s2 (([] ++ [(0, a)]) ++ [(k - 1, c)]) := by
    have := inv_step i1 o1 (100 * k - 1) c
    rw [N1', Hc, e2] at this
    exact this
  have l2 : lst s2 k.toNat = (mn a c, true) := by
    have h := lst_inv i2 o2
    rw [r2, n2] at h
    exact h.uniq (((IsL.one (by omega) : IsL [(0, a)] (k - 1 - k) (a, true))).snoc (by omega))
  have N2' : hold (100 * k) 0 1125899906842624 / s2.width = k := by rw [w2]; exact N2
  obtain ⟨r3, w3, n3, a3, _, v3⟩ := bstep_facts s2 (100 * k) c k c N2' Hc
  rw [e3] at r3 w3 n3 a3 v3
  have u3 : (up s2 k).newest = k := by
    unfold up
    rw [if_pos (.inr (by omega))]
  have r3 : s3.rows = k := r3.trans r2
  have w3 : s3.width = 100 := w3.trans w2
  have n3 : s3.newest = k := n3.trans u3
  have i3 : Inv s3 ((([] ++ [(0, a)]) ++ [(k - 1, c)]) ++ [(k, c)]) := by
    have := inv_step i2 o2 (100 * k) c
    rw [N2', Hc, e3] at this
    exact this
  have l3 : lst s3 k.toNat = (c, true) := by
    have h := lst_inv i3 o3
    rw [r3, n3] at h
    refine h.uniq (.inr ⟨rfl, ⟨(k, c), by simp, by simp only; omega, rfl⟩, fun x hx hc => ?_⟩)
    simp at hx
    rcases hx with rfl | rfl | rfl
    · simp only at hc; omega
    · exact Int.le_refl _
    · exact Int.le_refl _
  have N3' : hold 0 0 1125899906842624 / s3.width = 0 := by rw [w3]; exact N0
  obtain ⟨D4, hD4⟩ : ∃ D, hold (a - 5) (-1125899906842624) 1125899906842624 = D := ⟨_, rfl⟩
  obtain ⟨_, _, _, _, v4, _⟩ := bstep_facts s3 0 (a - 5) 0 D4 N3' hD4
  have u4 : (up s3 0).newest = k := by
    unfold up
    rw [if_neg (by rintro (h | h); · rw [a3] at h; cases h
                   · omega)]
    exact n3
  refine ⟨?_, ?_, l3, v4 (by rw [u4, r3]; omega), o1, o2, o3, r3⟩
  · rw [v2 (by rw [u2, r1]; omega), r1, l2]
  · rw [v3 (by rw [u3, r2]; omega), r2, l3]
    omega
attribute [local go_sem high] run_mx run_mn in
set_option maxHeartbeats 1000000 in
set_option maxRecDepth 10000 in
theorem BaseForgets_any (rows low high : Int) (w : World) :
    Calls Try.prog 3 #[.int .i64 rows, .int .i64 low, .int .i64 high] w fun e w' => e = .returned (.bool true) ∧ Below w.heap.size w w' := by
  have b1 := tmod_bd low (m := 1099511627776) (by omega)
  have b2 := tmod_bd high (m := 1099511627776) (by omega)
  have m0 := Int.emod_nonneg rows (show (64 : Int) ≠ 0 by omega)
  have m1 := Int.emod_lt_of_pos rows (show (0 : Int) < 64 by omega)
  obtain ⟨a, ea⟩ : ∃ a, low.tmod 1099511627776 = a := ⟨_, rfl⟩
  obtain ⟨c, ec⟩ : ∃ c, high.tmod 1099511627776 = c := ⟨_, rfl⟩
  rw [ea] at b1
  rw [ec] at b2
  have t1 : wrap64 a = a := w64 (by omega) (by omega)
  have t2 : wrap64 c = c := w64 (by omega) (by omega)
  go_enter Try.func3, Try.ntmps3
  go_wp2_with fail
  refine (mod_any rows 64 _ (by decide) (by decide)).mono ?_
  rintro e w1 ⟨rfl, rfl⟩
  obtain ⟨k, hk⟩ : ∃ k, k = 1 + rows % 64 := ⟨_, rfl⟩
  have tk : wrap64 (1 + rows % 64) = k := by rw [hk]; exact w64 (by omega) (by omega)
  have k1 : 1 ≤ k := by omega
  have k2 : k ≤ 64 := by omega
  have ok0 := fresh_ok (width := 100) (rows := k) (by omega) k1 k2
  clear hk m0 m1
  generalize rows % 64 = m at *
  obtain ⟨s1, e1⟩ : ∃ s1, (bstep (fresh 100 k) 0 a).1 = s1 := ⟨_, rfl⟩
  obtain ⟨s2, e2⟩ : ∃ s2, (bstep s1 (100 * k - 1) c).1 = s2 := ⟨_, rfl⟩
  obtain ⟨s3, e3⟩ : ∃ s3, (bstep s2 (100 * k) c).1 = s3 := ⟨_, rfl⟩
  have hF := Lib.hid (forgets_plain k a c k1 k2 (by omega) (by omega) (by omega) (by omega) s1 s2 s3 e1 e2 e3)
  have t3 : wrap64 (100 * k) = 100 * k := w64 (by omega) (by omega)
  have t4 : wrap64 (100 * k - 1) = 100 * k - 1 := w64 (by omega) (by omega)
  have t5 : wrap64 (a - 5) = a - 5 := w64 (by omega) (by omega)
  have hm := mn_le (a := a) (b := c)
  have t6 : wrap64 (c - mn a c) = c - mn a c := w64 (by omega) (by omega)
  clear hm
  have E1 := Lib.hid e1
  have E2 := Lib.hid e2
  have E3 := Lib.hid e3
  clear e1 e2 e3
  go_wp2_with fail
  simp only [tk]
  refine (new_bb 100 k _ (by decide) (by decide) (by omega) (by omega)).mono ?_
  rintro e w1 ⟨rfl, h1, _⟩
  have H1 := Lib.hid h1; clear h1
  go_wp2_with fail
  refine (add_any _ _ 0 a _ _ _ H1.out ok0).mono ?_
  rintro e w2 ⟨rfl, h2⟩
  rw [E1.out] at h2
  have H2 := Lib.hid h2; clear h2
  generalize (bstep (fresh 100 k) 0 a).2 = v1
  go_wp2_with fail
  refine (add_any _ _ (100 * k - 1) c _ _ _ H2.out hF.out.2.2.2.2.1).mono ?_
  rintro e w3 ⟨rfl, h3⟩
  rw [E2.out] at h3
  rw [hF.out.1]
  have H3 := Lib.hid h3; clear h3
  go_wp2_with fail
  refine (add_any _ _ (100 * k) c _ _ _ H3.out hF.out.2.2.2.2.2.1).mono ?_
  rintro e w4 ⟨rfl, h4⟩
  rw [E3.out] at h4
  rw [hF.out.2.1]
  have H4 := Lib.hid h4; clear h4
  go_wp2_with fail
  refine (least_bb _ _ _ _ _ H4.out hF.out.2.2.2.2.2.2.1).mono ?_
  rintro e w5 ⟨rfl, h5⟩
  rw [hF.out.2.2.2.2.2.2.2, hF.out.2.2.1]
  have H5 := Lib.hid h5; clear h5
  go_wp2_with fail
  refine (add_any _ _ 0 (a - 5) _ _ _ H5.out hF.out.2.2.2.2.2.2.1).mono ?_
  rintro e w6 ⟨rfl, h6⟩
  rw [hF.out.2.2.2.1]
  have H6 := Lib.hid h6; clear h6
  go_wp2_with fail
  refine (wakes_any _).mono ?_
  rintro e w7 ⟨rfl, h7⟩
  have H7 := Lib.hid h7; clear h7
  go_wp2
  go_ret
  exact ⟨rfl, below_then H6.out.2.2.1 H6.out.2.1 H7.out⟩
end Go.Proofs.Ytlidofldkomdbaa.Base
