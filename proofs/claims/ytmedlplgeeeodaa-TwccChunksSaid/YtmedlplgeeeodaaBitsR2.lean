/- The rest of the reader of bits, and the reference's reader; no condition but the ranges in each. -/
import Derived.Test.YtmedlplgeeeodaaBitsR
namespace Go.Proofs.Ytmedlplgeeeodaa.Bits
open Go.RowKit Go.Proofs.Ytmedlplgeeeodaa.Plain Go.Proofs.Ytmedlplgeeeodaa.Heap

theorem RR.kept {t : TypeId} {S : Nat → Prop} {w w' : World} {p : Nat} {s : ByteArray} {a : Nat} {bad : Bool} (h : RR t w p s a bad) (hk : Kept S w w') (hS : ¬ S p) : RR t w' p s a bad :=
  (hk.block p (Array.getElem?_eq_some_iff.1 h).1 hS).trans h
theorem gets_no {s : ByteArray} {a : Nat} {n : Int} (hn : n < 0 ∨ 32 < n ∨ 8 * (s.size : Int) - a < n) : gets s a false n = (0, a, true) := by
  unfold gets; rw [if_neg (by simp), if_pos hn]
theorem gets_yes {s : ByteArray} {a n : Nat} (hn : n ≤ 32) (hn' : a + n ≤ 8 * s.size) : gets s a false (n : Int) = (val s a n, a + n, false) := by
  unfold gets; rw [if_neg (by simp), if_neg (by omega)]; rfl
theorem gets_at (s : ByteArray) (a : Nat) (bad : Bool) (n : Int) (h : a ≤ 8 * s.size) : (gets s a bad n).2.1 ≤ 8 * s.size := by
  unfold gets; split
  · exact h
  · split
    · exact h
    · simp only; omega
theorem get_any (s : ByteArray) (a p : Nat) (bad : Bool) (n : Int) (w : World) (hw : RR 77 w p s a bad) (hs : s.size ≤ 1099511627776) (ha : a ≤ 8 * s.size) :
    Calls Try.prog 31 #[.pointer (some ⟨p, 0, none⟩), .int .i64 n] w fun e w' => e = .returned (.int .u32 (gets s a bad n).1) ∧ RR 77 w' p s (gets s a bad n).2.1 (gets s a bad n).2.2 ∧ Kept (fun k => k = p) w w' := by
  cases bad with
  | true =>
    rw [gets_bad]
    exact (get_bad s a p n w hw).mono fun e w' ⟨h1, h2⟩ => by subst h2; exact ⟨h1, hw, Kept.refl _ _⟩
  | false =>
    by_cases hn : n < 0 ∨ 32 < n ∨ 8 * (s.size : Int) - a < n
    · rw [gets_no hn]
      exact get_no s a p n w hw hn hs ha
    · obtain ⟨m, rfl⟩ := Int.eq_ofNat_of_zero_le (show 0 ≤ n by omega)
      rw [gets_yes (by omega) (by omega)]
      exact get_yes s a p m w hw (by omega) (by omega) hs
set_option maxHeartbeats 400000 in
theorem read_any (s : ByteArray) (w : World) : Calls Try.prog 30 #[.string s] w fun e w' => e = .returned (.pointer (some ⟨w.heap.size, 0, none⟩)) ∧ w' = w.alloc (.cells #[.string s, .int .i64 0, .bool false] 77) := by
  go_enter Try.func30, Try.ntmps30
  go_wp2
  go_ret
  exact ⟨rfl, rfl⟩
theorem RR.new (t : TypeId) (s : ByteArray) (w : World) : RR t (w.alloc (.cells #[.string s, .int .i64 0, .bool false] t)) w.heap.size s 0 false := heap_alloc_new w _
def left (s : ByteArray) (a : Nat) (bad : Bool) : Int := if bad then 0 else 8 * (s.size : Int) - a
set_option maxHeartbeats 1000000 in
theorem left_any (s : ByteArray) (a p : Nat) (bad : Bool) (w : World) (hw : RR 77 w p s a bad) (hs : s.size ≤ 1099511627776) (ha : a ≤ 8 * s.size) :
    Calls Try.prog 35 #[.pointer (some ⟨p, 0, none⟩)] w fun e w' => e = .returned (.int .i64 (left s a bad)) ∧ ∃ q, w' = w.drewN q := by
  obtain ⟨hc0, hc1, hc2, hf, hp⟩ := hw.cells
  have e1 : IntKind.i64.wrap (8 * (s.size : Int)) = 8 * (s.size : Int) := IntWalk.i64_in _ (by omega)
  have e2 : IntKind.i64.wrap (8 * (s.size : Int) - (a : Int)) = 8 * (s.size : Int) - (a : Int) := IntWalk.i64_in _ (by omega)
  clear hw hf
  cases bad
  · go_enter Try.func35, Try.ntmps35
    go_wp2
    go_quiet (fail)
    go_wp2
    go_ret
    exact ⟨rfl, _, rfl⟩
  · go_enter Try.func35, Try.ntmps35
    go_wp2
    go_ret
    exact ⟨rfl, 0, rfl⟩
set_option maxHeartbeats 1000000 in
theorem bad_any (s : ByteArray) (a p : Nat) (bad : Bool) (w : World) (hw : RR 77 w p s a bad) :
    Calls Try.prog 34 #[.pointer (some ⟨p, 0, none⟩)] w fun e w' => e = .returned (.bool bad) ∧ ∃ q, w' = w.drewN q := by
  obtain ⟨hc0, hc1, hc2, hf, hp⟩ := hw.cells
  clear hw hf
  go_enter Try.func34, Try.ntmps34
  go_wp2
  go_ret
  exact ⟨rfl, 0, rfl⟩
set_option maxHeartbeats 400000 in
theorem get_nil (n : Int) (w : World) : Calls Try.prog 31 #[.pointer none, .int .i64 n] w fun e w' => e = .returned (.int .u32 0) ∧ w = w' := by
  go_enter Try.func31, Try.ntmps31
  go_wp2
  go_step3
  go_wp2
  rw [Exit.noGoto_ret]
  go_ret
  exact ⟨rfl, rfl⟩
set_option maxHeartbeats 400000 in
theorem left_nil (w : World) : Calls Try.prog 35 #[.pointer none] w fun e w' => e = .returned (.int .i64 0) ∧ w = w' := by
  go_enter Try.func35, Try.ntmps35
  go_wp2
  go_ret
  exact ⟨rfl, rfl⟩
set_option maxHeartbeats 400000 in
theorem bad_nil (w : World) : Calls Try.prog 34 #[.pointer none] w fun e w' => e = .returned (.bool true) ∧ w = w' := by
  go_enter Try.func34, Try.ntmps34
  go_wp2
  go_ret
  exact ⟨rfl, rfl⟩

-- the reference's
set_option maxHeartbeats 400000 in
theorem ref_read_any (s : ByteArray) (w : World) : Calls Try.prog 36 #[.string s] w fun e w' => e = .returned (.pointer (some ⟨w.heap.size, 0, none⟩)) ∧ w' = w.alloc (.cells #[.string s, .int .i64 0, .bool false] 79) := by
  go_enter Try.func36, Try.ntmps36
  go_wp2
  go_ret
  exact ⟨rfl, rfl⟩
set_option maxHeartbeats 1000000 in
theorem ref_left_any (s : ByteArray) (a p : Nat) (bad : Bool) (w : World) (hw : RR 79 w p s a bad) (hs : s.size ≤ 1099511627776) (ha : a ≤ 8 * s.size) :
    Calls Try.prog 39 #[.pointer (some ⟨p, 0, none⟩)] w fun e w' => e = .returned (.int .i64 (left s a bad)) ∧ ∃ q, w' = w.drewN q := by
  obtain ⟨hc0, hc1, hc2, hf, hp⟩ := hw.cells
  have e1 : IntKind.i64.wrap (8 * (s.size : Int)) = 8 * (s.size : Int) := IntWalk.i64_in _ (by omega)
  have e2 : IntKind.i64.wrap (8 * (s.size : Int) - (a : Int)) = 8 * (s.size : Int) - (a : Int) := IntWalk.i64_in _ (by omega)
  clear hw hf
  cases bad
  · go_enter Try.func39, Try.ntmps39
    go_wp2
    go_quiet (fail)
    go_wp2
    go_ret
    exact ⟨rfl, _, rfl⟩
  · go_enter Try.func39, Try.ntmps39
    go_wp2
    go_ret
    exact ⟨rfl, 0, rfl⟩
set_option maxHeartbeats 2000000 in
theorem ref_get_no (s : ByteArray) (a p : Nat) (bad : Bool) (n : Int) (w : World) (hw : RR 79 w p s a bad) (hn : bad = true ∨ n < 0 ∨ 32 < n ∨ 8 * (s.size : Int) - a < n) (hs : s.size ≤ 1099511627776) (ha : a ≤ 8 * s.size) :
    Calls Try.prog 37 #[.pointer (some ⟨p, 0, none⟩), .int .i64 n] w fun e w' => e = .returned (.int .u32 0) ∧ RR 79 w' p s a true ∧ Kept (fun k => k = p) w w' := by
  obtain ⟨hc0, hc1, hc2, hf, hp⟩ := hw.cells
  have hfb := hf 2
  have HW := Lib.hid hw
  have e1 : IntKind.i64.wrap (8 * (s.size : Int)) = 8 * (s.size : Int) := IntWalk.i64_in _ (by omega)
  have e2 : IntKind.i64.wrap (8 * (s.size : Int) - (a : Int)) = 8 * (s.size : Int) - (a : Int) := IntWalk.i64_in _ (by omega)
  clear hw hf
  cases bad with
  | true =>
    clear hn
    go_enter Try.func37, Try.ntmps37
    go_wp2
    go_quiet (fail)
    go_wp2
    go_ret
    exact ⟨rfl, HW.out.setBad true, Kept.setCell (S := fun k => k = p) ((Kept.refl _ w).drewN _) (p := ⟨p, 2, none⟩) (.inl rfl) _⟩
  | false =>
    have hn' : n < 0 ∨ (0 ≤ n ∧ 32 < n) ∨ (0 ≤ n ∧ n ≤ 32 ∧ 8 * (s.size : Int) - a < n) := by
      rcases hn with h | h
      · cases h
      · omega
    clear hn
    rcases hn' with h | ⟨h, h'⟩ | ⟨h, h', h''⟩
    · have d1 : decide (n < 0) = true := decide_eq_true h
      clear h
      go_enter Try.func37, Try.ntmps37
      go_wp2
      go_quiet (fail)
      go_wp2
      go_ret
      exact ⟨rfl, HW.out.setBad true, Kept.setCell (S := fun k => k = p) ((Kept.refl _ w).drewN _) (p := ⟨p, 2, none⟩) (.inl rfl) _⟩
    · have d1 : decide (n < 0) = false := decide_eq_false (by omega)
      have d2 : decide (32 < n) = true := decide_eq_true h'
      clear h h'
      go_enter Try.func37, Try.ntmps37
      go_wp2
      go_quiet (fail)
      go_wp2
      go_ret
      exact ⟨rfl, HW.out.setBad true, Kept.setCell (S := fun k => k = p) ((Kept.refl _ w).drewN _) (p := ⟨p, 2, none⟩) (.inl rfl) _⟩
    · have d1 : decide (n < 0) = false := decide_eq_false (by omega)
      have d2 : decide (32 < n) = false := decide_eq_false (by omega)
      have d3 : decide (8 * (s.size : Int) - (a : Int) < n) = true := decide_eq_true h''
      clear h h' h''
      go_enter Try.func37, Try.ntmps37
      go_wp2
      go_quiet (fail)
      go_wp2
      go_ret
      exact ⟨rfl, HW.out.setBad true, Kept.setCell (S := fun k => k = p) ((Kept.refl _ w).drewN _) (p := ⟨p, 2, none⟩) (.inl rfl) _⟩
set_option maxHeartbeats 4000000 in
theorem ref_get_yes (s : ByteArray) (a p n : Nat) (w : World) (hw : RR 79 w p s a false) (hn : n ≤ 32) (hn' : a + n ≤ 8 * s.size) (hs : s.size ≤ 1099511627776) :
    Calls Try.prog 37 #[.pointer (some ⟨p, 0, none⟩), .int .i64 (n : Int)] w fun e w' => e = .returned (.int .u32 (val s a n)) ∧ RR 79 w' p s (a + n) false ∧ Kept (fun k => k = p) w w' := by
  obtain ⟨hc0, hc1, hc2, hf, hp⟩ := hw.cells
  have HW := Lib.hid hw
  have d1 : decide ((n : Int) < 0) = false := decide_eq_false (by omega)
  have d2 : decide (32 < (n : Int)) = false := decide_eq_false (by omega)
  have e1 : IntKind.i64.wrap (8 * (s.size : Int)) = 8 * (s.size : Int) := IntWalk.i64_in _ (by omega)
  have e2 : IntKind.i64.wrap (8 * (s.size : Int) - (a : Int)) = 8 * (s.size : Int) - (a : Int) := IntWalk.i64_in _ (by omega)
  have d3 : decide (8 * (s.size : Int) - (a : Int) < (n : Int)) = false := decide_eq_false (by omega)
  clear hf hw
  go_enter Try.func37, Try.ntmps37
  go_wp2
  go_quiet (fail)
  go_wp2
  clear hc0 hc1 hc2 d1 d2 d3 e1 e2
  go_loopw [5, 6] (fun v i wr => ∃ k : Nat, k ≤ n ∧ i = .int .i64 k ∧ v = .int .u32 (val s a k) ∧ RR 79 wr p s (a + k) false ∧ Kept (fun k => k = p) w wr) (fun _ i _ => n - (intOf i).toNat)
  case atStart => exact ⟨0, Nat.zero_le _, rfl, rfl, HW.out, (Kept.refl _ w).drewN _⟩
  case round =>
    obtain ⟨k, hk, rfl, rfl, hR, hK⟩ := hrel
    obtain ⟨hc0, hc1, hc2, hfz, hp'⟩ := hR.cells
    have hfa := hfz 1
    have HR := Lib.hid hR
    have HK := Lib.hid hK
    clear hfz hR hK
    by_cases hlt : k < n
    · obtain ⟨m, hm⟩ : ∃ m, m = a + k := ⟨_, rfl⟩
      rw [← hm] at hc1
      have HM := Lib.hid hm
      have hmn : m < 8 * s.size := by omega
      have m1 : Int.tdiv (m : Int) 8 = (m : Int) / 8 := Int.tdiv_eq_ediv_of_nonneg (by omega)
      have m2 : Int.tmod (m : Int) 8 = (m : Int) % 8 := Int.tmod_eq_emod_of_nonneg (by omega)
      have m3 : IntKind.i64.wrap ((m : Int) / 8) = (m : Int) / 8 := IntWalk.i64_in _ (by omega)
      have m4 : IntKind.i64.wrap (7 - (m : Int) % 8) = 7 - (m : Int) % 8 := IntWalk.i64_in _ (by omega)
      have m4' : IntKind.u64.wrap (7 - (m : Int) % 8) = 7 - (m : Int) % 8 := by rw [show ∀ n, IntKind.u64.wrap n = n % 18446744073709551616 from fun n => by simp [IntKind.wrap, IntKind.bits, IntKind.signed]]; omega
      have m5 : (0 : Int) ≤ 7 - (m : Int) % 8 := by omega
      have m6 : 7 - (m : Int) % 8 ≤ 8 := by omega
      have m7 := bit_walk s m
      have m8 := bt_mod s m
      have HV : Hid (val s a (k + 1) = val s a k * 2 + bt s m) := by rw [hm]; rfl
      have v1 := (val_bd s a k).1
      have v2 : val s a k < 2147483648 := by
        have h := (val_bd s a k).2
        have h2 : ((2 ^ k : Nat) : Int) ≤ ((2 ^ 31 : Nat) : Int) := Int.ofNat_le.2 (Nat.pow_le_pow_right (by omega) (by omega))
        simp at h2
        omega
      have b1 := bt_01 s m
      have m10 : IntKind.u32.wrap (val s a k * 2) = val s a k * 2 := by rw [IntKind.wrap_u32']; omega
      have m11 : IntKind.u32.wrap (val s a k * 2 + bt s m) = val s a k * 2 + bt s m := by rw [IntKind.wrap_u32']; omega
      have hix := idx_walk s m (by omega)
      clear hm b1
      generalize val s a k = v at *
      go_wp2
      go_quiet (fail)
      go_wp2
      have hR2 : RR 79 ((wr.drewN nq).setCell ⟨p, 1, none⟩ (.int .i64 ((m + 1 : Nat) : Int))) p s (m + 1) false := by
        have h := HR.out
        rw [← HM.out] at h
        exact RR.setAt (w := wr.drewN nq) h (m + 1)
      go_roundw
      case rel =>
        refine ⟨k + 1, by omega, by go_num, ?_, ?_, ?_⟩
        · show Value.int .u32 _ = _
          rw [HV.out]
        · rw [show a + (k + 1) = m + 1 by have := HM.out; omega]
          exact hR2
        · exact Kept.setCell (S := fun k => k = p) (HK.out.drewN _) (p := ⟨p, 1, none⟩) (.inl rfl) _
      case measure => simp [intOf]; omega
    · have hkn : k = n := by omega
      subst hkn
      go_wp2
      go_ret
      exact ⟨rfl, HR.out, HK.out⟩
theorem ref_get_any (s : ByteArray) (a p : Nat) (bad : Bool) (n : Int) (w : World) (hw : RR 79 w p s a bad) (hs : s.size ≤ 1099511627776) (ha : a ≤ 8 * s.size) :
    Calls Try.prog 37 #[.pointer (some ⟨p, 0, none⟩), .int .i64 n] w fun e w' => e = .returned (.int .u32 (gets s a bad n).1) ∧ RR 79 w' p s (gets s a bad n).2.1 (gets s a bad n).2.2 ∧ Kept (fun k => k = p) w w' := by
  cases bad with
  | true =>
    rw [gets_bad]
    exact ref_get_no s a p true n w hw (.inl rfl) hs ha
  | false =>
    by_cases hn : n < 0 ∨ 32 < n ∨ 8 * (s.size : Int) - a < n
    · rw [gets_no hn]
      exact ref_get_no s a p false n w hw (.inr hn) hs ha
    · obtain ⟨m, rfl⟩ := Int.eq_ofNat_of_zero_le (show 0 ≤ n by omega)
      rw [gets_yes (by omega) (by omega)]
      exact ref_get_yes s a p m w hw (by omega) (by omega) hs
end Go.Proofs.Ytmedlplgeeeodaa.Bits
