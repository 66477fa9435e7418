/- The sum of a list, by the reference; lists that are alike; the laws SatSums and SatParts; no condition but that the arguments are of their kinds. -/
import Derived.Test.YtgmhgcndcoidkaaSatLaw
import Derived.Test.YtgmhgcndcoidkaaOpen
namespace Go.Proofs.Ytgmhgcndcoidkaa.Sat
open Go.RowKit Go.Proofs.Ytgmhgcndcoidkaa.Plain Go.Proofs.Ytgmhgcndcoidkaa.Heap Go.Proofs.Ytgmhgcndcoidkaa.Open

theorem and32 (x : Int) : Go.bits .and .i64 x 4294967295 = x % 4294967296 := by
  have h := and_mask x 32 (by omega)
  simpa using h
theorem sum_take_bd (xs : List Int) (k : Nat) (hk : k ≤ xs.length) (hx : ∀ j, j < xs.length → -9223372036854775808 ≤ xs.getD j 0 ∧ xs.getD j 0 ≤ 9223372036854775807) :
    -(9223372036854775808 * (k : Int)) ≤ (xs.take k).sum ∧ (xs.take k).sum ≤ 9223372036854775808 * (k : Int) := by
  have h := sum_bd (xs.take k) (fun j hj => by
    rw [List.length_take] at hj
    have := hx j (by omega)
    simpa [List.getD_eq_getElem?_getD, List.getElem?_take, show j < k by omega] using this)
  rwa [List.length_take, Nat.min_eq_left hk] at h
set_option maxHeartbeats 2000000 in
theorem ref_sum_any (A : Option Addr) (n c : Nat) (xs : List Int) (w : World) (hr : RI w .i64 A n xs) (hx : ∀ j, j < n → -9223372036854775808 ≤ xs.getD j 0 ∧ xs.getD j 0 ≤ 9223372036854775807) (hn : n ≤ 100000) :
    Calls Try.prog 13 #[.slice A n c] w fun e w' => e = .returned (.int .i64 (clamp64 xs.sum)) ∧ w = w' := by
  obtain ⟨hl, _, hr⟩ := hr
  have HX := Lib.hid hx
  have HR := Lib.hid hr
  have HL := Lib.hid hl
  have h32 := and32
  clear hx hr hl
  go_enter Try.func13, Try.ntmps13
  go_wp2
  go_loop [3, 4, 5] (fun u l i => ∃ k : Nat, k ≤ n ∧ i = .int .i64 k ∧ u = .int .i64 ((xs.take k).sum / 4294967296) ∧ l = .int .i64 ((xs.take k).sum % 4294967296)) (fun _ _ i => n - (intOf i).toNat)
  case atStart => exact ⟨0, Nat.zero_le _, rfl, by simp, by simp⟩
  case round =>
    obtain ⟨k, hk, rfl, rfl, rfl⟩ := hrel
    obtain ⟨q1, q2⟩ := sum_take_bd xs k (by have := HL.out; omega) (by have := HL.out; rw [this]; exact HX.out)
    by_cases hlt : k < n
    · obtain ⟨b, off, rfl, hblt, hcell⟩ := HR.out (by omega)
      have hc : w.cell? ⟨b, off + k, none⟩ = some (.int .i64 (xs.getD k 0)) := hcell k hlt
      have hs := sum_snoc xs k (by have := HL.out; omega)
      obtain ⟨x1, x2⟩ := HX.out k hlt
      have HS := Lib.hid hs
      clear hcell hs
      generalize xs.getD k 0 = x at *
      generalize (xs.take k).sum = T at *
      go_wp2
      go_round
      case rel =>
        refine ⟨k + 1, by omega, by go_num, ?_, ?_⟩
        · have h := HS.out; congr 1; rw [h]; omega
        · have h := HS.out; congr 1; rw [h]; omega
      case measure => simp [intOf]; omega
    · have hkn : k = n := by omega
      subst hkn
      have ht : xs.take k = xs := List.take_of_length_le (by have := HL.out; omega)
      rw [ht] at q1 q2 ⊢
      generalize hT : xs.sum = T at *
      have HT := Lib.hid hT
      clear hT
      go_wp2
      all_goals
        go_ret
        refine ⟨ret_int ?_, rfl⟩
        rw [HT.out]
        unfold clamp64
        (try unfold wrap64)
        omega
set_option maxHeartbeats 2000000 in
/-- Two lists that read alike. -/
theorem longs_same (A B : Option Addr) (n c d : Nat) (xs : List Int) (w : World) (hr : RI w .i64 A n xs) (hs : RI w .i64 B n xs) :
    Calls Try.prog 14 #[.slice A n c, .slice B n d] w fun e w' => e = .returned (.bool true) ∧ ∃ q, w' = w.drewN q := by
  obtain ⟨hl, hm, hr⟩ := hr
  obtain ⟨_, _, hs⟩ := hs
  have HR := Lib.hid hr
  have HS := Lib.hid hs
  have HL := Lib.hid hl
  clear hr hs hl
  go_enter Try.func14, Try.ntmps14
  go_wp2
  go_loopw [5] (fun i wr => ∃ k q : Nat, k ≤ n ∧ i = .int .i64 k ∧ wr = w.drewN q) (fun i _ => n - (intOf i).toNat)
  case atStart => exact ⟨0, 0, Nat.zero_le _, rfl, rfl⟩
  case round =>
    obtain ⟨k, q, hk, rfl, rfl⟩ := hrel
    by_cases hlt : k < n
    · obtain ⟨b, off, rfl, hblt, hcell⟩ := HR.out (by omega)
      obtain ⟨b', off', rfl, hblt', hcell'⟩ := HS.out (by omega)
      have hc : w.cell? ⟨b, off + k, none⟩ = some (.int .i64 (xs.getD k 0)) := hcell k hlt
      have hc' : w.cell? ⟨b', off' + k, none⟩ = some (.int .i64 (xs.getD k 0)) := hcell' k hlt
      have hz : (k : Int) < (n : Int) := by omega
      clear hcell hcell'
      go_wp2_with fail
      go_quiet (fail)
      go_wp2
      go_roundw
      case rel => exact ⟨k + 1, _, by omega, by go_num, rfl⟩
      case measure => simp [intOf]; omega
    · go_wp2
      go_ret
      exact ⟨rfl, _, rfl⟩
set_option maxHeartbeats 2000000 in
theorem SatSums_any (A : Option Addr) (n c : Nat) (xs : List Int) (w : World) (hr : RI w .i64 A n xs) (hx : ∀ j, j < n → -9223372036854775808 ≤ xs.getD j 0 ∧ xs.getD j 0 ≤ 9223372036854775807) :
    Calls Try.prog 4 #[.slice A n c] w fun e w' => e = .returned (.bool true) ∧ Below w.heap.size w w' := by
  by_cases hn : n ≤ 100000
  · have H := Lib.hid hr
    have HX := Lib.hid hx
    have hm := hr.2.1
    have h1 : RI (w.alloc (.cells #[] 2)) .i64 A n xs := hr.below ((Below.refl _ _).alloc (Nat.le_refl _) _)
    have H1 := Lib.hid h1
    have hn' : ¬ (100000 : Int) < (n : Int) := by omega
    clear hr hx h1
    go_enter Try.func4, Try.ntmps4
    go_wp2_with (first
      | (at_builtin
         refine wpList_app rfl (.tmp 8) (.tmp 9) 25 rfl w.heap.size 2 (.int .i64 0) 1 8 Try.underlying25 (by kernel_rfl) rfl (by omega) (.slice (some ⟨w.heap.size, 0, none⟩) 0 0) 0 [] rfl (own_empty w w.heap.size _ _ (Nat.le_refl _)) A n c (nums .i64 xs) rfl H1.out.rd (nums_one _ _) (by simp only [maxLen]; omega) (by omega) (by simp) ?_
         intro v1 w1 hown hg hat
         have hb1 : Below w.heap.size w w1 := ((Below.refl _ _).alloc (Nat.le_refl _) (.cells #[] 2)).grown hg (by simp) (fun k hk => by simp [Value.ownBlock] at hk; omega)
         obtain ⟨A1, c1, rfl⟩ := own_slice hown
         have R1 := Lib.hid (RI.of_own (by simpa using hown) hm)
         clear hown hg hat)
      | (go_at_call 12; refine (sum_any A1 n c1 xs w1 R1.out HX.out).mono ?_; rintro e w2 ⟨rfl, hb2⟩)
      | (go_at_call 13; refine (ref_sum_any A n c xs w2 ((H.out.below hb1).below hb2) HX.out hn).mono ?_; rintro e w3 ⟨rfl, rfl⟩)
      | (go_at_call 14; refine (longs_same A1 A n c1 c xs w2 (R1.out.below hb2) ((H.out.below hb1).below hb2)).mono ?_; rintro e w4 ⟨rfl, q, rfl⟩)
      | (go_at_call 11; refine (wakes_any _).mono ?_; rintro e w5 ⟨rfl, hb5⟩))
    go_ret
    exact ⟨rfl, below_then (below_drewN (below_then hb1 hb1.size hb2) q) (Nat.le_trans hb1.size hb2.size) hb5⟩
  · have hn' : (100000 : Int) < (n : Int) := by omega
    clear hr hx hn
    go_enter Try.func4, Try.ntmps4
    go_wp2_with (first
      | (go_at_call 11; refine (wakes_any _).mono ?_; rintro e w5 ⟨rfl, hb5⟩))
    go_ret
    exact ⟨rfl, hb5⟩
theorem SatSums_row (A : Option Addr) (n c : Nat) (xs : List Int) (w : World) (h : Els 1 (rInt .i64) w A n xs) : Calls Try.prog 4 #[.slice A n c] w fun e w' => e = .returned (.bool true) ∧ Below w.heap.size w w' :=
  SatSums_any A n c xs w h.ints.1 (fun j hj => wf_i64 (h.ints.2 j hj))

end Go.Proofs.Ytgmhgcndcoidkaa.Sat
