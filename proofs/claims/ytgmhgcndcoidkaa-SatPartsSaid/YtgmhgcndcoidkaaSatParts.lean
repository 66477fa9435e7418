/- The law SatParts, walked; no condition but that the arguments are of their kinds. -/
import Derived.Test.YtgmhgcndcoidkaaSatSum
namespace Go.Proofs.Ytgmhgcndcoidkaa.Sat
open Go.RowKit Go.Proofs.Ytgmhgcndcoidkaa.Plain Go.Proofs.Ytgmhgcndcoidkaa.Heap Go.Proofs.Ytgmhgcndcoidkaa.Open

def up (xs : List Int) : List Int := xs.map (· * 1048576)
theorem up_length (xs : List Int) : (up xs).length = xs.length := by simp [up]
theorem up_get (xs : List Int) (k : Nat) : (up xs).getD k 0 = xs.getD k 0 * 1048576 := by
  simp only [up, List.getD_eq_getElem?_getD, List.getElem?_map]
  cases xs[k]? <;> simp
theorem nums_snoc (xs : List Int) (k : Nat) (h : k < xs.length) : nums .i64 (xs.take k) ++ [.int .i64 (xs.getD k 0)] = nums .i64 (xs.take (k + 1)) := by
  rw [List.take_succ_eq_append_getElem h, nums_append]
  simp [nums, List.getD_eq_getElem?_getD, List.getElem?_eq_getElem h]
theorem info_i64 : (Try.prog.info? 2).map (fun i => (i.zero, i.size, i.bytes)) = some (some (.int .i64 0), 1, 8) := by kernel_rfl
theorem own_base {w : World} {base : Nat} {e : TypeId} {size n : Nat} {v : Value} {xs : List Value} (h : w.ownsRow base e size v n xs) (k : Nat) (hk : v.ownBlock = some k) : base ≤ k := (h.lt k hk).1
theorem up_bd (xs : List Int) (n : Nat) (hl : xs.length = n) (hn : n ≤ 1000) (hx : ∀ j, j < n → -2147483648 ≤ xs.getD j 0 ∧ xs.getD j 0 ≤ 2147483647) : -2251799813685248000 ≤ (up xs).sum ∧ (up xs).sum ≤ 2251799813685248000 := by
  have h : -(2251799813685248 * (xs.length : Int)) ≤ (up xs).sum ∧ (up xs).sum ≤ 2251799813685248 * (xs.length : Int) := by
    clear hn
    induction xs generalizing n with
    | nil => simp [up]
    | cons x xs ih =>
      have h0 := hx 0 (by simp at hl; omega)
      have h1 := ih (n - 1) (by simp at hl; omega) (fun j hj => by have := hx (j + 1) (by omega); simpa using this)
      simp only [List.getD_cons_zero] at h0
      simp only [up, List.map_cons, List.sum_cons, List.length_cons] at h1 ⊢
      omega
  omega
theorem rev_snoc (Z : List Int) (q : Nat) (h : q < Z.length) : nums .i64 (Z.reverse.take (Z.length - (q + 1))) ++ [.int .i64 (Z.getD q 0)] = nums .i64 (Z.reverse.take (Z.length - q)) := by
  have e := nums_snoc Z.reverse (Z.length - (q + 1)) (by rw [List.length_reverse]; omega)
  have e1 : Z.length - (q + 1) + 1 = Z.length - q := by omega
  have e2 : Z.reverse.getD (Z.length - (q + 1)) 0 = Z.getD q 0 := by
    rw [List.getD_eq_getElem?_getD, List.getD_eq_getElem?_getD, List.getElem?_reverse (by omega)]
    congr 2; omega
  rw [e1, e2] at e
  exact e
theorem sum_call (A : Option Addr) (n c : Nat) (xs : List Int) (S : Int) (w w' : World) (hr : RI w .i64 A n xs) (hb : Below w.heap.size w w') (hx : ∀ x ∈ xs, -9223372036854775808 ≤ x ∧ x ≤ 9223372036854775807) (hS : xs.sum = S) (h0 : -9223372036854775808 ≤ S) (h1 : S ≤ 9223372036854775807) :
    Calls Try.prog 12 #[.slice A n c] w' fun e w'' => e = .returned (.int .i64 S) ∧ Below w'.heap.size w' w'' := by
  have h := sum_any A n c xs w' (hr.below hb) (fun j hj => by
    rw [List.getD_eq_getElem?_getD, List.getElem?_eq_getElem (by rw [hr.1]; exact hj)]
    exact hx _ (List.getElem_mem _))
  rw [hS, clamp_id h0 h1] at h
  exact h
theorem up_mem (xs : List Int) (n : Nat) (hl : xs.length = n) (hx : ∀ j, j < n → -2147483648 ≤ xs.getD j 0 ∧ xs.getD j 0 ≤ 2147483647) : ∀ x ∈ up xs, -9223372036854775808 ≤ x ∧ x ≤ 9223372036854775807 := by
  intro x h
  simp only [up, List.mem_map] at h
  obtain ⟨y, hy, rfl⟩ := h
  obtain ⟨j, hj, rfl⟩ := List.mem_iff_getElem.1 hy
  have := hx j (by omega)
  rw [List.getD_eq_getElem?_getD, List.getElem?_eq_getElem hj] at this
  simp only [Option.getD_some] at this
  omega
set_option maxHeartbeats 4000000 in
theorem SatParts_any (A B : Option Addr) (n m c d : Nat) (xs ys : List Int) (w : World) (hr : RI w .i32 A n xs) (hs : RI w .i32 B m ys) (hx : ∀ j, j < n → -2147483648 ≤ xs.getD j 0 ∧ xs.getD j 0 ≤ 2147483647)
    (hy : ∀ j, j < m → -2147483648 ≤ ys.getD j 0 ∧ ys.getD j 0 ≤ 2147483647) (hn : n ≤ 1000) (hm : m ≤ 1000) :
    Calls Try.prog 5 #[.slice A n c, .slice B m d] w fun e w' => e = .returned (.bool true) ∧ Below w.heap.size w w' := by
  have HR := Lib.hid hr
  have HS := Lib.hid hs
  have HX := Lib.hid hx
  have HY := Lib.hid hy
  have hn1 : ¬ (1000 : Int) < (n : Int) := by omega
  have hm1 : ¬ (1000 : Int) < (m : Int) := by omega
  clear hr hs hx hy
  go_enter Try.func5, Try.ntmps5
  go_wp2
  go_loopw [5, 9] (fun v i wr => ∃ k : Nat, k ≤ n ∧ i = .int .i64 k ∧ wr.ownsRow w.heap.size 2 1 v k (nums .i64 ((up xs).take k)) ∧ Below w.heap.size w wr) (fun _ i _ => n - (intOf i).toNat)
  case atStart => exact ⟨0, Nat.zero_le _, rfl, by simpa [nums] using World.ownsRow_nil _ _ _ _, Below.refl _ _⟩
  case round =>
    obtain ⟨k, hk, rfl, hown, hbel⟩ := hrel
    have HO := Lib.hid hown
    have HB := Lib.hid hbel
    have hsz := hbel.size
    clear hown hbel
    by_cases hlt : k < n
    · obtain ⟨b, off, rfl, hblt, hcell⟩ := HR.out.2.2 (by omega)
      have hc : wr.cell? ⟨b, off + k, none⟩ = some (.int .i32 (xs.getD k 0)) := (HB.out.cell (p := ⟨b, off + k, none⟩) hblt).trans (hcell k hlt)
      obtain ⟨x1, x2⟩ := HX.out k hlt
      have HN := Lib.hid (nums_snoc (up xs) k (by rw [up_length, HR.out.1]; exact hlt))
      have HU := Lib.hid (up_get xs k)
      clear hcell
      generalize xs.getD k 0 = x at *
      go_wp2_with (first
        | (at_builtin
           refine wpList_app rfl (.tmp 27) (.tmp 34) 25 rfl w.heap.size 2 (.int .i64 0) 1 8 Try.underlying25 info_i64 rfl (by omega) _ k (nums .i64 ((up xs).take k)) rfl (HO.out.alloc _) (some ⟨wr.heap.size, 0, none⟩) 1 1 [.int .i64 (x * 1048576)] rfl (Rd.one _ _ _) (by simp [Value.oneCell']) (by simp only [maxLen]; omega) (by omega) (by simp; omega) ?_
           intro v1 w1 hown hg hat
           have H1 := Lib.hid (show w1.ownsRow w.heap.size 2 1 v1 (k + 1) (nums .i64 ((up xs).take (k + 1))) by rw [← HN.out, HU.out]; exact hown)
           have H2 := Lib.hid ((HB.out.alloc HB.out.size _).grown hg (by simp; omega) (own_base HO.out))
           clear hown hg hat))
      go_roundw
      case rel => exact ⟨k + 1, by omega, by go_num, H1.out, H2.out⟩
      case measure => simp [intOf]; omega
    · have hkn : k = n := by omega
      subst hkn
      have ht : (up xs).take k = up xs := List.take_of_length_le (by rw [up_length, HR.out.1]; exact Nat.le_refl _)
      have HO1 := Lib.hid (show wr.ownsRow w.heap.size 2 1 u5 k (nums .i64 (up xs)) by rw [← ht]; exact HO.out)
      obtain ⟨A1, c1, rfl⟩ := own_slice HO1.out
      have HB1 := HB
      clear ht HO HB hlt hk
      obtain ⟨w1, rfl⟩ : ∃ w1, w1 = wr := ⟨_, rfl⟩
      go_wp2
      go_loopw [6, 10] (fun v i wr => ∃ j : Nat, j ≤ m ∧ i = .int .i64 j ∧ wr.ownsRow w1.heap.size 2 1 v j (nums .i64 ((up ys).take j)) ∧ Below w1.heap.size w1 wr) (fun _ i _ => m - (intOf i).toNat)
      case atStart => exact ⟨0, Nat.zero_le _, rfl, by simpa [nums] using World.ownsRow_nil _ _ _ _, Below.refl _ _⟩
      case round =>
        obtain ⟨j, hj, rfl, hown, hbel⟩ := hrel
        have HO := Lib.hid hown
        have HB := Lib.hid hbel
        have hsz2 := hbel.size
        clear hown hbel
        by_cases hlt : j < m
        · obtain ⟨b, off, rfl, hblt, hcell⟩ := HS.out.2.2 (by omega)
          have hc : wr.cell? ⟨b, off + j, none⟩ = some (.int .i32 (ys.getD j 0)) := ((HB.out.cell (p := ⟨b, off + j, none⟩) (Nat.lt_of_lt_of_le hblt hsz)).trans (HB1.out.cell (p := ⟨b, off + j, none⟩) hblt)).trans (hcell j hlt)
          obtain ⟨x1, x2⟩ := HY.out j hlt
          have HN := Lib.hid (nums_snoc (up ys) j (by rw [up_length, HS.out.1]; exact hlt))
          have HU := Lib.hid (up_get ys j)
          clear hcell
          generalize ys.getD j 0 = x at *
          go_wp2_with (first
            | (at_builtin
               refine wpList_app rfl (.tmp 42) (.tmp 49) 25 rfl w1.heap.size 2 (.int .i64 0) 1 8 Try.underlying25 info_i64 rfl (by omega) _ j (nums .i64 ((up ys).take j)) rfl (HO.out.alloc _) (some ⟨wr.heap.size, 0, none⟩) 1 1 [.int .i64 (x * 1048576)] rfl (Rd.one _ _ _) (by simp [Value.oneCell']) (by simp only [maxLen]; omega) (by omega) (by simp; omega) ?_
               intro v1 w2 hown hg hat
               have H1 := Lib.hid (show w2.ownsRow w1.heap.size 2 1 v1 (j + 1) (nums .i64 ((up ys).take (j + 1))) by rw [← HN.out, HU.out]; exact hown)
               have H2 := Lib.hid ((HB.out.alloc HB.out.size _).grown hg (by simp; omega) (own_base HO.out))
               clear hown hg hat))
          go_roundw
          case rel => exact ⟨j + 1, by omega, by go_num, H1.out, H2.out⟩
          case measure => simp [intOf]; omega
        · have hjm : j = m := by omega
          subst hjm
          have ht : (up ys).take j = up ys := List.take_of_length_le (by rw [up_length, HS.out.1]; exact Nat.le_refl _)
          have HO2 := Lib.hid (show wr.ownsRow w1.heap.size 2 1 u6 j (nums .i64 (up ys)) by rw [← ht]; exact HO.out)
          obtain ⟨A2, c2, rfl⟩ := own_slice HO2.out
          have HB2 := HB
          clear ht HO HB hlt hj
          obtain ⟨w2, rfl⟩ : ∃ w2, w2 = wr := ⟨_, rfl⟩
          have RX := Lib.hid ((Rd.of_own HO1.out).below HB2.out)
          have RY := Lib.hid (Rd.of_own HO2.out)
          go_wp2_with (first
            | (at_builtin
               refine wpList_app rfl (.tmp 51) (.tmp 52) 25 rfl w2.heap.size 2 (.int .i64 0) 1 8 Try.underlying25 info_i64 rfl (by omega) (.slice none 0 0) 0 [] rfl (World.ownsRow_nil _ _ _ _) A1 k c1 (nums .i64 (up xs)) rfl RX.out (nums_one _ _) (by simp only [maxLen]; omega) (by omega) (Nat.le_refl _) ?_
               intro v3 w3 hown hg hat
               have H3 := Lib.hid hown
               have HB3 := Lib.hid ((Below.refl w2.heap.size w2).grown hg (Nat.le_refl _) (fun k hk => by simp [Value.ownBlock] at hk))
               clear hown hg hat)
            | (at_builtin
               refine wpList_app rfl (.tmp 53) (.tmp 54) 25 rfl w2.heap.size 2 (.int .i64 0) 1 8 Try.underlying25 info_i64 rfl (by omega) v3 (0 + k) ([] ++ nums .i64 (up xs)) rfl H3.out A2 j c2 (nums .i64 (up ys)) rfl (RY.out.below HB3.out) (nums_one _ _) (by simp only [maxLen]; omega) (by omega) HB3.out.size ?_
               intro v4 w4 hown hg hat
               have H4 := Lib.hid (show w4.ownsRow w2.heap.size 2 1 v4 (k + j) (nums .i64 (up xs ++ up ys)) by rw [nums_append]; simpa using hown)
               have HB4 := Lib.hid (HB3.out.grown hg HB3.out.size (own_base H3.out))
               clear hown hg hat
               obtain ⟨A4, c4, rfl⟩ := own_slice H4.out))
          have hZ : (up xs ++ up ys).length = k + j := by rw [List.length_append, up_length, up_length, HR.out.1, HS.out.1]
          have RZ := Lib.hid (RI.of_own H4.out (by omega))
          generalize hz : up xs ++ up ys = Z at *
          have HZ := Lib.hid hz
          have HL := Lib.hid hZ
          clear hz hZ H3 HB3
          go_loopw [8, 11] (fun v i wr => ∃ (p : Nat) (z : Int), z = (p : Int) - 1 ∧ p ≤ k + j ∧ i = .int .i64 z ∧ wr.ownsRow w4.heap.size 2 1 v (k + j - p) (nums .i64 (Z.reverse.take (k + j - p))) ∧ Below w4.heap.size w4 wr) (fun _ i _ => (intOf i + 1).toNat)
          case atStart => exact ⟨k + j, _, rfl, Nat.le_refl _, by go_num, by rw [Nat.sub_self]; exact World.ownsRow_nil _ _ _ _, Below.refl _ _⟩
          case round =>
            obtain ⟨p, z, hz, hp, rfl, hown, hbel⟩ := hrel
            have HO := Lib.hid hown
            have HB := Lib.hid hbel
            have hsz3 := hbel.size
            clear hown hbel
            rcases Nat.eq_zero_or_pos p with h0 | h0
            · subst h0
              obtain rfl : z = -1 := by omega
              have H5 := Lib.hid (show wr.ownsRow w4.heap.size 2 1 u8 (k + j) (nums .i64 Z.reverse) by
                have h := HO.out
                rw [Nat.sub_zero, List.take_of_length_le (by rw [List.length_reverse, HL.out]; exact Nat.le_refl _)] at h
                exact h)
              obtain ⟨A5, c5, rfl⟩ := own_slice H5.out
              have mx := up_mem xs k HR.out.1 HX.out
              have my := up_mem ys j HS.out.1 HY.out
              obtain ⟨s1, s2⟩ := up_bd xs k HR.out.1 hn HX.out
              obtain ⟨s3, s4⟩ := up_bd ys j HS.out.1 hm HY.out
              have hs : Z.sum = (up xs).sum + (up ys).sum := by rw [← HZ.out, List.sum_append]
              have hrv : Z.reverse.sum = (up xs).sum + (up ys).sum := by rw [List.sum_reverse, hs]
              have mz : ∀ x ∈ Z, -9223372036854775808 ≤ x ∧ x ≤ 9223372036854775807 := by
                intro x hx
                rw [← HZ.out, List.mem_append] at hx
                exact hx.elim (mx x) (my x)
              have b4 : Below w2.heap.size w2 wr := below_then HB4.out HB4.out.size HB.out
              have b2 : Below w1.heap.size w1 wr := below_then HB2.out HB2.out.size b4
              have b1 : Below w.heap.size w wr := below_then HB1.out HB1.out.size b2
              have r1 : RI wr .i64 A1 k (up xs) := RI.of_rd ((Rd.of_own HO1.out).below b2) (by omega)
              have r2 : RI wr .i64 A2 j (up ys) := RI.of_rd ((Rd.of_own HO2.out).below b4) (by omega)
              have r4 : RI wr .i64 A4 (k + j) Z := RZ.out.below HB.out
              have r5 : RI wr .i64 A5 (k + j) Z.reverse := RI.of_own H5.out (by omega)
              have C1 : ∀ w', Below wr.heap.size wr w' → Hid (Calls Try.prog 12 #[.slice A1 k c1] w' fun e w'' => e = .returned (.int .i64 (up xs).sum) ∧ Below w'.heap.size w' w'') := fun w' hb => sum_call A1 k c1 _ _ wr w' r1 hb mx rfl (by omega) (by omega)
              have C2 : ∀ w', Below wr.heap.size wr w' → Hid (Calls Try.prog 12 #[.slice A2 j c2] w' fun e w'' => e = .returned (.int .i64 (up ys).sum) ∧ Below w'.heap.size w' w'') := fun w' hb => sum_call A2 j c2 _ _ wr w' r2 hb my rfl (by omega) (by omega)
              have C4 : ∀ w', Below wr.heap.size wr w' → Hid (Calls Try.prog 12 #[.slice A4 (k + j) c4] w' fun e w'' => e = .returned (.int .i64 ((up xs).sum + (up ys).sum)) ∧ Below w'.heap.size w' w'') := fun w' hb => sum_call A4 (k + j) c4 _ _ wr w' r4 hb mz hs (by omega) (by omega)
              have C5 : ∀ w', Below wr.heap.size wr w' → Hid (Calls Try.prog 12 #[.slice A5 (k + j) c5] w' fun e w'' => e = .returned (.int .i64 ((up xs).sum + (up ys).sum)) ∧ Below w'.heap.size w' w'') := fun w' hb => sum_call A5 (k + j) c5 _ _ wr w' r5 hb (fun x hx => mz x (List.mem_reverse.1 hx)) hrv (by omega) (by omega)
              have C3 : ∀ w', Hid (Calls Try.prog 15 #[.int .i64 (up xs).sum, .int .i64 (up ys).sum] w' fun e w'' => e = .returned (.int .i64 ((up xs).sum + (up ys).sum)) ∧ Below w'.heap.size w' w'') := fun w' => by
                have h := add_any (up xs).sum (up ys).sum w' (by omega) (by omega) (by omega) (by omega)
                rw [clamp_id (by omega) (by omega)] at h
                exact h
              have W : Below wr.heap.size wr wr := Below.refl _ _
              clear hz mx my mz hs hrv b4 b2 r1 r2 r4 r5 s1 s2 s3 s4 hp hsz3
              generalize (up xs).sum = SX at *
              generalize (up ys).sum = SY at *
              go_wp2_with (first
                | (go_at_call 12; ((with_reducible refine (C1 _ W).out.mono ?_); rintro e w6 ⟨rfl, hb6⟩; replace W := below_then W W.size hb6; clear hb6))
                | (go_at_call 12; ((with_reducible refine (C2 _ W).out.mono ?_); rintro e w6 ⟨rfl, hb6⟩; replace W := below_then W W.size hb6; clear hb6))
                | (go_at_call 12; ((with_reducible refine (C4 _ W).out.mono ?_); rintro e w6 ⟨rfl, hb6⟩; replace W := below_then W W.size hb6; clear hb6))
                | (go_at_call 12; ((with_reducible refine (C5 _ W).out.mono ?_); rintro e w6 ⟨rfl, hb6⟩; replace W := below_then W W.size hb6; clear hb6))
                | (go_at_call 15; ((with_reducible refine (C3 _).out.mono ?_); rintro e w6 ⟨rfl, hb6⟩; replace W := below_then W W.size hb6; clear hb6))
                | (go_at_call 11; ((with_reducible refine (wakes_any _).mono ?_); rintro e w6 ⟨rfl, hb6⟩; replace W := below_then W W.size hb6; clear hb6)))
              go_ret
              exact ⟨rfl, below_then b1 b1.size W⟩
            · obtain ⟨q, rfl⟩ : ∃ q, p = q + 1 := ⟨p - 1, by omega⟩
              obtain rfl : z = (q : Int) := by omega
              clear h0 hz
              obtain ⟨b, off, rfl, hblt, hcell⟩ := RZ.out.2.2 (by omega)
              have hc : wr.cell? ⟨b, off + q, none⟩ = some (.int .i64 (Z.getD q 0)) := (HB.out.cell (p := ⟨b, off + q, none⟩) hblt).trans (hcell q (by omega))
              have HN := Lib.hid (rev_snoc Z q (by have := HL.out; omega))
              have hq : (q : Int) < ((k : Int) + (j : Int)) := by omega
              clear hcell
              generalize Z.getD q 0 = x at *
              go_wp2_with (first
                | (at_builtin
                   refine wpList_app rfl (.tmp 63) (.tmp 68) 25 rfl w4.heap.size 2 (.int .i64 0) 1 8 Try.underlying25 info_i64 rfl (by omega) _ (k + j - (q + 1)) (nums .i64 (Z.reverse.take (k + j - (q + 1)))) rfl (HO.out.alloc _) (some ⟨wr.heap.size, 0, none⟩) 1 1 [.int .i64 x] rfl (Rd.one _ _ _) (by simp [Value.oneCell']) (by simp only [maxLen]; omega) (by omega) (by simp; omega) ?_
                   intro v1 w5 hown hg hat
                   have H1 := Lib.hid (show w5.ownsRow w4.heap.size 2 1 v1 (k + j - q) (nums .i64 (Z.reverse.take (k + j - q))) by
                     have e := HN.out
                     rw [HL.out] at e
                     rw [← e, show k + j - q = k + j - (q + 1) + 1 by omega]
                     exact hown)
                   have H2 := Lib.hid ((HB.out.alloc HB.out.size _).grown hg (by simp; omega) (own_base HO.out))
                   clear hown hg hat))
              go_roundw
              case rel => exact ⟨q, _, rfl, by omega, rfl, H1.out, H2.out⟩
              case measure => simp [intOf]
set_option maxHeartbeats 1000000 in
theorem SatParts_long (A B : Option Addr) (n m c d : Nat) (w : World) (h : 1000 < n ∨ (n ≤ 1000 ∧ 1000 < m)) : Calls Try.prog 5 #[.slice A n c, .slice B m d] w fun e w' => e = .returned (.bool true) ∧ Below w.heap.size w w' := by
  rcases h with h | ⟨h, h'⟩
  · have h1 : (1000 : Int) < (n : Int) := by omega
    go_enter Try.func5, Try.ntmps5
    go_wp2_with (first | (go_at_call 11; ((with_reducible refine (wakes_any _).mono ?_); rintro e w6 ⟨rfl, hb6⟩)))
    go_ret
    exact ⟨rfl, hb6⟩
  · have h1 : ¬ (1000 : Int) < (n : Int) := by omega
    have h2 : (1000 : Int) < (m : Int) := by omega
    go_enter Try.func5, Try.ntmps5
    go_wp2_with (first | (go_at_call 11; ((with_reducible refine (wakes_any _).mono ?_); rintro e w6 ⟨rfl, hb6⟩)))
    go_ret
    exact ⟨rfl, hb6⟩
theorem SatParts_row (A : Option Addr) (n c : Nat) (xs : List Int) (B : Option Addr) (m d : Nat) (ys : List Int) (w : World) (h : Els 1 (rInt .i32) w A n xs) (h' : Els 1 (rInt .i32) w B m ys) :
    Calls Try.prog 5 #[.slice A n c, .slice B m d] w fun e w' => e = .returned (.bool true) ∧ Below w.heap.size w w' := by
  by_cases hn : n ≤ 1000
  · by_cases hm : m ≤ 1000
    · exact SatParts_any A B n m c d xs ys w h.ints.1 h'.ints.1 (fun j hj => wf_i32 (h.ints.2 j hj)) (fun j hj => wf_i32 (h'.ints.2 j hj)) hn hm
    · exact SatParts_long A B n m c d w (.inr ⟨hn, by omega⟩)
  · exact SatParts_long A B n m c d w (.inl (by omega))

end Go.Proofs.Ytgmhgcndcoidkaa.Sat
