/- What the document's signed and chunk tell; no condition but the ranges in each. -/
import Derived.Test.YtmedlplgeeeodaaTwChunk
namespace Go.Proofs.Ytmedlplgeeeodaa.Tw
open Go.RowKit Go.Proofs.Ytmedlplgeeeodaa.Plain Go.Proofs.Ytmedlplgeeeodaa.Heap Go.Proofs.Ytmedlplgeeeodaa.Open Go.Proofs.Ytmedlplgeeeodaa.Rows Go.Proofs.Ytmedlplgeeeodaa.Bits
theorem rsigned24 (v : Int) (w : World) (h0 : 0 ≤ v) (h1 : v < 16777216) :
    Calls Try.prog 38 #[.int .u32 v, .int .i64 24] w fun e w' => e = .returned (.int .i64 (sg 24 v)) ∧ w = w' := by
  by_cases h : 8388608 ≤ v
  · have HS := bx (show sg 24 v = v - 16777216 by unfold sg; rw [if_pos (by simpa using h)]; rfl)
    have q1 : decide (8388608 ≤ v) = true := decide_eq_true h
    go_enter Try.func38, Try.ntmps38
    go_wp2
    go_ret
    exact ⟨by rw [HS.out]; rfl, rfl⟩
  · have HS := bx (show sg 24 v = v by unfold sg; rw [if_neg (by simpa using h)])
    have q1 : decide (8388608 ≤ v) = false := decide_eq_false h
    go_enter Try.func38, Try.ntmps38
    go_wp2
    go_ret
    exact ⟨by rw [HS.out]; rfl, rfl⟩
theorem rsigned16 (v : Int) (w : World) (h0 : 0 ≤ v) (h1 : v < 65536) :
    Calls Try.prog 38 #[.int .u32 v, .int .i64 16] w fun e w' => e = .returned (.int .i64 (sg 16 v)) ∧ w = w' := by
  by_cases h : 32768 ≤ v
  · have HS := bx (show sg 16 v = v - 65536 by unfold sg; rw [if_pos (by simpa using h)]; rfl)
    have q1 : decide (32768 ≤ v) = true := decide_eq_true h
    go_enter Try.func38, Try.ntmps38
    go_wp2
    go_ret
    exact ⟨by rw [HS.out]; rfl, rfl⟩
  · have HS := bx (show sg 16 v = v by unfold sg; rw [if_neg (by simpa using h)])
    have q1 : decide (32768 ≤ v) = false := decide_eq_false h
    go_enter Try.func38, Try.ntmps38
    go_wp2
    go_ret
    exact ⟨by rw [HS.out]; rfl, rfl⟩
/-- Some bits in the midst of others. -/
theorem val_mid (s : ByteArray) (r a n m : Nat) : val s (r + a) n = val s r (a + n + m) / 2 ^ m % 2 ^ n := by
  have h1 := val_cat s r (a + n) m
  have h2 := val_cat s r a n
  have b1 := val_bd s (r + (a + n)) m
  have b2 := val_bd s (r + a) n
  have p1 : (0 : Int) < 2 ^ m := Int.pow_pos (by omega)
  have p2 : (0 : Int) < 2 ^ n := Int.pow_pos (by omega)
  rw [h1, Int.add_comm, Int.add_mul_ediv_right _ _ (by omega), Int.ediv_eq_zero_of_lt b1.1 b1.2, Int.zero_add, h2, Int.add_comm, Int.add_mul_emod_self_right, Int.emod_eq_of_lt b2.1 b2.2]
/-- What the document's chunk comes to. -/
def RChunkPost (s : ByteArray) (r lack : Nat) (w : World) (e : Ending) (w' : World) : Prop := match chunkD s r lack with
  | none => e = .returned (.tuple #[.slice none 0 0, .int .i64 100]) ∧ Kept (fun _ => False) w w'
  | some x => ∃ A c, e = .returned (.tuple #[.slice A x.length c, .int .i64 0]) ∧ RW w' 1 (.slice A x.length c) x.length (nums .i64 x) ∧ (∀ g, isAt (.slice A x.length c) g → w.heap.size ≤ g) ∧ Kept (fun _ => False) w w'
theorem rchunk_none {s : ByteArray} {r lack : Nat} {w w' : World} (hc : chunkD s r lack = none) (hk : Kept (fun _ => False) w w') : RChunkPost s r lack w (.returned (.tuple #[.slice none 0 0, .int .i64 100])) w' := by
  unfold RChunkPost
  rw [hc]
  exact ⟨rfl, hk⟩
theorem rchunk_some {s : ByteArray} {r lack : Nat} {w w' : World} {x : List Int} {n : Nat} {A : Option Addr} {c : Nat} (hc : chunkD s r lack = some x) (hn : n = x.length) (hr : RW w' 1 (.slice A n c) n (nums .i64 x)) (ha : ∀ g, isAt (.slice A n c) g → w.heap.size ≤ g) (hk : Kept (fun _ => False) w w') :
    RChunkPost s r lack w (.returned (.tuple #[.slice A n c, .int .i64 0])) w' := by
  unfold RChunkPost
  subst hn
  rw [hc]
  exact ⟨A, c, rfl, hr, ha, hk⟩
theorem and3 (u : Int) (h0 : 0 ≤ u) (h1 : u < 4294967296) : Go.bits .and .u32 u 3 = u % 4 := by
  rw [u32_and u 3 h0 h1 (by omega) (by omega), show ((3 : Int)).toNat = 2 ^ 2 - 1 from rfl, Nat.and_two_pow_sub_one_eq_mod]
  omega
theorem and1 (u : Int) (h0 : 0 ≤ u) (h1 : u < 4294967296) : Go.bits .and .u32 u 1 = u % 2 := by
  rw [u32_and u 1 h0 h1 (by omega) (by omega), show ((1 : Int)).toNat = 2 ^ 1 - 1 from rfl, Nat.and_two_pow_sub_one_eq_mod]
  omega
theorem and8191 (u : Int) (h0 : 0 ≤ u) (h1 : u < 4294967296) : Go.bits .and .u32 u 8191 = u % 8192 := by
  rw [u32_and u 8191 h0 h1 (by omega) (by omega), show ((8191 : Int)).toNat = 2 ^ 13 - 1 from rfl, Nat.and_two_pow_sub_one_eq_mod]
  omega
set_option linter.unusedSimpArgs false in
set_option maxRecDepth 10000 in
set_option maxHeartbeats 8000000 in
theorem rchunk_any (s : ByteArray) (r lack : Nat) (w : World) (hl1 : 1 ≤ (lack : Int)) (hl2 : (lack : Int) ≤ 4096) :
    Calls Try.prog 40 #[.int .u32 (val s r 16), .int .i64 (lack : Int)] w (RChunkPost s r lack w) := by
  obtain ⟨v, hv⟩ : ∃ v, v = val s r 16 := ⟨_, rfl⟩
  have hvb : 0 ≤ v ∧ v < 65536 := by rw [hv]; exact val_bd s r 16
  obtain ⟨v0, v1⟩ := hvb
  have m0 := val_mid s r 0 1 15
  have m1 := val_mid s r 1 2 13
  have m2 := val_mid s r 3 13 0
  have m3 := val_mid s r 1 1 14
  rw [show (0 + 1 + 15 : Nat) = 16 from rfl, ← hv] at m0
  rw [show (1 + 2 + 13 : Nat) = 16 from rfl, ← hv] at m1
  rw [show (3 + 13 + 0 : Nat) = 16 from rfl, ← hv] at m2
  rw [show (1 + 1 + 14 : Nat) = 16 from rfl, ← hv] at m3
  simp only [Nat.add_zero, Int.reducePow] at m0 m1 m2 m3
  have HV := bx hv
  rw [← hv]
  have HM0 := bx (show val s r 1 = v / 32768 by omega)
  have HM1 := bx (show val s (r + 1) 2 = v / 8192 % 4 by omega)
  have HM2 := bx (show val s (r + 3) 13 = v % 8192 by omega)
  have HM3 := bx (show val s (r + 1) 1 = v / 16384 % 2 by omega)
  clear m0 m1 m2 m3 hv
  go_enter Try.func40, Try.ntmps40
  by_cases hb0 : v / 32768 = 0
  · have q1 : (v / 32768 == 0) = true := by rw [beq_iff_eq]; exact hb0
    obtain ⟨st, hst⟩ : ∃ st, v / 8192 % 4 = st := ⟨_, rfl⟩
    obtain ⟨nn, hnn⟩ : ∃ nn, v % 8192 = nn := ⟨_, rfl⟩
    have st0 : 0 ≤ st := by omega
    have st1 : st < 4 := by omega
    have nn0 : 0 ≤ nn := by omega
    have nn1 : nn < 8192 := by omega
    have a3 : Go.bits .and .u32 (v / 8192) 3 = st := by rw [and3 _ (by omega) (by omega)]; exact hst
    have a4 : Go.bits .and .u32 v 8191 = nn := by rw [and8191 _ (by omega) (by omega)]; exact hnn
    obtain ⟨n, rfl⟩ : ∃ n : Nat, nn = (n : Int) := ⟨nn.toNat, by omega⟩
    have HC := bx (show chunkD s r lack = if 2 < st ∨ (n : Int) = 0 then none else some (List.replicate (min n lack) st) by
      unfold chunkD
      rw [if_pos (by rw [HM0.out]; exact hb0), HM1.out, HM2.out, hst, hnn, Int.toNat_natCast])
    clear hb0
    by_cases h3 : st = 3
    · have q2 : (st == 3) = true := by rw [beq_iff_eq]; exact h3
      have HN := bx (show chunkD s r lack = none by rw [HC.out, if_pos (.inl (by omega))])
      clear h3
      go_wp2_with fail
      go_ret2
      exact rchunk_none HN.out (Kept.refl _ w)
    · have q2 : (st == 3) = false := by rw [beq_eq_false_iff_ne]; exact h3
      have st2 : st ≤ 2 := by omega
      clear h3
      by_cases hn0 : (n : Int) = 0
      · have HN := bx (show chunkD s r lack = none by rw [HC.out, if_pos (.inr hn0)])
        have hn00 : n = 0 := by omega
        subst hn00
        clear hn0
        go_wp2_with fail
        go_ret2
        exact rchunk_none HN.out (Kept.refl _ w)
      · have q4 : ((n : Int) == 0) = false := by rw [beq_eq_false_iff_ne]; exact hn0
        obtain ⟨m, hm⟩ : ∃ m, m = min n lack := ⟨_, rfl⟩
        have HN := bx (show chunkD s r lack = some (List.replicate m st) by rw [HC.out, if_neg (by omega), hm])
        have hmn : (m : Int) ≤ (n : Int) := by omega
        have hml : (m : Int) ≤ (lack : Int) := by omega
        have HMM := bx hm
        clear hn0 hm hst hnn
        go_wp2_with fail
        go_loopw [6, 9] (fun lv iv wx => ∃ k : Nat, (k : Int) ≤ (m : Int) ∧ iv = .int .i64 (k : Int) ∧ RW wx 1 lv k (nums .i64 (List.replicate k st)) ∧ (∀ g, isAt lv g → w.heap.size ≤ g) ∧ Kept (fun _ => False) w wx) (fun _ iv _ => ((m : Int) - intOf iv).toNat)
        case atStart => exact ⟨0, by omega, rfl, RW.nil _ _, (by rintro g ⟨o, m, c, e⟩; cases e), Kept.refl _ w⟩
        case round =>
          obtain ⟨k, hk, rfl, hrw, hat, hkk⟩ := hrel
          obtain ⟨lA, lc, rfl⟩ := hrw.shape
          have HRW := bx hrw
          have HAT := bx hat
          have HKK := bx hkk
          rename World => Y
          clear hrw hat hkk
          by_cases hkm : (k : Int) < (m : Int)
          · have q5 : decide ((k : Int) < (n : Int)) = true := decide_eq_true (by omega)
            have q5' : decide (k < n) = true := decide_eq_true (by omega)
            have q6 : decide ((k : Int) < (lack : Int)) = true := decide_eq_true (by omega)
            have q6' : decide (k < lack) = true := decide_eq_true (by omega)
            go_wp2_with (first
              | (at_builtin
                 refine wpList_row rfl (.tmp 40) (.tmp 42) 23 rfl 3 (.int .i64 0) 1 8 Try.underlying23 info_int rfl (by omega) (.slice lA k lc) k (nums .i64 (List.replicate k st)) rfl (HRW.out.kept ((Kept.refl (fun _ => False) Y).alloc _) (fun _ _ => id)) _ _ [.int .i64 st] rfl (Rd.one Y _ _) (by simp [Value.oneCell']) (by omega) ?_
                 intro v5 w5 hr5 hk5 hn5
                 obtain ⟨A5, c5, rfl⟩ := hr5.shape
                 have HR5 := bx hr5
                 have HK5 := bx (show Kept (isAt (.slice lA k lc)) Y w5 from Kept.trans (S := isAt (.slice lA k lc)) ((Kept.refl (isAt (.slice lA k lc)) Y).alloc _) hk5 (fun _ _ h => h))
                 have HN5 := bx hn5
                 clear hr5 hk5 hn5))
            go_roundw
            case rel =>
              refine ⟨k + 1, by omega, by go_num, ?_, grown_at HAT.out HN5.out (by have := HKK.out.size; simp; omega), HKK.out.trans HK5.out (fun g hg h => by have := HAT.out g h; omega)⟩
              have h := HR5.out
              rw [List.replicate_succ', nums_append]
              exact h
            case measure => exact measN _ k hkm
          · have HKE := bx (show k = m by omega)
            rcases (show (k : Int) = (n : Int) ∨ ((k : Int) < (n : Int) ∧ (k : Int) = (lack : Int)) by have := HMM.out; have := HKE.out; omega) with e1 | ⟨e1, e2⟩
            · have q5 : decide ((k : Int) < (n : Int)) = false := decide_eq_false (by omega)
              have q5' : decide (k < n) = false := decide_eq_false (by omega)
              clear e1
              go_wp2_with fail
              go_ret2
              exact rchunk_some HN.out (by rw [List.length_replicate]; exact HKE.out) (by rw [← HKE.out]; exact HRW.out) HAT.out HKK.out
            · have q5 : decide ((k : Int) < (n : Int)) = true := decide_eq_true (by omega)
              have q5' : decide (k < n) = true := decide_eq_true (by omega)
              have q6 : decide ((k : Int) < (lack : Int)) = false := decide_eq_false (by omega)
              have q6' : decide (k < lack) = false := decide_eq_false (by omega)
              clear e1 e2
              go_wp2_with fail
              go_ret2
              exact rchunk_some HN.out (by rw [List.length_replicate]; exact HKE.out) (by rw [← HKE.out]; exact HRW.out) HAT.out HKK.out
  · have q1 : (v / 32768 == 0) = false := by rw [beq_eq_false_iff_ne]; exact hb0
    have HB0 := bx (show ¬ val s r 1 = 0 by rw [HM0.out]; exact hb0)
    by_cases hb1 : v / 16384 = 3
    · have q2 : (v / 16384 == 3) = true := by rw [beq_iff_eq]; exact hb1
      have HB1 := bx (show val s (r + 1) 1 = 1 by rw [HM3.out]; omega)
      have HCD := bx (show chunkD s r lack = if rowOk s (r + 2) 2 lack 7 = true then some (rowL s (r + 2) 2 (min 7 lack)) else none by
        unfold chunkD
        rw [if_neg HB0.out, if_pos HB1.out])
      clear hb0 hb1
      go_wp2_with fail
      go_loopw [6, 12] (fun lv iv wx => ∃ k : Nat, (k : Int) ≤ 7 ∧ iv = .int .i64 (k : Int) ∧ rowOk s (r + 2) 2 lack k = true ∧ ∃ (u : Value) (m : Nat), lv = u ∧ m = min k lack ∧ RW wx 1 u m (nums .i64 (rowL s (r + 2) 2 m)) ∧ (∀ g, isAt u g → w.heap.size ≤ g) ∧ Kept (fun _ => False) w wx) (fun _ iv _ => (7 - intOf iv).toNat)
      case atStart => exact ⟨0, by omega, rfl, rfl, .slice none 0 0, 0, rfl, by omega, RW.nil _ _, (by rintro g ⟨o, m, c, e⟩; cases e), Kept.refl _ w⟩
      case round =>
        obtain ⟨k, hk, rfl, hok, lv, m, rfl, hm, hrw, hat, hkk⟩ := hrel
        obtain ⟨lA, lc, rfl⟩ := hrw.shape
        have HOK := bx hok
        have HRW := bx hrw
        have HAT := bx hat
        have HKK := bx hkk
        rename World => Y
        clear hrw hat hkk hok
        by_cases hkm : (k : Int) < 7
        · have q5 : decide ((k : Int) < 7) = true := decide_eq_true hkm
          have q5' : decide (k < 7) = true := decide_eq_true (by omega)
          obtain ⟨c, hc⟩ : ∃ c, c = codeAt s (r + 2) 2 k := ⟨_, rfl⟩
          have hcb : 0 ≤ c ∧ c < 4 := by rw [hc]; exact val_bd s _ 2
          obtain ⟨c0, c1⟩ := hcb
          have HCC := bx hc
          have hcd : Go.bits .and .u32 (v / 2 ^ (14 - 2 * (k + 1))) 3 = c := by
            have h2 := val_mid s r (2 + 2 * k) 2 (14 - 2 * (k + 1))
            rw [show 2 + 2 * k + 2 + (14 - 2 * (k + 1)) = 16 by omega, ← HV.out, ← Nat.add_assoc] at h2
            have p1 : (0 : Int) < 2 ^ (14 - 2 * (k + 1)) := Int.pow_pos (by omega)
            have b1 : v / 2 ^ (14 - 2 * (k + 1)) ≤ v := Int.ediv_le_self _ v0
            rw [and3 _ (Int.ediv_nonneg v0 (by omega)) (by omega), hc]
            unfold codeAt
            rw [h2]
            rfl
          clear hc
          by_cases hc3 : c = 3
          · have q9 : (c == 3) = true := by rw [beq_iff_eq]; exact hc3
            have HN := bx (show chunkD s r lack = none by
              rw [HCD.out]
              cases hx : rowOk s (r + 2) 2 lack 7 with
              | false => rfl
              | true =>
                have hy := rowOk_at hx (show k < 7 by omega)
                rw [← HCC.out] at hy
                omega)
            clear hc3 hm
            go_wp2_with fail
            go_ret2
            exact rchunk_none HN.out HKK.out
          · have q9 : (c == 3) = false := by rw [beq_eq_false_iff_ne]; exact hc3
            have hc2 : c ≤ 2 := by omega
            clear hc3
            by_cases hkl : (k : Int) < (lack : Int)
            · have hmk : k = m := by omega
              clear hm
              subst hmk
              have q6 : decide ((k : Int) < (lack : Int)) = true := decide_eq_true hkl
              have q6' : decide (k < lack) = true := decide_eq_true (by omega)
              have q7 : decide ((lack : Int) ≤ (k : Int)) = false := decide_eq_false (by omega)
              have q7' : decide (lack ≤ k) = false := decide_eq_false (by omega)
              have HOK2 := bx (show rowOk s (r + 2) 2 lack (k + 1) = true by rw [rowOk, HOK.out, ← HCC.out, decide_eq_true (p := c ≤ 2) hc2, decide_eq_true (p := k < lack) (by omega)]; rfl)
              clear hc2
              go_wp2_with (first
                | (at_builtin
                   refine wpList_row rfl (.tmp 81) (.tmp 83) 23 rfl 3 (.int .i64 0) 1 8 Try.underlying23 info_int rfl (by omega) (.slice lA k lc) k (nums .i64 (rowL s (r + 2) 2 k)) rfl (HRW.out.kept ((Kept.refl (fun _ => False) Y).alloc _) (fun _ _ => id)) _ _ [.int .i64 c] rfl (Rd.one Y _ _) (by simp [Value.oneCell']) (by omega) ?_
                   intro v5 w5 hr5 hk5 hn5
                   obtain ⟨A5, c5, rfl⟩ := hr5.shape
                   have HR5 := bx hr5
                   have HK5 := bx (show Kept (isAt (.slice lA k lc)) Y w5 from Kept.trans (S := isAt (.slice lA k lc)) ((Kept.refl (isAt (.slice lA k lc)) Y).alloc _) hk5 (fun _ _ h => h))
                   have HN5 := bx hn5
                   clear hr5 hk5 hn5))
              go_roundw
              case rel =>
                refine ⟨k + 1, by omega, by go_num, HOK2.out, .slice A5 (k + 1) c5, k + 1, rfl, by omega, ?_, grown_at HAT.out HN5.out (by have := HKK.out.size; simp; omega), HKK.out.trans HK5.out (fun g hg h => by have := HAT.out g h; omega)⟩
                have h := HR5.out
                rw [rowL_succ, nums_append, ← HCC.out]
                exact h
              case measure => exact measN _ k hkm
            · have hml : lack = m := by omega
              clear hm
              subst hml
              have q6 : decide ((k : Int) < (lack : Int)) = false := decide_eq_false hkl
              have q6' : decide (k < lack) = false := decide_eq_false (by omega)
              have q7 : decide ((lack : Int) ≤ (k : Int)) = true := decide_eq_true (by omega)
              have q7' : decide (lack ≤ k) = true := decide_eq_true (by omega)
              by_cases hc0 : c = 0
              · have HOK2 := bx (show rowOk s (r + 2) 2 lack (k + 1) = true by rw [rowOk, HOK.out, ← HCC.out, decide_eq_true (p := c ≤ 2) hc2, decide_eq_true (p := c = 0) hc0, Bool.or_true]; rfl)
                have q8 : (c == 0) = true := by rw [beq_iff_eq]; exact hc0
                have q8' : (c != 0) = false := by rw [bne, q8]; rfl
                clear hc2 hc0
                go_wp2_with fail
                go_roundw
                case rel => exact ⟨k + 1, by omega, by go_num, HOK2.out, .slice lA lack lc, lack, rfl, by omega, HRW.out, HAT.out, HKK.out⟩
                case measure => exact measN _ k hkm
              · have q8 : (c == 0) = false := by rw [beq_eq_false_iff_ne]; exact hc0
                have q8' : (c != 0) = true := by rw [bne, q8]; rfl
                have HN := bx (show chunkD s r lack = none by
                  rw [HCD.out]
                  cases hx : rowOk s (r + 2) 2 lack 7 with
                  | false => rfl
                  | true =>
                    have hy := rowOk_at hx (show k < 7 by omega)
                    rw [← HCC.out] at hy
                    omega)
                clear hc2 hc0
                go_wp2_with fail
                go_ret2
                exact rchunk_none HN.out HKK.out
        · have hke : k = 7 := by omega
          subst hke
          have HMM := bx hm
          clear hm
          have q5 : decide (((7 : Nat) : Int) < 7) = false := by decide
          have HN := bx (show chunkD s r lack = some (rowL s (r + 2) 2 m) by rw [HCD.out, if_pos HOK.out, HMM.out])
          clear hkm hk
          go_wp2_with fail
          go_ret2
          exact rchunk_some HN.out (by rw [rowL_len]) HRW.out HAT.out HKK.out
    · have q2 : (v / 16384 == 3) = false := by rw [beq_eq_false_iff_ne]; exact hb1
      have HB1 := bx (show ¬ val s (r + 1) 1 = 1 by rw [HM3.out]; omega)
      have HCD := bx (show chunkD s r lack = if rowOk s (r + 2) 1 lack 14 = true then some (rowL s (r + 2) 1 (min 14 lack)) else none by
        unfold chunkD
        rw [if_neg HB0.out, if_neg HB1.out])
      clear hb0 hb1
      go_wp2_with fail
      go_loopw [6, 12] (fun lv iv wx => ∃ k : Nat, (k : Int) ≤ 14 ∧ iv = .int .i64 (k : Int) ∧ rowOk s (r + 2) 1 lack k = true ∧ ∃ (u : Value) (m : Nat), lv = u ∧ m = min k lack ∧ RW wx 1 u m (nums .i64 (rowL s (r + 2) 1 m)) ∧ (∀ g, isAt u g → w.heap.size ≤ g) ∧ Kept (fun _ => False) w wx) (fun _ iv _ => (14 - intOf iv).toNat)
      case atStart => exact ⟨0, by omega, rfl, rfl, .slice none 0 0, 0, rfl, by omega, RW.nil _ _, (by rintro g ⟨o, m, c, e⟩; cases e), Kept.refl _ w⟩
      case round =>
        obtain ⟨k, hk, rfl, hok, lv, m, rfl, hm, hrw, hat, hkk⟩ := hrel
        obtain ⟨lA, lc, rfl⟩ := hrw.shape
        have HOK := bx hok
        have HRW := bx hrw
        have HAT := bx hat
        have HKK := bx hkk
        rename World => Y
        clear hrw hat hkk hok
        by_cases hkm : (k : Int) < 14
        · have q5 : decide ((k : Int) < 14) = true := decide_eq_true hkm
          have q5' : decide (k < 14) = true := decide_eq_true (by omega)
          obtain ⟨c, hc⟩ : ∃ c, c = codeAt s (r + 2) 1 k := ⟨_, rfl⟩
          have hcb : 0 ≤ c ∧ c < 2 := by rw [hc]; exact val_bd s _ 1
          obtain ⟨c0, c1⟩ := hcb
          have HCC := bx hc
          have hcd : Go.bits .and .u32 (v / 2 ^ (14 - 1 * (k + 1))) 1 = c := by
            have h2 := val_mid s r (2 + 1 * k) 1 (14 - 1 * (k + 1))
            rw [show 2 + 1 * k + 1 + (14 - 1 * (k + 1)) = 16 by omega, ← HV.out, ← Nat.add_assoc] at h2
            have p1 : (0 : Int) < 2 ^ (14 - 1 * (k + 1)) := Int.pow_pos (by omega)
            have b1 : v / 2 ^ (14 - 1 * (k + 1)) ≤ v := Int.ediv_le_self _ v0
            rw [and1 _ (Int.ediv_nonneg v0 (by omega)) (by omega), hc]
            unfold codeAt
            rw [h2]
            rfl
          have hcd' := hcd
          rw [Nat.one_mul, show 14 - (k + 1) = 13 - k by omega] at hcd'
          clear hc
          have q9 : (c == 3) = false := by rw [beq_eq_false_iff_ne]; omega
          have hc2 : c ≤ 2 := by omega
          by_cases hkl : (k : Int) < (lack : Int)
          · have hmk : k = m := by omega
            clear hm
            subst hmk
            have q6 : decide ((k : Int) < (lack : Int)) = true := decide_eq_true hkl
            have q6' : decide (k < lack) = true := decide_eq_true (by omega)
            have q7 : decide ((lack : Int) ≤ (k : Int)) = false := decide_eq_false (by omega)
            have q7' : decide (lack ≤ k) = false := decide_eq_false (by omega)
            have HOK2 := bx (show rowOk s (r + 2) 1 lack (k + 1) = true by rw [rowOk, HOK.out, ← HCC.out, decide_eq_true (p := c ≤ 2) hc2, decide_eq_true (p := k < lack) (by omega)]; rfl)
            clear hc2
            go_wp2_with (first
              | (at_builtin
                 refine wpList_row rfl (.tmp 81) (.tmp 83) 23 rfl 3 (.int .i64 0) 1 8 Try.underlying23 info_int rfl (by omega) (.slice lA k lc) k (nums .i64 (rowL s (r + 2) 1 k)) rfl (HRW.out.kept ((Kept.refl (fun _ => False) Y).alloc _) (fun _ _ => id)) _ _ [.int .i64 c] rfl (Rd.one Y _ _) (by simp [Value.oneCell']) (by omega) ?_
                 intro v5 w5 hr5 hk5 hn5
                 obtain ⟨A5, c5, rfl⟩ := hr5.shape
                 have HR5 := bx hr5
                 have HK5 := bx (show Kept (isAt (.slice lA k lc)) Y w5 from Kept.trans (S := isAt (.slice lA k lc)) ((Kept.refl (isAt (.slice lA k lc)) Y).alloc _) hk5 (fun _ _ h => h))
                 have HN5 := bx hn5
                 clear hr5 hk5 hn5))
            go_roundw
            case rel =>
              refine ⟨k + 1, by omega, by go_num, HOK2.out, .slice A5 (k + 1) c5, k + 1, rfl, by omega, ?_, grown_at HAT.out HN5.out (by have := HKK.out.size; simp; omega), HKK.out.trans HK5.out (fun g hg h => by have := HAT.out g h; omega)⟩
              have h := HR5.out
              rw [rowL_succ, nums_append, ← HCC.out]
              exact h
            case measure => exact measN _ k hkm
          · have hml : lack = m := by omega
            clear hm
            subst hml
            have q6 : decide ((k : Int) < (lack : Int)) = false := decide_eq_false hkl
            have q6' : decide (k < lack) = false := decide_eq_false (by omega)
            have q7 : decide ((lack : Int) ≤ (k : Int)) = true := decide_eq_true (by omega)
            have q7' : decide (lack ≤ k) = true := decide_eq_true (by omega)
            by_cases hc0 : c = 0
            · have HOK2 := bx (show rowOk s (r + 2) 1 lack (k + 1) = true by rw [rowOk, HOK.out, ← HCC.out, decide_eq_true (p := c ≤ 2) hc2, decide_eq_true (p := c = 0) hc0, Bool.or_true]; rfl)
              have q8 : (c == 0) = true := by rw [beq_iff_eq]; exact hc0
              have q8' : (c != 0) = false := by rw [bne, q8]; rfl
              clear hc2 hc0
              go_wp2_with fail
              go_roundw
              case rel => exact ⟨k + 1, by omega, by go_num, HOK2.out, .slice lA lack lc, lack, rfl, by omega, HRW.out, HAT.out, HKK.out⟩
              case measure => exact measN _ k hkm
            · have q8 : (c == 0) = false := by rw [beq_eq_false_iff_ne]; exact hc0
              have q8' : (c != 0) = true := by rw [bne, q8]; rfl
              have HN := bx (show chunkD s r lack = none by
                rw [HCD.out]
                cases hx : rowOk s (r + 2) 1 lack 14 with
                | false => rfl
                | true =>
                  have hy := rowOk_at hx (show k < 14 by omega)
                  rw [← HCC.out] at hy
                  omega)
              clear hc2 hc0
              go_wp2_with fail
              go_ret2
              exact rchunk_none HN.out HKK.out
        · have hke : k = 14 := by omega
          subst hke
          have HMM := bx hm
          clear hm
          have q5 : decide (((14 : Nat) : Int) < 14) = false := by decide
          have HN := bx (show chunkD s r lack = some (rowL s (r + 2) 1 m) by rw [HCD.out, if_pos HOK.out, HMM.out])
          clear hkm hk
          go_wp2_with fail
          go_ret2
          exact rchunk_some HN.out (by rw [rowL_len]) HRW.out HAT.out HKK.out
end Go.Proofs.Ytmedlplgeeeodaa.Tw
