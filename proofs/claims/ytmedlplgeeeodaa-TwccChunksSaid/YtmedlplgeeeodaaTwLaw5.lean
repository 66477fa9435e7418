/- The law of chunks; no condition but that the arguments are of their kinds. -/
import Derived.Test.YtmedlplgeeeodaaTwLaw3
import Derived.Test.YtmedlplgeeeodaaTwRuns
namespace Go.Proofs.Ytmedlplgeeeodaa.Tw
open Go.RowKit Go.Proofs.Ytmedlplgeeeodaa.Plain Go.Proofs.Ytmedlplgeeeodaa.Heap Go.Proofs.Ytmedlplgeeeodaa.Open Go.Proofs.Ytmedlplgeeeodaa.Rows Go.Proofs.Ytmedlplgeeeodaa.Bits Go.Proofs.Ytmedlplgeeeodaa.Tail
theorem run_cut (w : World) (T : ByteArray) (K : Nat) (h : K ≤ T.size) : (Instr.slice 9 (.string T) none (some (.int .i64 (K : Int))) none).run Try.prog w = .ok (.string (T.extract 0 K)) w := by
  have := run_slice_string_h (P := Try.prog) w 9 T Try.underlying9 .i64 (K : Int) (by omega) (by omega)
  simpa using this
def zero4 : ByteArray := ⟨#[0, 0, 0, 0]⟩
theorem measC (n i : Nat) (hi : i < n) : (n - (intOf (.int .i64 ((i : Int) + 1))).toNat) < n - (intOf (.int .i64 (i : Int))).toNat := by simp [intOf]; omega
/-- All that is asked of the body's length, and of its two neighbours. -/
theorem ch_facts {h : Tw} {S : ByteArray} (ok : okT h) (hg : goodT h = true) (hS : S = txt (encB h)) :
    ∃ (L n B C : Int) (K : Nat) (P : ByteArray), (S.size : Int) = L ∧ n = h.st.length ∧ B = sumTo h.st h.st.length ∧ C = tn h.st h.st.length ∧ L = K + 4 ∧ 0 ≤ B ∧ B ≤ 8192 ∧ 1 ≤ C ∧ C ≤ 4097 ∧ 1 ≤ n ∧ n ≤ 4096 ∧ 18 + B ≤ L ∧ L ≤ 16 + B + 2 * (n / 7 + C + 1) + 3 ∧ L % 4 = 0 ∧ L ≤ 20000 ∧
      decT (S ++ zero4) = (zeroT, 91) ∧ decT P = (zeroT, 60) ∧ (∀ wx, (Instr.slice 9 (.string S) none (some (.int .i64 (K : Int))) none).run Try.prog wx = .ok (.string P) wx) ∧ (S ++ zero4).size ≤ 1099511627776 ∧ P.size ≤ 1099511627776 := by
  obtain ⟨f1, f2, f3, f4, f5, f6⟩ := encB_facts hg
  obtain ⟨k1, k2, k3⟩ := goodT_iff hg
  have g := goodB_iff.1 k1
  have hr := encA_runs h
  have hs := sumTo_le k2 h.st.length (Nat.le_refl _)
  have ht := tn_le h.st h.st.length
  have ht1 : 1 ≤ tn h.st h.st.length := Nat.le_trans (runs_pos (l := h.st.take h.st.length) (by rw [List.take_length]; intro e; rw [e] at g; simp at g)) (runs_tn h.st h.st.length (Nat.le_refl _))
  have hA := encA_len h
  have hC : 16 ≤ (encC h.st.length h.st).length := by
    obtain ⟨f, hf⟩ : ∃ f, h.st.length = f + 1 := ⟨h.st.length - 1, by omega⟩
    have : encC h.st.length h.st = encC (f + 1) h.st := by rw [hf]
    rw [this, encC_cons (by omega), List.length_append, lay_len]
    omega
  have hP : (txt (encB h)).extract 0 ((txt (encB h)).size - 4) = (txt (encB h)).extract 0 ((txt (encB h)).size - 4) := rfl
  have hPs : ((txt (encB h)).extract 0 ((txt (encB h)).size - 4)).size = (txt (encB h)).size - 4 := by rw [ByteArray.size_extract]; omega
  have h18 : 18 + sumTo h.st h.st.length ≤ (txt (encB h)).size := by omega
  have hmost : (txt (encB h)).size ≤ 16 + sumTo h.st h.st.length + 2 * (h.st.length / 7 + tn h.st h.st.length) + 3 := by omega
  subst hS
  refine ⟨((txt (encB h)).size : Int), h.st.length, sumTo h.st h.st.length, tn h.st h.st.length, (txt (encB h)).size - 4, (txt (encB h)).extract 0 ((txt (encB h)).size - 4), rfl, rfl, rfl, rfl, by omega, by omega, by omega, by omega, by omega, by omega, by omega, by omega, ?_, by omega, by omega, decT_more ok hg rfl, ?_, fun wx => run_cut wx _ _ (by omega), ?_, by omega⟩
  · omega
  · refine decT_less ok hg (by omega) fun i hi => ?_
    unfold bt
    have e : ((txt (encB h)).extract 0 ((txt (encB h)).size - 4)).data.toList = (txt (encB h)).data.toList.take ((txt (encB h)).size - 4) := by simp [ByteArray.data_extract]
    rw [e]
    congr 3
    simp only [List.getD_eq_getElem?_getD]
    rw [List.getElem?_take, if_pos (by omega)]
  · have : (txt (encB h) ++ zero4).size = (txt (encB h)).size + 4 := by rw [ByteArray.size_append]; rfl
    omega
set_option linter.unusedSimpArgs false in
set_option maxRecDepth 10000 in
set_option maxHeartbeats 8000000 in
theorem TwccChunks_any (v : Value) (h : Tw) (w : World) (k : TC w v h) (ok : okT h) :
    Calls Try.prog 7 #[v] w fun e w' => e = .returned (.bool true) ∧ Below w.heap.size w w' := by
  obtain ⟨A, c, B, d, rfl, k1, k2, k3⟩ := k
  obtain ⟨b0, hb0⟩ : ∃ b0, b0 = w.heap.size := ⟨_, rfl⟩
  obtain ⟨W0, hW0⟩ : ∃ W0, W0 = w.alloc (.cells (tcs h A c B d) 25) := ⟨_, rfl⟩
  have H0 := bx (show TX w W0 b0 h A c B d by rw [hb0]; exact TX.new (Below.refl _ w) k1 k2 hW0)
  have HE := bx hb0
  have HW := bx hW0
  have OK := bx ok
  clear k1 k2 k3 hb0 hW0 ok
  obtain ⟨n, hn⟩ : ∃ n, n = h.st.length := ⟨_, rfl⟩
  obtain ⟨m, hm⟩ : ∃ m, m = h.ds.length := ⟨_, rfl⟩
  have HN := bx hn
  have HM := bx hm
  clear hn hm
  obtain ⟨x0, x1, x2, x3, x4, x5, x6⟩ := tx_cells H0.out HN.out HM.out
  go_enter Try.func7, Try.ntmps7
  go_upto_region 1 with fail
  rw [← HW.out, ← HE.out]
  go_wp2_with fail
  refine (large_any _ h W0 (tr_agg H0.out.tr HN.out HM.out)).mono ?_
  rintro e W1 ⟨rfl, hb⟩
  have H1 := bx (H0.out.run hb)
  have hsm := bx (fun hl : largeB h = false => small_of hl)
  obtain ⟨lg, hlg⟩ : ∃ lg, lg = largeB h := ⟨_, rfl⟩
  rw [← hlg] at hsm ⊢
  clear hb hlg x0 x1 x2 x3 x4 x5 x6
  obtain ⟨x0, x1, x2, x3, x4, x5, x6⟩ := tx_cells H1.out HN.out HM.out
  cases lg with
  | true =>
    clear hsm
    go_wp2_with fail
    refine (wakes_any W1).mono ?_
    rintro e W99 ⟨rfl, hb99⟩
    have H99 := bx (H1.out.run hb99)
    clear hb99
    go_wp2_with fail
    go_ret
    exact ⟨rfl, H99.out.bw⟩
  | false =>
    have HSM := bx (hsm.out rfl)
    clear hsm
    go_wp2_with fail
    refine (rgood_any _ h W1 (tr_agg H1.out.tr HN.out HM.out)).mono ?_
    rintro e W2 ⟨rfl, hb⟩
    have H2 := bx (H1.out.run hb)
    clear hb x0 x1 x2 x3 x4 x5 x6
    cases hg : goodT h with
    | false =>
      clear hg
      go_wp2_with fail
      refine (wakes_any W2).mono ?_
      rintro e W99 ⟨rfl, hb99⟩
      have H99 := bx (H2.out.run hb99)
      clear hb99
      go_wp2_with fail
      go_ret
      exact ⟨rfl, H99.out.bw⟩
    | true =>
      have HG := bx hg
      clear hg
      obtain ⟨x0, x1, x2, x3, x4, x5, x6⟩ := tx_cells H2.out HN.out HM.out
      go_wp2_with fail
      refine (copy_any _ h W2 (tr_agg H2.out.tr HN.out HM.out) HSM.out).mono ?_
      rintro e W3 ⟨v2, rfl, ⟨A3, c3, B3, d3, rfl, k1, k2, k3⟩, hb⟩
      have H3 := bx (H2.out.run hb)
      have HTC := bx (show TC W3 (.agg #[.int .u32 h.sn, .int .u32 h.md, .int .i64 h.fi, .int .i64 h.ba, .int .i64 h.ct, .slice A3 n c3, .slice B3 m d3]) h from ⟨A3, c3, B3, d3, by rw [HN.out, HM.out], k1, k2, k3⟩)
      clear hb k1 k2 k3 x0 x1 x2 x3 x4 x5 x6
      rw [← HN.out, ← HM.out]
      go_wp2_with fail
      refine (encode_any _ h W3 HTC.out OK.out).mono ?_
      rw [encR_good HG.out]
      rintro e W4 ⟨rfl, hb⟩
      have H4 := bx (H3.out.run hb)
      clear hb HTC
      simp only
      obtain ⟨E1, hE1⟩ : ∃ E, E = txt (encB h) := ⟨_, rfl⟩
      rw [← hE1]
      obtain ⟨L, N, Bt, C, K, P, q1, q2, q3, q4, q5, q6, q7, q8, q9, q10, q11, q12, q13, q14, q15, q16, q17, q18, q19, q20⟩ := ch_facts OK.out HG.out hE1
      rw [← HN.out] at q2
      rw [← HN.out] at q3 q4
      have HQ := bx (And.intro q1 (And.intro q5 (And.intro q12 (And.intro q13 (And.intro q14 (And.intro q15 q18))))))
      have HD := bx (And.intro q16 (And.intro q17 (And.intro q19 q20)))
      have HQ2 := bx (And.intro q6 (And.intro q7 (And.intro q8 q9)))
      have HQ3 := bx (And.intro q3 q4)
      have HST := bx (fun (i : Nat) (x : Int) (hx : h.st[i]? = some x) => st_range (goodT_iff HG.out).2.1 hx)
      have hn1 : 1 ≤ (n : Int) := by omega
      have hn2 : (n : Int) ≤ 4096 := by omega
      have HN7 := bx q2
      clear q1 q2 q3 q4 q5 q6 q7 q8 q9 q10 q11 q12 q13 q14 q15 q16 q17 q18 q19 q20 hE1
      obtain ⟨x0, x1, x2, x3, x4, x5, x6⟩ := tx_cells H4.out HN.out HM.out
      have hl := World.block_lt_of_cell? _ _ x5
      go_wp2_with fail
      go_loopw [5, 6, 7] (fun s t i wr => ∃ k q : Nat, k ≤ n ∧ s = .int .i64 (sumTo h.st k : Nat) ∧ t = .int .i64 (tn h.st k : Nat) ∧ i = .int .i64 k ∧ wr = W4.drewN q) (fun _ _ i _ => n - (intOf i).toNat)
      case atStart => exact ⟨0, 0, Nat.zero_le _, rfl, rfl, rfl, rfl⟩
      case round =>
        obtain ⟨k, q, hk, rfl, rfl, rfl, rfl⟩ := hrel
        by_cases hlt : k < n
        · have hlt' : (k : Int) < (n : Int) := by omega
          obtain ⟨g, off, x, rfl, hg, hx, _, hc⟩ := int_at (by have := H4.out.r1; rw [← HN.out] at this; exact this) hlt
          have hxx := HST.out k x hx
          obtain ⟨S1, hS1⟩ : ∃ S1 : Int, ((sumTo h.st k : Nat) : Int) = S1 := ⟨_, rfl⟩
          obtain ⟨T1, hT1⟩ : ∃ T1 : Int, ((tn h.st k : Nat) : Int) = T1 := ⟨_, rfl⟩
          have HS2 := bx (show ((sumTo h.st (k + 1) : Nat) : Int) = S1 + x by rw [sumTo_succ hx]; omega)
          have hS0 : 0 ≤ S1 := by omega
          have hS3 : S1 ≤ 8192 := by
            have := sumTo_le (goodT_iff HG.out).2.1 k (by have := HN.out; omega)
            omega
          have hT0 : 0 ≤ T1 := by omega
          have hT3 : T1 ≤ 4097 := by
            have := tn_le h.st k
            omega
          have HX := bx hx
          have HS1 := bx hS1
          have HT1 := bx hT1
          have hx0 : 0 ≤ x := by omega
          have hx2 : x ≤ 2 := by omega
          rw [hS1, hT1]
          clear hS1 hT1 hxx hx HST HQ HD HQ2 HQ3
          rcases Nat.eq_zero_or_pos k with hk0 | hk0
          · have hT : T1 = 1 := by have := HT1.out; rw [hk0] at this; simp only [tn] at this; omega
            have hd0 : decide ((0 : Int) < (k : Int)) = false := decide_eq_false (by omega)
            have hd1 : decide (0 < k) = false := decide_eq_false (by omega)
            have HTS := bx (show tn h.st (k + 1) = 1 by rw [hk0]; simp [tn])
            subst hT
            clear hk0
            go_wp2_with fail
            go_quiet (fail)
            go_wp2_with fail
            go_roundw
            case rel => exact ⟨k + 1, _, by omega, by rw [HS2.out], by rw [HTS.out]; rfl, by go_num, rfl⟩
            case measure => exact measC n k hlt
          · obtain ⟨j, hjk0⟩ : ∃ j, j + 1 = k := ⟨k - 1, by omega⟩
            obtain ⟨g', off', y, e, hg', hy, _, hcy⟩ := int_at (by have := H4.out.r1; rw [← HN.out] at this; exact this) (show j < n by omega)
            injection e with e; injection e with e1 e2
            subst e1 e2
            have HY := bx hy
            have hj : IntKind.i64.wrap ((k : Int) - 1) = (j : Int) := by
              rw [show (k : Int) - 1 = (j : Int) by omega]
              exact IntWalk.i64_in _ (by omega)
            have hjk : decide ((0 : Int) < (k : Int)) = true := decide_eq_true (by omega)
            have hjk1 : decide (0 < k) = true := decide_eq_true (by omega)
            have HTS := bx (show tn h.st (k + 1) = tn h.st k + if x ≠ y then 1 else 0 by
              rw [tn]
              have e1 : h.st.getD k 0 = x := getD_of HX.out
              have e2 : h.st.getD (k - 1) 0 = y := by rw [show k - 1 = j by omega]; exact getD_of HY.out
              rw [e1, e2]
              by_cases hxy : x = y
              · rw [if_neg (fun hc => hc.2 hxy), if_neg (fun hc => hc hxy)]
              · rw [if_pos ⟨by omega, hxy⟩, if_pos hxy])
            have hj0 : (j : Int) < (n : Int) := by omega
            clear hy hk0 hjk0
            by_cases hxy : x = y
            · subst hxy
              have HTS := bx (show tn h.st (k + 1) = tn h.st k by rw [HTS.out, if_neg (fun hc => hc rfl)]; rfl)
              go_wp2_with fail
              go_quiet (fail)
              go_wp2_with fail
              go_roundw
              case rel => exact ⟨k + 1, _, by omega, by rw [HS2.out], by rw [HTS.out, HT1.out], by go_num, rfl⟩
              case measure => exact measC n k hlt
            · have hne : (x == y) = false := by rw [beq_eq_false_iff_ne]; exact hxy
              have HTS := bx (show ((tn h.st (k + 1) : Nat) : Int) = T1 + 1 by rw [HTS.out, if_pos hxy, ← HT1.out]; rfl)
              go_wp2_with fail
              go_quiet (fail)
              go_wp2_with fail
              go_roundw
              case rel => exact ⟨k + 1, _, by omega, by rw [HS2.out], by rw [HTS.out], by go_num, rfl⟩
              case measure => exact measC n k hlt
        · obtain rfl : k = n := by omega
          have HL1 := bx (show ((sumTo h.st k : Nat) : Int) = Bt by rw [HQ3.out.1, HN.out])
          have HL2 := bx (show ((tn h.st k : Nat) : Int) = C by rw [HQ3.out.2, HN.out])
          rw [HL1.out, HL2.out]
          obtain ⟨q1, q5, q12, q13, q14, q15, q18⟩ := HQ.out
          obtain ⟨q6, q7, q8, q9⟩ := HQ2.out
          obtain ⟨Q7, hQ7⟩ : ∃ Q7 : Int, (k : Int) / 7 = Q7 := ⟨_, rfl⟩
          have hQ0 : 0 ≤ Q7 := by omega
          have hQ1 : Q7 ≤ 600 := by omega
          obtain ⟨M1, e1⟩ : ∃ M1, wrap64 (16 + Bt) = M1 := ⟨_, rfl⟩
          obtain ⟨M2, e2⟩ : ∃ M2, wrap64 (M1 + 2) = M2 := ⟨_, rfl⟩
          obtain ⟨M3, e3⟩ : ∃ M3, wrap64 (Q7 + C) = M3 := ⟨_, rfl⟩
          obtain ⟨M4, e4⟩ : ∃ M4, wrap64 (M3 + 1) = M4 := ⟨_, rfl⟩
          obtain ⟨M5, e5⟩ : ∃ M5, wrap64 (2 * M4) = M5 := ⟨_, rfl⟩
          obtain ⟨M6, e6⟩ : ∃ M6, wrap64 (M1 + M5) = M6 := ⟨_, rfl⟩
          obtain ⟨M7, e7⟩ : ∃ M7, wrap64 (M6 + 3) = M7 := ⟨_, rfl⟩
          have g1 : M1 = 16 + Bt := by rw [← e1]; exact IntWalk.wrap64_in _ (by omega)
          have g2 : M2 = M1 + 2 := by rw [← e2]; exact IntWalk.wrap64_in _ (by omega)
          have g3 : M3 = Q7 + C := by rw [← e3]; exact IntWalk.wrap64_in _ (by omega)
          have g4 : M4 = M3 + 1 := by rw [← e4]; exact IntWalk.wrap64_in _ (by omega)
          have g5 : M5 = 2 * M4 := by rw [← e5]; exact IntWalk.wrap64_in _ (by omega)
          have g6 : M6 = M1 + M5 := by rw [← e6]; exact IntWalk.wrap64_in _ (by omega)
          have g7 : M7 = M6 + 3 := by rw [← e7]; exact IntWalk.wrap64_in _ (by omega)
          have a1 : decide (M2 ≤ L) = true := decide_eq_true (by omega)
          have a2 : decide (L ≤ M7) = true := decide_eq_true (by have := HN7.out; omega)
          have a3 : IntKind.i64.wrap (L.tmod 4) = 0 := by
            rw [Int.tmod_eq_emod_of_nonneg (by omega), q14]
            rfl
          have a3' : L.tmod 4 = 0 := by rw [Int.tmod_eq_emod_of_nonneg (by omega), q14]
          have a4 : IntKind.i64.wrap (L - 4) = (K : Int) := by rw [show L - 4 = (K : Int) by omega]; exact IntWalk.i64_in _ (by omega)
          have a5 : decide (L < 4) = false := decide_eq_false (by omega)
          have a6 : 18 ≤ L := by omega
          have HD2 := bx (show decT (E1 ++ ⟨#[0, 0, 0, 0]⟩) = (zeroT, 91) from HD.out.1)
          have HD3 := bx (show (E1 ++ ⟨#[0, 0, 0, 0]⟩).size ≤ 1099511627776 from HD.out.2.2.1)
          have HD4 := bx HD.out.2.1
          have HD5 := bx HD.out.2.2.2
          clear q5 q12 q13 q14 q6 q7 q8 q9 hQ0 hQ1 g1 g2 g3 g4 g5 g6 g7 HQ HQ2 HQ3 HD
          go_wp2_with fail
          go_quiet (fail)
          clear e1 e3 e4 e5 e6 hQ7
          go_wp2_with fail
          clear x0 x1 x2 x3 x4 x5 x6
          refine (decode_any _ _ HD3.out).mono ?_
          unfold DecPost
          rw [HD2.out]
          rintro e W5 ⟨v5, rfl, ⟨A5, c5, B5, d5, rfl, _, _, _⟩, hb5⟩
          have H5 := bx ((H4.out.run (((Kept.refl (fun _ => False) W4).drewN _).below (Nat.le_refl _) (fun _ e => e.elim))).run hb5)
          clear hb5
          simp only
          go_wp2_with fail
          refine (decode_any P _ HD5.out).mono ?_
          unfold DecPost
          rw [HD4.out]
          rintro e W6 ⟨v6, rfl, ⟨A6, c6, B6, d6, rfl, _, _, _⟩, hb6⟩
          have H6 := bx ((H5.out.run ((Below.refl _ W5).alloc (Nat.le_refl _) _)).run hb6)
          clear hb6
          simp only
          go_wp2_with fail
          refine (wakes_any _).mono ?_
          rintro e W99 ⟨rfl, hb99⟩
          have H99 := bx ((H6.out.run ((Below.refl _ W6).alloc (Nat.le_refl _) _)).run hb99)
          clear hb99
          go_wp2_with fail
          go_ret
          exact ⟨rfl, H99.out.bw⟩
theorem TwccChunks_row (c0 : Array Value) (z0) (w : World) (h : rT w c0.toList z0) :
    Calls Try.prog 7 #[.agg c0] w fun e w' => e = .returned (.bool true) ∧ Below w.heap.size w w' := by
  obtain ⟨r, hr, ok⟩ : ∃ r, TC w (.agg c0) r ∧ okT r := ⟨_, arg_rep h⟩
  exact TwccChunks_any _ r w hr ok
end Go.Proofs.Ytmedlplgeeeodaa.Tw
