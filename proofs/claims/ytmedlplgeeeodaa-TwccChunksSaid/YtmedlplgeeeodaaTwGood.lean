/- Which reports are good: plain, and the program's walk; no condition but the ranges in each. -/
import Derived.Test.YtmedlplgeeeodaaTwRep
namespace Go.Proofs.Ytmedlplgeeeodaa.Tw
open Go.RowKit Go.Proofs.Ytmedlplgeeeodaa.Plain Go.Proofs.Ytmedlplgeeeodaa.Heap Go.Proofs.Ytmedlplgeeeodaa.Open Go.Proofs.Ytmedlplgeeeodaa.Rows Go.Proofs.Ytmedlplgeeeodaa.Bits
/-- How many are told as got. -/
def nz (l : List Int) : Nat := (l.filter fun x => !decide (x = 0)).length
theorem nz_nil : nz [] = 0 := rfl
theorem nz_cons (x : Int) (l : List Int) : nz (x :: l) = (if x = 0 then 0 else 1) + nz l := by
  unfold nz
  rw [List.filter_cons]
  by_cases h : x = 0
  · simp [h]
  · simp [h]; omega
theorem nz_append (l m : List Int) : nz (l ++ m) = nz l + nz m := by unfold nz; rw [List.filter_append, List.length_append]
theorem nz_take {l : List Int} {i : Nat} {x : Int} (h : l[i]? = some x) : nz (l.take (i + 1)) = nz (l.take i) + if x = 0 then 0 else 1 := by
  obtain ⟨hl, rfl⟩ := List.getElem?_eq_some_iff.1 h
  rw [List.take_succ_eq_append_getElem hl, nz_append, nz_cons, nz_nil, Nat.add_zero]
theorem nz_le (l : List Int) : nz l ≤ l.length := List.length_filter_le _ _
theorem nz_take_le (l : List Int) (i : Nat) : nz (l.take i) ≤ i := Nat.le_trans (nz_le _) (List.length_take_le _ _)
def dok (s d : Int) : Bool := decide (-32768 ≤ d) && decide (d ≤ 32767) && (!decide (s = 1) || (decide (0 ≤ d) && decide (d ≤ 255)))
def okAt (st ds : List Int) (i : Nat) : Bool :=
  decide (0 ≤ st.getD i 0) && decide (st.getD i 0 ≤ 2) && (decide (st.getD i 0 = 0) || (decide (nz (st.take i) < ds.length) && dok (st.getD i 0) (ds.getD (nz (st.take i)) 0)))
def goodTo (st ds : List Int) : Nat → Bool
  | 0 => true
  | i + 1 => goodTo st ds i && okAt st ds i
def goodB (h : Tw) : Bool := decide (0 ≤ h.fi) && decide (h.fi ≤ 65535) && decide (-8388608 ≤ h.ba) && decide (h.ba < 8388608) && decide (0 ≤ h.ct) && decide (h.ct ≤ 255) && decide (1 ≤ h.st.length) && decide (h.st.length ≤ 4096)
def goodT (h : Tw) : Bool := goodB h && goodTo h.st h.ds h.st.length && decide (nz h.st = h.ds.length)
theorem goodB_iff {h : Tw} : goodB h = true ↔ 0 ≤ h.fi ∧ h.fi ≤ 65535 ∧ -8388608 ≤ h.ba ∧ h.ba < 8388608 ∧ 0 ≤ h.ct ∧ h.ct ≤ 255 ∧ 1 ≤ h.st.length ∧ h.st.length ≤ 4096 := by
  unfold goodB
  simp only [Bool.and_eq_true, decide_eq_true_eq]
  omega
theorem goodB_no {h : Tw} (k : ¬ (0 ≤ h.fi ∧ h.fi ≤ 65535 ∧ -8388608 ≤ h.ba ∧ h.ba < 8388608 ∧ 0 ≤ h.ct ∧ h.ct ≤ 255 ∧ 1 ≤ h.st.length ∧ h.st.length ≤ 4096)) : goodT h = false := by
  unfold goodT
  rw [show goodB h = false from by
    cases e : goodB h with
    | false => rfl
    | true => exact absurd (goodB_iff.1 e) k]
  rfl
theorem goodTo_stop {st ds : List Int} {i : Nat} (h : okAt st ds i = false) : ∀ n, i < n → goodTo st ds n = false
  | 0, hn => absurd hn (Nat.not_lt_zero _)
  | n + 1, hn => by
    rw [goodTo]
    rcases Nat.lt_or_ge i n with h1 | h1
    · rw [goodTo_stop h n h1]; rfl
    · rw [show n = i by omega, h, Bool.and_false]
theorem goodTo_at {st ds : List Int} : ∀ {n i : Nat}, goodTo st ds n = true → i < n → okAt st ds i = true
  | 0, _, _, hn => absurd hn (Nat.not_lt_zero _)
  | n + 1, i, h, hn => by
    rw [goodTo, Bool.and_eq_true] at h
    rcases Nat.lt_or_ge i n with h1 | h1
    · exact goodTo_at h.1 h1
    · rw [show i = n by omega]; exact h.2
theorem getD_of {l : List Int} {i : Nat} {x : Int} (h : l[i]? = some x) : l.getD i 0 = x := by rw [List.getD_eq_getElem?_getD, h]; rfl
theorem ok_range {st ds : List Int} {i : Nat} {x : Int} (hx : st[i]? = some x) (h : x < 0 ∨ 2 < x) : okAt st ds i = false := by
  unfold okAt
  rw [getD_of hx]
  rcases h with h | h
  · rw [decide_eq_false (by omega)]; rfl
  · rw [decide_eq_false (p := x ≤ 2) (by omega), Bool.and_false]; rfl
theorem ok_zero {st ds : List Int} {i : Nat} (hx : st[i]? = some 0) : okAt st ds i = true := by
  unfold okAt
  rw [getD_of hx]
  rfl
theorem ok_none {st ds : List Int} {i : Nat} {x : Int} (hx : st[i]? = some x) (h0 : ¬ x = 0) (h : ¬ nz (st.take i) < ds.length) : okAt st ds i = false := by
  unfold okAt
  rw [getD_of hx, decide_eq_false (p := x = 0) h0, decide_eq_false h]
  simp
theorem ok_some {st ds : List Int} {i : Nat} {x d : Int} (hx : st[i]? = some x) (h0 : 0 < x) (h2 : x ≤ 2) (hd : ds[nz (st.take i)]? = some d) : okAt st ds i = dok x d := by
  unfold okAt
  rw [getD_of hx, getD_of hd, decide_eq_true (p := nz (st.take i) < ds.length) (List.getElem?_eq_some_iff.1 hd).1, decide_eq_false (p := x = 0) (by omega), decide_eq_true (p := 0 ≤ x) (by omega), decide_eq_true h2]
  rfl
theorem dok_no {x d : Int} (h : d < -32768 ∨ 32767 < d ∨ (x = 1 ∧ (d < 0 ∨ 255 < d))) : dok x d = false := by
  cases e : dok x d with
  | false => rfl
  | true =>
    unfold dok at e
    simp only [Bool.and_eq_true, Bool.or_eq_true, decide_eq_true_eq, Bool.not_eq_true', decide_eq_false_iff_not] at e
    omega
theorem dok_yes {x d : Int} (h : -32768 ≤ d ∧ d ≤ 32767) (h1 : x = 1 → 0 ≤ d ∧ d ≤ 255) : dok x d = true := by
  unfold dok
  simp only [Bool.and_eq_true, Bool.or_eq_true, decide_eq_true_eq, Bool.not_eq_true', decide_eq_false_iff_not]
  omega
theorem dok_iff {x d : Int} : dok x d = true ↔ (-32768 ≤ d ∧ d ≤ 32767) ∧ (x = 1 → 0 ≤ d ∧ d ≤ 255) := by
  unfold dok
  simp only [Bool.and_eq_true, Bool.or_eq_true, decide_eq_true_eq, Bool.not_eq_true', decide_eq_false_iff_not]
  omega
theorem nz_goodTo {st ds : List Int} : ∀ {i : Nat}, goodTo st ds i = true → nz (st.take i) ≤ ds.length
  | 0, _ => Nat.zero_le _
  | i + 1, h => by
    rw [goodTo, Bool.and_eq_true] at h
    have h1 := nz_goodTo h.1
    cases hx : st[i]? with
    | none =>
      have := List.getElem?_eq_none_iff.1 hx
      rw [List.take_of_length_le (by omega)]
      rwa [List.take_of_length_le (by omega)] at h1
    | some x =>
      rw [nz_take hx]
      by_cases h0 : x = 0
      · rw [if_pos h0]; omega
      · rw [if_neg h0]
        rcases Nat.lt_or_ge (nz (st.take i)) ds.length with h2 | h2
        · omega
        · rw [ok_none hx h0 (by omega)] at h
          exact absurd h.2 (by decide)
/-- What ends the walk of a report that is none. -/
theorem good_stop {h : Tw} {i : Nat} (hi : i < h.st.length) (k : okAt h.st h.ds i = false) : goodT h = false := by
  unfold goodT
  rw [goodTo_stop k _ hi, Bool.and_false]
  rfl
theorem goodB_ways (f b c : Int) (n : Nat) : f < 0 ∨ (0 ≤ f ∧ 65535 < f) ∨ (0 ≤ f ∧ f ≤ 65535 ∧ b < -8388608) ∨ (0 ≤ f ∧ f ≤ 65535 ∧ -8388608 ≤ b ∧ 8388608 ≤ b) ∨ (0 ≤ f ∧ f ≤ 65535 ∧ -8388608 ≤ b ∧ b < 8388608 ∧ c < 0) ∨
    (0 ≤ f ∧ f ≤ 65535 ∧ -8388608 ≤ b ∧ b < 8388608 ∧ 0 ≤ c ∧ 255 < c) ∨ (0 ≤ f ∧ f ≤ 65535 ∧ -8388608 ≤ b ∧ b < 8388608 ∧ 0 ≤ c ∧ c ≤ 255 ∧ (n : Int) < 1) ∨
    (0 ≤ f ∧ f ≤ 65535 ∧ -8388608 ≤ b ∧ b < 8388608 ∧ 0 ≤ c ∧ c ≤ 255 ∧ 1 ≤ (n : Int) ∧ 4096 < (n : Int)) ∨ (0 ≤ f ∧ f ≤ 65535 ∧ -8388608 ≤ b ∧ b < 8388608 ∧ 0 ≤ c ∧ c ≤ 255 ∧ 1 ≤ (n : Int) ∧ (n : Int) ≤ 4096) := by omega
set_option maxRecDepth 10000 in
set_option maxHeartbeats 4000000 in
theorem good_any (v : Value) (h : Tw) (w : World) (k : TR w v h) :
    Calls Try.prog 13 #[v] w fun e w' => e = .returned (.bool (goodT h)) ∧ Below w.heap.size w w' := by
  obtain ⟨A, c, B, d, rfl, k1, k2⟩ := k
  obtain ⟨b0, hb0⟩ : ∃ b0, b0 = w.heap.size := ⟨_, rfl⟩
  obtain ⟨W0, hW0⟩ : ∃ W0, W0 = w.alloc (.cells (tcs h A c B d) 25) := ⟨_, rfl⟩
  have H0 := Lib.hid (show TX w W0 b0 h A c B d by rw [hb0]; exact TX.new (Below.refl _ w) k1 k2 hW0)
  have HE := Lib.hid hb0
  have HW := Lib.hid hW0
  clear k1 k2 hb0 hW0
  obtain ⟨n, hn⟩ : ∃ n, n = h.st.length := ⟨_, rfl⟩
  obtain ⟨m, hm⟩ : ∃ m, m = h.ds.length := ⟨_, rfl⟩
  have HN := Lib.hid hn
  have HM := Lib.hid hm
  have x2 := H0.out.c2
  have x3 := H0.out.c3
  have x4 := H0.out.c4
  have x5 := H0.out.c5
  have x6 := H0.out.c6
  rw [← hn] at x5
  rw [← hm] at x6
  clear hn hm
  go_enter Try.func13, Try.ntmps13
  go_upto_region 1 with fail
  rw [← HW.out, ← HE.out]
  rcases goodB_ways h.fi h.ba h.ct n with h0 | h0 | h0 | h0 | h0 | h0 | h0 | h0 | h0
  case inr.inr.inr.inr.inr.inr.inr.inr =>
    obtain ⟨a1, a2, a3, a4, a5, a6, a7, a8⟩ := h0
    have HGB := Lib.hid (show goodB h = true from goodB_iff.2 ⟨by omega, by omega, by omega, by omega, by omega, by omega, by have := HN.out; omega, by have := HN.out; omega⟩)
    go_wp2_with fail
    go_loopw [3, 50] (fun mv iv wx => ∃ i : Nat, (i : Int) ≤ (n : Int) ∧ iv = .int .i64 (i : Int) ∧ mv = .int .i64 ((nz (h.st.take i) : Nat) : Int) ∧ goodTo h.st h.ds i = true ∧ wx = W0) (fun _ iv _ => ((n : Int) - intOf iv).toNat)
    case atStart => exact ⟨0, by omega, rfl, rfl, rfl, rfl⟩
    case round =>
      obtain ⟨i, hi, rfl, rfl, hgt, rfl⟩ := hrel
      have HGT := Lib.hid hgt
      clear hgt
      by_cases hil : (i : Int) < (n : Int)
      · obtain ⟨g, off, x, e, hg, hx, hxm, y0⟩ := int_at H0.out.r1 (k := i) (by have := HN.out; omega)
        subst e
        obtain ⟨K, hK⟩ : ∃ K, K = nz (h.st.take i) := ⟨_, rfl⟩
        rw [← hK]
        have hKi : (K : Int) ≤ (i : Int) := by have := nz_take_le h.st i; omega
        have HX := Lib.hid hx
        have HK := Lib.hid hK
        have HIL := Lib.hid (show i < h.st.length by have := HN.out; omega)
        clear hx hxm hK hg
        rcases (show x < 0 ∨ (0 ≤ x ∧ 2 < x) ∨ x = 0 ∨ x = 1 ∨ x = 2 by omega) with s | ⟨s, s2⟩ | s | s | s
        · have HF := Lib.hid (good_stop HIL.out (ok_range HX.out (.inl s)))
          go_wp2_with fail
          go_ret
          exact ⟨by rw [HF.out]; rfl, H0.out.bw⟩
        · have HF := Lib.hid (good_stop HIL.out (ok_range HX.out (.inr s2)))
          go_wp2_with fail
          go_ret
          exact ⟨by rw [HF.out]; rfl, H0.out.bw⟩
        · subst s
          have HS := Lib.hid (show nz (h.st.take (i + 1)) = K by rw [nz_take HX.out, if_pos rfl, ← HK.out]; rfl)
          have HG := Lib.hid (show goodTo h.st h.ds (i + 1) = true by rw [goodTo, HGT.out, ok_zero HX.out]; rfl)
          go_wp2_with fail
          go_roundw
          case rel => exact ⟨i + 1, by omega, by go_num, by rw [HS.out], HG.out, trivial⟩
          case measure => exact measN n i hil
        · subst s
          by_cases hKm : (K : Int) = (m : Int)
          · have HF := Lib.hid (good_stop HIL.out (ok_none HX.out (by decide) (by rw [← HK.out]; have := HM.out; omega)))
            have hKb : ((K : Int) == (m : Int)) = true := beq_iff_eq.2 hKm
            clear hKm
            go_wp2_with fail
            go_ret
            exact ⟨by rw [HF.out]; rfl, H0.out.bw⟩
          · have hKb : ((K : Int) == (m : Int)) = false := by rw [beq_eq_false_iff_ne]; exact hKm
            have HNZ := Lib.hid (show ¬ (K : Int) = (m : Int) from hKm)
            clear hKm
            by_cases hKl : (K : Int) < (m : Int)
            · obtain ⟨g2, off2, dv, e, hg2, hd, hdm, y1⟩ := int_at H0.out.r2 (k := K) (by have := HM.out; omega)
              subst e
              have HD := Lib.hid (show h.ds[nz (h.st.take i)]? = some dv by rw [← HK.out]; exact hd)
              clear hd hdm hg2
              rcases (show dv < 0 ∨ 255 < dv ∨ (0 ≤ dv ∧ dv ≤ 255) by omega) with t | t | t
              · have HF := Lib.hid (good_stop HIL.out ((ok_some HX.out (by decide) (by decide) HD.out).trans (dok_no (.inr (.inr ⟨rfl, .inl t⟩)))))
                go_wp2_with fail
                go_ret
                exact ⟨by rw [HF.out]; rfl, H0.out.bw⟩
              · have HF := Lib.hid (good_stop HIL.out ((ok_some HX.out (by decide) (by decide) HD.out).trans (dok_no (.inr (.inr ⟨rfl, .inr t⟩)))))
                go_wp2_with fail
                go_ret
                exact ⟨by rw [HF.out]; rfl, H0.out.bw⟩
              · have HS := Lib.hid (show nz (h.st.take (i + 1)) = K + 1 by rw [nz_take HX.out, if_neg (by decide), ← HK.out])
                have HG := Lib.hid (show goodTo h.st h.ds (i + 1) = true by rw [goodTo, HGT.out, ok_some HX.out (by decide) (by decide) HD.out, dok_yes (by omega) (by omega)]; rfl)
                obtain ⟨t0, t1⟩ := t
                go_wp2_with fail
                go_roundw
                case rel => exact ⟨i + 1, by omega, by go_num, by rw [HS.out]; go_num, HG.out, trivial⟩
                case measure => exact measN n i hil
            · -- more than there are: the first one that lacks has ended the walk
              exfalso
              have h1 := HGT.out
              exact absurd (nz_goodTo h1) (by rw [← HK.out]; have := HM.out; have := HNZ.out; omega)
        · subst s
          by_cases hKm : (K : Int) = (m : Int)
          · have HF := Lib.hid (good_stop HIL.out (ok_none HX.out (by decide) (by rw [← HK.out]; have := HM.out; omega)))
            have hKb : ((K : Int) == (m : Int)) = true := beq_iff_eq.2 hKm
            clear hKm
            go_wp2_with fail
            go_ret
            exact ⟨by rw [HF.out]; rfl, H0.out.bw⟩
          · have hKb : ((K : Int) == (m : Int)) = false := by rw [beq_eq_false_iff_ne]; exact hKm
            have HNZ := Lib.hid (show ¬ (K : Int) = (m : Int) from hKm)
            clear hKm
            by_cases hKl : (K : Int) < (m : Int)
            · obtain ⟨g2, off2, dv, e, hg2, hd, hdm, y1⟩ := int_at H0.out.r2 (k := K) (by have := HM.out; omega)
              subst e
              have HD := Lib.hid (show h.ds[nz (h.st.take i)]? = some dv by rw [← HK.out]; exact hd)
              clear hd hdm hg2
              rcases (show dv < -32768 ∨ 32767 < dv ∨ (-32768 ≤ dv ∧ dv ≤ 32767) by omega) with t | t | t
              · have HF := Lib.hid (good_stop HIL.out ((ok_some HX.out (by decide) (by decide) HD.out).trans (dok_no (.inl t))))
                go_wp2_with fail
                go_ret
                exact ⟨by rw [HF.out]; rfl, H0.out.bw⟩
              · have HF := Lib.hid (good_stop HIL.out ((ok_some HX.out (by decide) (by decide) HD.out).trans (dok_no (.inr (.inl t)))))
                go_wp2_with fail
                go_ret
                exact ⟨by rw [HF.out]; rfl, H0.out.bw⟩
              · have HS := Lib.hid (show nz (h.st.take (i + 1)) = K + 1 by rw [nz_take HX.out, if_neg (by decide), ← HK.out])
                have HG := Lib.hid (show goodTo h.st h.ds (i + 1) = true by rw [goodTo, HGT.out, ok_some HX.out (by decide) (by decide) HD.out, dok_yes (by omega) (by omega)]; rfl)
                obtain ⟨t0, t1⟩ := t
                go_wp2_with fail
                go_roundw
                case rel => exact ⟨i + 1, by omega, by go_num, by rw [HS.out]; go_num, HG.out, trivial⟩
                case measure => exact measN n i hil
            · -- more than there are: the first one that lacks has ended the walk
              exfalso
              have h1 := HGT.out
              exact absurd (nz_goodTo h1) (by rw [← HK.out]; have := HM.out; have := HNZ.out; omega)
      · have hin : i = n := by omega
        have HGN := Lib.hid (show goodT h = decide (nz (h.st.take i) = m) by
          unfold goodT
          rw [HGB.out, HM.out, hin, HN.out, List.take_length, ← HN.out, ← hin, HGT.out]
          rfl)
        obtain ⟨K, hK⟩ : ∃ K, K = nz (h.st.take i) := ⟨_, rfl⟩
        rw [← hK] at HGN ⊢
        have hKm : ((K : Int) == (m : Int)) = decide (K = m) := by
          by_cases e : K = m
          · rw [decide_eq_true e, beq_iff_eq]; omega
          · rw [decide_eq_false e, beq_eq_false_iff_ne]; omega
        obtain ⟨q, hq⟩ : ∃ q, q = decide (K = m) := ⟨_, rfl⟩
        rw [← hq] at hKm HGN
        clear hK hq
        go_wp2_with fail
        go_ret
        exact ⟨by rw [HGN.out]; rfl, H0.out.bw⟩
  all_goals
    have HF := Lib.hid (show goodT h = false from goodB_no (by have := HN.out; omega))
    first
      | obtain ⟨a1, a2, a3, a4, a5, a6, a7, a8⟩ := h0
      | obtain ⟨a1, a2, a3, a4, a5, a6, a7⟩ := h0
      | obtain ⟨a1, a2, a3, a4, a5, a6⟩ := h0
      | obtain ⟨a1, a2, a3, a4, a5⟩ := h0
      | obtain ⟨a1, a2, a3, a4⟩ := h0
      | obtain ⟨a1, a2, a3⟩ := h0
      | obtain ⟨a1, a2⟩ := h0
      | skip
    go_wp2_with fail
    go_ret
    exact ⟨by rw [HF.out]; rfl, H0.out.bw⟩
end Go.Proofs.Ytmedlplgeeeodaa.Tw
