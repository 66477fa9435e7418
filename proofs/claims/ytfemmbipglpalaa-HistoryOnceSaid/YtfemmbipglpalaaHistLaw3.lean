/- HistoryRound: what it comes to; no condition but what data there is. -/
import Derived.Test.YtfemmbipglpalaaHistLaw2
namespace Go.Proofs.Ytfemmbipglpalaa.History
open Go.RowKit Go.Proofs.Ytfemmbipglpalaa.Plain Go.Proofs.Ytfemmbipglpalaa.Heap Go.Proofs.Ytfemmbipglpalaa.Maps Go.Proofs.Ytfemmbipglpalaa.Open

/-- Packets of size 1, each sent at its own number. -/
def rng (a : Int) : Nat → List E3
  | 0 => []
  | n + 1 => (a, 1, a) :: rng (a + 1) n
theorem rng_len (a : Int) (n : Nat) : (rng a n).length = n := by
  induction n generalizing a with
  | zero => rfl
  | succ n ih => simp [rng, ih]
theorem rng_consec (a : Int) (n : Nat) : consec a (rng a n) := by
  induction n generalizing a with
  | zero => trivial
  | succ n ih => exact ⟨rfl, ih (a + 1)⟩
theorem rng_snoc (a : Int) (n : Nat) : rng a n ++ [(a + n, 1, a + n)] = rng a (n + 1) := by
  induction n generalizing a with
  | zero => simp [rng]
  | succ n ih =>
    have := ih (a + 1)
    rw [show a + 1 + (n : Int) = a + ((n + 1 : Nat) : Int) by omega] at this
    show (a, 1, a) :: (rng (a + 1) n ++ _) = (a, 1, a) :: rng (a + 1) (n + 1)
    rw [this]
theorem rng_get (a : Int) (n i : Nat) (h : i < n) : (rng a n)[i]? = some (a + i, 1, a + i) := by
  induction n generalizing a i with
  | zero => omega
  | succ n ih =>
    cases i with
    | zero => simp [rng]
    | succ i =>
      have := ih (a + 1) i (by omega)
      rw [show a + 1 + (i : Int) = a + ((i + 1 : Nat) : Int) by omega] at this
      simpa [rng] using this
theorem rng_mem {a : Int} {n : Nat} {x : E3} (h : x ∈ rng a n) : a ≤ x.1 ∧ x.1 < a + n ∧ x.2.1 = 1 ∧ x.2.2 = x.1 := by
  induction n generalizing a with
  | zero => cases h
  | succ n ih =>
    rcases List.mem_cons.1 h with h | h
    · subst h; exact ⟨by simp, by simp only; omega, rfl, rfl⟩
    · have := ih h; exact ⟨by omega, by omega, this.2.2.1, this.2.2.2⟩
/-- The history behind i rounds: its last eleven packets. -/
structure Rnd (i : Nat) (h : HS) : Prop where
  t : h.timeout = 10
  next : h.next = i
  first : h.first = ((i - 11 : Nat) : Int)
  last0 : 0 ≤ h.last
  last1 : h.last ≤ i
  l : h.l = rng ((i - 11 : Nat) : Int) (i - (i - 11))
  ok : okH h
theorem rnd_send {i : Nat} {h : HS} (r : Rnd i h) (hi : i < 70000) : (hsend h 1 i).2 = ((i : Int) % 65536, 0) ∧ (hsend h 1 i).1.timeout = 10 ∧ (hsend h 1 i).1.next = ((i + 1 : Nat) : Int) ∧ (hsend h 1 i).1.first = ((i - 11 : Nat) : Int) ∧ (hsend h 1 i).1.last = i ∧ (hsend h 1 i).1.l = rng ((i - 11 : Nat) : Int) (i + 1 - (i - 11)) ∧ okH (hsend h 1 i).1 := by
  have hl := r.last0
  have hl1 := r.last1
  have hlen : h.l.length ≤ 11 := by rw [r.l, rng_len]; omega
  have e : hsend h 1 i = ({ h with next := h.next + 1, last := i, flying := h.flying + 1, l := h.l ++ [(h.next, 1, (i : Int))] }, h.next % 65536, 0) := by
    unfold hsend
    rw [if_neg (by unfold sendBad; omega), if_neg (by omega), if_neg (by omega)]
  have ok2 := send_ok r.ok 1 i (by rw [r.next]; omega)
  rw [e] at ok2 ⊢
  refine ⟨by simp only; rw [r.next], r.t, by show h.next + 1 = _; rw [r.next]; omega, r.first, rfl, ?_, ok2⟩
  show h.l ++ [(h.next, 1, (i : Int))] = _
  rw [r.next, r.l]
  have h1 := rng_snoc ((i - 11 : Nat) : Int) (i - (i - 11))
  rw [show ((i - 11 : Nat) : Int) + ((i - (i - 11) : Nat) : Int) = (i : Int) by omega] at h1
  rw [h1, show i - (i - 11) + 1 = i + 1 - (i - 11) by omega]
theorem old_rng {now a : Int} (h0 : -1000000 ≤ now) (h1 : now ≤ 1000000) (h2 : -1000000 ≤ a) (h3 : a ≤ 1000000) (x : E3) (hx : x.2.2 = a) : old now 10 x = decide (10 < now - a) := by
  unfold old Sat.clamp64
  rw [hx, if_neg (by omega), if_neg (by omega)]
theorem tw_none {p : E3 → Bool} {x : E3} {l : List E3} (h : p x = false) : (x :: l).takeWhile p = [] ∧ (x :: l).dropWhile p = x :: l := by
  rw [List.takeWhile_cons_of_neg (by simp [h]), List.dropWhile_cons_of_neg (by simp [h])]
  exact ⟨rfl, rfl⟩
theorem tw_first {p : E3 → Bool} {x y : E3} {l : List E3} (h : p x = true) (h2 : p y = false) : (x :: y :: l).takeWhile p = [x] ∧ (x :: y :: l).dropWhile p = y :: l := by
  obtain ⟨h3, h4⟩ := tw_none (l := l) h2
  rw [List.takeWhile_cons_of_pos h, List.dropWhile_cons_of_pos h, h3, h4]
  exact ⟨rfl, rfl⟩
theorem rnd_tw (i : Nat) (hi : i < 70000) : (rng ((i - 11 : Nat) : Int) (i + 1 - (i - 11))).takeWhile (old i 10) = (rng ((i - 11 : Nat) : Int) ((i + 1 - 11) - (i - 11))) ∧ (rng ((i - 11 : Nat) : Int) (i + 1 - (i - 11))).dropWhile (old i 10) = rng ((i + 1 - 11 : Nat) : Int) (i + 1 - (i + 1 - 11)) := by
  rcases Nat.lt_or_ge i 11 with h | h
  · have e1 : i - 11 = 0 := by omega
    have e3 : i + 1 - 11 = 0 := by omega
    rw [e1, e3]
    have ho : old (i : Int) 10 (((0 : Nat) : Int), 1, ((0 : Nat) : Int)) = false := by
      rw [old_rng (a := 0) (by omega) (by omega) (by omega) (by omega) _ rfl]
      exact decide_eq_false (by omega)
    exact tw_none (l := rng (((0 : Nat) : Int) + 1) i) ho
  · obtain ⟨a, ha⟩ : ∃ a, i = a + 11 := ⟨i - 11, by omega⟩
    have e1 : i - 11 = a := by omega
    have e2 : i + 1 - 11 = a + 1 := by omega
    have e3 : i + 1 - a = 12 := by omega
    have e4 : a + 1 - a = 1 := by omega
    have e5 : i + 1 - (a + 1) = 11 := by omega
    rw [e1, e2, e3, e4, e5]
    have h1 : old (i : Int) 10 ((a : Int), 1, (a : Int)) = true := by
      rw [old_rng (a := (a : Int)) (by omega) (by omega) (by omega) (by omega) _ rfl]
      exact decide_eq_true (by omega)
    have h2 : old (i : Int) 10 ((a : Int) + 1, 1, (a : Int) + 1) = false := by
      rw [old_rng (a := (a : Int) + 1) (by omega) (by omega) (by omega) (by omega) _ rfl]
      exact decide_eq_false (by omega)
    have h3 := tw_first (l := rng ((a : Int) + 1 + 1) 10) h1 h2
    rw [show ((a + 1 : Nat) : Int) = (a : Int) + 1 by omega]
    exact h3
theorem rnd_step {i : Nat} {h : HS} (r : Rnd i h) (hi : i < 70000) (hok : okH (expire (hsend h 1 i).1 i).1) : Rnd (i + 1) (expire (hsend h 1 i).1 i).1 := by
  obtain ⟨s1, s2, s3, s4, s5, s6, s7⟩ := rnd_send r hi
  obtain ⟨t1, t2⟩ := rnd_tw i hi
  have hc : consec (hsend h 1 i).1.first (hsend h 1 i).1.l := by rw [s4, s6]; exact rng_consec _ _
  have hn : (hsend h 1 i).1.next = (hsend h 1 i).1.first + ((hsend h 1 i).1.l.length : Int) := by rw [s3, s4, s6, rng_len]; omega
  have e := expire_consec (hsend h 1 i).1 i hc hn
  rw [s2, s6, t1, t2] at e
  rw [e] at hok ⊢
  refine ⟨rfl, s3, ?_, by show 0 ≤ (hsend h 1 i).1.last; rw [s5]; omega, by show (hsend h 1 i).1.last ≤ _; rw [s5]; omega, rfl, hok⟩
  show (hsend h 1 i).1.first + _ = _
  rw [s4, rng_len]
  omega
/-- The two reports. -/
theorem rnd_hear {T : Nat} {h : HS} (r : Rnd T h) (h0 : 65000 ≤ T) (h1 : T < 67000) (m : Int) (m0 : 0 ≤ m) (m1 : m < 10) (k : Int) (hk : k = T - 1 - m) :
    ∃ h', hearL h [(k % 65536, true, 7, false, false), ((k + 32000) % 65536, true, 0, false, false)] = (h', [((k, 1, k), 7, false, false)], []) ∧ h'.next = T := by
  have hk1 : hkey h (k % 65536) = k := by
    unfold hkey Fn.near
    rw [r.next, Fn.hold60_id (by omega) (by omega)]
    split <;> omega
  have hk2 : ∀ h' : HS, h'.next = (T : Int) → hkey h' ((k + 32000) % 65536) = k + 32000 := fun h' hn => by
    unfold hkey Fn.near
    rw [hn, Fn.hold60_id (by omega) (by omega)]
    split <;> omega
  have hf : findE k h.l = some (k, 1, k) := by
    rw [r.l]
    obtain ⟨j, hj⟩ : ∃ j : Nat, k = ((T - 11 : Nat) : Int) + (j : Int) := ⟨(k - ((T - 11 : Nat) : Int)).toNat, by omega⟩
    rw [hj]
    exact consec_at (rng_consec _ _) j _ (rng_get _ _ j (by omega))
  have hf2 : findE (k + 32000) (dropE h (k, 1, k)).l = none := by
    cases hfe : findE (k + 32000) (dropE h (k, 1, k)).l with
    | none => rfl
    | some e =>
      obtain ⟨e1, e2⟩ := findE_key hfe
      have e3 : e ∈ h.l := eraseE_mem e2
      rw [r.l] at e3
      have := rng_mem e3
      omega
  refine ⟨dropE h (k, 1, k), ?_, r.next⟩
  have s1 : hear1 (h, [], []) (k % 65536, true, 7, false, false) = (dropE h (k, 1, k), [((k, 1, k), 7, false, false)], []) := by
    unfold hear1
    simp only [hk1, hf]
    rfl
  show hear1 (hear1 (h, [], []) (k % 65536, true, 7, false, false)) ((k + 32000) % 65536, true, 0, false, false) = _
  rw [s1]
  unfold hear1
  simp only [hk2 (dropE h (k, 1, k)) r.next, hf2]
theorem rnd_facts {i : Nat} {h : HS} (r : Rnd i h) (hi : i < 70000) : Hid ((hsend h 1 i).2 = ((i : Int) % 65536, 0)) ∧ Hid (okH (hsend h 1 i).1) ∧ Hid (0 ≤ (hsend h 1 i).1.first ∧ (hsend h 1 i).1.first ≤ (hsend h 1 i).1.next) ∧ Hid (∀ x ∈ (hsend h 1 i).1.l, 0 ≤ x.2.2 ∧ x.2.2 ≤ 1125899906842624) := by
  obtain ⟨s1, s2, s3, s4, s5, s6, s7⟩ := rnd_send r hi
  generalize hsend h 1 (i : Int) = H at *
  exact ⟨Lib.hid s1, Lib.hid s7, Lib.hid (by rw [s3, s4]; omega), Lib.hid fun x hx => by rw [s6] at hx; have := rng_mem hx; omega⟩
theorem wf_u16 {n : Int} (h : (Lit.int .u16 n).wf = true) : 0 ≤ n ∧ n ≤ 65535 := by
  simpa [Lit.wf, IntKind.min, IntKind.max, IntKind.signed, IntKind.bits] using h
theorem i_facts {i : Nat} (hi : i < 70000) : ∃ I2 : Int, Int.tmod (i : Int) 65536 = I2 ∧ wrap64 I2 = I2 ∧ Hid (-9223372036854775808 ≤ (i : Int) ∧ (i : Int) ≤ 9223372036854775807) ∧ Hid ((i : Int) % 65536 = I2) :=
  ⟨(i : Int) % 65536, Int.tmod_eq_emod_of_nonneg (by omega), w64 (by omega) (by omega), Lib.hid (by omega), Lib.hid rfl⟩
theorem t_facts {n : Int} (n0 : 0 ≤ n) (n1 : n ≤ 65535) : ∃ (T : Nat) (N2 : Int), (65000 ≤ T ∧ T < 67000) ∧ wrap64 n = n ∧ Int.tmod n 2000 = N2 ∧ wrap64 N2 = N2 ∧ wrap64 (65000 + N2) = (T : Int) := by
  obtain ⟨T, hT⟩ : ∃ T : Nat, (T : Int) = 65000 + n % 2000 := ⟨(65000 + n % 2000).toNat, by omega⟩
  exact ⟨T, n % 2000, by omega, w64 (by omega) (by omega), Int.tmod_eq_emod_of_nonneg n0, w64 (by omega) (by omega), by rw [← hT]; exact w64 (by omega) (by omega)⟩
theorem k_facts {more : Int} {T : Nat} (o0 : 0 ≤ more) (o1 : more ≤ 65535) (t0 : 65000 ≤ T) (t1 : T < 67000) : ∃ m k V1 V2 : Int, (0 ≤ m ∧ m < 10) ∧ wrap64 more = more ∧ Int.tmod more 10 = m ∧ wrap64 m = m ∧ wrap64 ((T : Int) - 1) = (T : Int) - 1 ∧ wrap64 ((T : Int) - 1 - m) = k ∧ Int.tmod k 65536 = V1 ∧ wrap64 V1 = V1 ∧ wrap64 (k + 32000) = k + 32000 ∧ Int.tmod (k + 32000) 65536 = V2 ∧ wrap64 V2 = V2 ∧ Hid (k = (T : Int) - 1 - m) ∧ Hid (V1 = k % 65536) ∧ Hid (V2 = (k + 32000) % 65536) := by
  refine ⟨more % 10, (T : Int) - 1 - more % 10, ((T : Int) - 1 - more % 10) % 65536, ((T : Int) - 1 - more % 10 + 32000) % 65536, by omega, w64 (by omega) (by omega), Int.tmod_eq_emod_of_nonneg o0, w64 (by omega) (by omega), w64 (by omega) (by omega), w64 (by omega) (by omega), Int.tmod_eq_emod_of_nonneg (by omega), w64 (by omega) (by omega), w64 (by omega) (by omega), Int.tmod_eq_emod_of_nonneg (by omega), w64 (by omega) (by omega), Lib.hid rfl, Lib.hid rfl, Lib.hid rfl⟩
theorem meas5 (m k : Nat) (h : k < m) : m - (intOf (.int .i64 ((k : Int) + 1))).toNat < m - (intOf (.int .i64 (k : Int))).toNat := by
  simp [intOf]
  omega
set_option maxRecDepth 10000 in
set_option maxHeartbeats 2000000 in
theorem HistoryRound_any (n more : Int) (w : World) (hwn : (Lit.int .u16 n).wf = true) (hwm : (Lit.int .u16 more).wf = true) :
    Calls Try.prog 5 #[.int .u16 n, .int .u16 more] w fun e w' => e = .returned (.bool true) ∧ Below w.heap.size w w' := by
  obtain ⟨n0, n1⟩ := wf_u16 hwn
  obtain ⟨o0, o1⟩ := wf_u16 hwm
  clear hwn hwm
  obtain ⟨T, N2, bT, a1, a2, a3, a4⟩ := t_facts n0 n1
  obtain ⟨m, k, V1, V2, bm, b1, b2, b3, c1, c2, c3, c4, c5, c6, c7, HKK, HV1, HV2⟩ := k_facts o0 o1 bT.1 bT.2
  go_enter Try.func5, Try.ntmps5
  go_wp2_with fail
  refine (new_hb 10 _ (by decide) (by decide)).mono ?_
  rintro e w1 ⟨p, r, rfl, h1⟩
  have H1 := Lib.hid h1
  clear h1
  go_wp2_with fail
  try simp only [a4]
  go_loopw [8] (fun iv wr => ∃ (i : Nat) (h : HS), i ≤ T ∧ iv = .int .i64 (i : Int) ∧ Rnd i h ∧ HB w.heap.size w wr p r h) (fun iv _ => T - (intOf iv).toNat)
  case atStart => exact ⟨0, _, by omega, rfl, ⟨rfl, rfl, rfl, by simp, by simp, rfl, fresh_ok _⟩, H1.out⟩
  case round =>
    obtain ⟨i, h, hi, rfl, hf, hb⟩ := hrel
    have HF := Lib.hid hf
    have HBr := Lib.hid hb
    clear hf hb H1
    by_cases hlt : i < T
    · have hlt' : (i : Int) < (T : Int) := by omega
      have hi1 : i + 1 ≤ T := hlt
      have hi7 : i < 70000 := Nat.lt_trans hlt (Nat.lt_of_lt_of_le bT.2 (by decide))
      obtain ⟨I2, tk, tw, Q2, HI2⟩ := i_facts hi7
      clear a1 a2 a3 a4 b1 b2 b3 c1 c2 c3 c4 c5 c6 c7
      obtain ⟨S1, S7, Q0, Q1⟩ := rnd_facts HF.out hi7
      go_wp2_with fail
      refine (HBr.out.send HF.out.ok 1 i).mono ?_
      rintro e w3 ⟨rfl, h3⟩
      rw [S1.out]
      simp only [HI2.out]
      have H3 := Lib.hid h3
      clear h3
      go_wp2_with fail
      refine (H3.out.expire S7.out i Q0.out.1 Q0.out.2 Q2.out Q1.out).mono ?_
      rintro e w4 ⟨A, ml, c, rfl, h4, ok4, _⟩
      have H4 := Lib.hid h4
      have R4 := Lib.hid (rnd_step HF.out hi7 ok4)
      clear h4 ok4
      go_wp2_with fail
      go_roundw
      case rel => exact ⟨i + 1, _, hi1, by go_num, R4.out, H4.out⟩
      case measure => exact meas5 T i hlt
    · obtain rfl : i = T := Nat.le_antisymm hi (Nat.le_of_not_lt hlt)
      obtain ⟨h', e1, e2⟩ := rnd_hear HF.out bT.1 bT.2 m bm.1 bm.2 k HKK.out
      rw [← HV1.out, ← HV2.out] at e1
      have E1 := Lib.hid e1
      have E2 := Lib.hid e2
      have hnx : 0 < h.next := by rw [HF.out.next]; exact Int.natCast_pos.2 (Nat.lt_of_lt_of_le (by decide) bT.1)
      have HNX := Lib.hid hnx
      clear e1 e2 hnx
      go_wp2_with fail
      have hv1 : ((i : Int) - 1 - m) % 65536 = V1 := by rw [HV1.out, HKK.out]
      have hv2 : ((i : Int) - 1 - m + 32000) % 65536 = V2 := by rw [HV2.out, HKK.out]
      have hv3 : (i : Int) - 1 - m = k := HKK.out.symm
      try simp only [hv1, hv2]
      try simp only [hv3]
      clear hv1 hv2 hv3
      generalize hW : World.alloc wr _ = W5
      have HW := Lib.hid (show HB w.heap.size w W5 p r h by rw [← hW]; exact HBr.out.run ((Below.refl _ _).alloc (Nat.le_refl _) _))
      have hrd : Rd W5 5 (some ⟨wr.heap.size, 0, none⟩) 2 (flat5 [(V1, true, 7, false, false), (V2, true, 0, false, false)]) := by
        rw [← hW]
        exact Rd.block (cs := #[.int .i64 V1, .bool true, .int .i64 7, .bool false, .bool false, .int .i64 V2, .bool true, .int .i64 0, .bool false, .bool false]) (heap_alloc_new wr _) rfl
      have hlt5 := HBr.out.hr.cells.2.2.2.2.2.2.2
      refine (HW.out.hear HF.out.ok HNX.out (some ⟨wr.heap.size, 0, none⟩) 2 2 [(V1, true, 7, false, false), (V2, true, 0, false, false)] 0 hrd rfl (by decide) (fun b off e => by injection e with e; injection e with e; exact ⟨fun h => Nat.ne_of_gt hlt5.1 (e.trans h), fun h => Nat.ne_of_gt hlt5.2 (e.trans h)⟩)).mono ?_
      rintro e w6 ⟨gv, lv, mg, ml, rfl, h6, h7⟩
      rw [E1.out] at h6 h7
      obtain rfl : mg = 1 := h7.lg
      obtain rfl : ml = 0 := h7.ll
      obtain ⟨g6, cg, rfl⟩ := own_form h7.og (by decide)
      obtain ⟨A2, cl, rfl⟩ : ∃ A c, lv = .slice A 0 c := by
        rcases h7.ol.2 with ⟨rfl, _⟩ | ⟨g, cap, cur, rfl, _⟩
        · exact ⟨_, _, rfl⟩
        · exact ⟨_, _, rfl⟩
      obtain ⟨g9, off9, he9, hg9, hc9⟩ := (Rd.of_own h7.og).2 (by decide)
      injection he9 with he9
      injection he9 with he9 he10
      subst he9 he10
      have q0 : w6.cell? ⟨g6, 0, none⟩ = some (.int .i64 k) := hc9 0 _ rfl
      have q3 : w6.cell? ⟨g6, 3, none⟩ = some (.int .i64 7) := hc9 3 _ rfl
      have H6 := Lib.hid h6
      clear h6 h7 hrd hW hlt5 hc9
      go_wp2_with fail
      refine (H6.out.next).mono ?_
      rintro e w8 ⟨rfl, h8⟩
      rw [E2.out]
      have H8 := Lib.hid h8
      clear h8
      go_wp2_with fail
      refine (wakes_any _).mono ?_
      rintro e w9 ⟨rfl, hb⟩
      go_wp2
      go_ret
      exact ⟨rfl, below_then H8.out.below H8.out.sz hb⟩
end Go.Proofs.Ytfemmbipglpalaa.History
