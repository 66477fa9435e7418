/- Align, and the reference's Put and Align; no condition but the ranges in each. -/
import Derived.Test.YtmedlplgeeeodaaBitsW2
namespace Go.Proofs.Ytmedlplgeeeodaa.Bits
open Go.RowKit Go.Proofs.Ytmedlplgeeeodaa.Plain Go.Proofs.Ytmedlplgeeeodaa.Heap

set_option maxHeartbeats 1000000 in
theorem ref_put_no (L : List Int) (v n : Int) (p : Nat) (g : Option Nat) (w : World) (hw : WR 74 w p g L) (hn : n < 0 ∨ 32 < n ∨ 524288 < (L.length : Int) + n) (hL : L.length ≤ 524288) :
    Calls Try.prog 24 #[.pointer (some ⟨p, 0, none⟩), .int .u32 v, .int .i64 n] w fun e w' => e = .returned (.tuple #[]) ∧ ∃ q, w' = w.drewN q := by
  have hc1 := hw.cell1
  have hn' : n < 0 ∨ (0 ≤ n ∧ 32 < n) ∨ (0 ≤ n ∧ n ≤ 32 ∧ 524288 - (L.length : Int) < n) := by omega
  clear hw hn
  rcases hn' with h | ⟨h, h'⟩ | ⟨h, h', h''⟩
  all_goals
    go_enter Try.func24, Try.ntmps24
    go_wp2
    refine bodyPost_ret (results_none rfl _ _ _) rfl ⟨rfl, 0, rfl⟩
set_option maxHeartbeats 4000000 in
theorem ref_put_yes (L : List Int) (v : Int) (n p : Nat) (g : Option Nat) (w : World) (hw : WR 74 w p g L) (hn : n ≤ 32) (hn' : L.length + n ≤ 524288) (hv : 0 ≤ v) (hv' : v < 4294967296) :
    Calls Try.prog 24 #[.pointer (some ⟨p, 0, none⟩), .int .u32 v, .int .i64 (n : Int)] w fun e w' => e = .returned (.tuple #[]) ∧ ∃ g', WR 74 w' p g' (L ++ bitsOf v n) ∧ Fr w w' p g g' := by
  have hc1 := hw.cell1
  have HW := Lib.hid hw
  clear hw
  go_enter Try.func24, Try.ntmps24
  go_wp2
  clear hc1
  go_loopw [6] (fun i wr => ∃ (k : Nat) (z : Int) (g' : Option Nat), z = (n : Int) - 1 - (k : Int) ∧ k ≤ n ∧ i = .int .i64 z ∧ WR 74 wr p g' (L ++ (bitsOf v n).take k) ∧ Fr w wr p g g') (fun i _ => (intOf i + 1).toNat)
  case atStart => exact ⟨0, _, g, rfl, Nat.zero_le _, by go_num, by simpa using HW.out, Fr.refl _ _ _⟩
  case round =>
    obtain ⟨k, z, g', hz, hk, rfl, hR, hF⟩ := hrel
    have HR := Lib.hid hR
    have HF := Lib.hid hF
    clear hR hF
    by_cases hlt : k < n
    · obtain ⟨m, hm⟩ : ∃ m, n - k = m + 1 := ⟨n - k - 1, by omega⟩
      obtain rfl : z = (m : Int) := by omega
      have hb := put_bit v m hv hv'
      have hbb : v / 2 ^ m % 2 = 0 ∨ v / 2 ^ m % 2 = 1 := by omega
      have hb8 : v / 2 ^ m % 2 % 256 = v / 2 ^ m % 2 := by omega
      have HB := Lib.hid hbb
      have HS := Lib.hid (bitsOf_snoc v n k hlt)
      have HM : Hid (n - 1 - k = m) := show n - 1 - k = m by omega
      have HZ : Hid ((m : Int) - 1 = (n : Int) - 1 - ((k + 1 : Nat) : Int)) := show _ = _ by omega
      have hl : (L ++ (bitsOf v n).take k).length < 1000000 := by
        rw [List.length_append, List.length_take, bitsOf_length]; omega
      have HL := Lib.hid hl
      have hm2 : m < 32 := by omega
      clear hbb hm hl hz
      go_wp2_with (go_at_call 46; refine (bit_fr (L ++ (bitsOf v n).take k) _ p g' wr HB.out HR.out HL.out).mono ?_; rintro e w1 ⟨rfl, g1, hw1, hf1⟩; have HW1 := Lib.hid hw1; have HF1 := Lib.hid hf1; clear hw1 hf1)
      go_roundw
      case rel =>
        refine ⟨k + 1, _, g1, HZ.out, by omega, rfl, ?_, HF.out.trans HF1.out⟩
        have h := HS.out
        rw [HM.out] at h
        rw [← h, ← List.append_assoc]
        exact HW1.out
      case measure => simp [intOf]
    · have hkn : k = n := by omega
      subst hkn
      obtain rfl : z = -1 := by omega
      clear hz
      go_wp2
      go_end0
      have h := HR.out
      rw [List.take_of_length_le (by rw [bitsOf_length]; exact Nat.le_refl _)] at h
      exact ⟨rfl, g', h, HF.out⟩
theorem ref_put_any (L : List Int) (v n : Int) (p : Nat) (g : Option Nat) (w : World) (hw : WR 74 w p g L) (hL : L.length ≤ 524288) (hv : 0 ≤ v) (hv' : v < 4294967296) :
    Calls Try.prog 24 #[.pointer (some ⟨p, 0, none⟩), .int .u32 v, .int .i64 n] w fun e w' => e = .returned (.tuple #[]) ∧ ∃ g', WR 74 w' p g' (puts L v n) ∧ Fr w w' p g g' := by
  unfold puts
  by_cases hn : n < 0 ∨ 32 < n ∨ 524288 < (L.length : Int) + n
  · rw [if_pos hn]
    exact (ref_put_no L v n p g w hw hn hL).mono fun e w' ⟨h1, q, h2⟩ => by subst h2; exact ⟨h1, g, hw.drewN q, (Fr.refl _ _ _).drewN q⟩
  · rw [if_neg hn]
    obtain ⟨m, rfl⟩ := Int.eq_ofNat_of_zero_le (show 0 ≤ n by omega)
    exact ref_put_yes L v m p g w hw (by omega) (by omega) hv hv'

/-- How many bits 0 fill up. -/
def pad (l n : Nat) : Nat := (n - l % n) % n
def aligns (L : List Int) (n : Int) : List Int := if n < 1 ∨ 64 < n ∨ 524288 < (L.length : Int) + (pad L.length n.toNat : Int) then L else L ++ List.replicate (pad L.length n.toNat) 0
theorem pad_lt (l n : Nat) (h : 0 < n) : pad l n < n := Nat.mod_lt _ h
theorem pad_up (l n : Nat) (h : 0 < n) : (l + n - 1) / n * n = l + pad l n := by
  have h1 := Nat.div_add_mod l n
  have h2 := Nat.mod_lt l h
  unfold pad
  by_cases h0 : l % n = 0
  · rw [h0, Nat.sub_zero, Nat.mod_self, Nat.add_zero]
    have e : l + n - 1 = (n - 1) + n * (l / n) := by rw [h0] at h1; omega
    rw [e, Nat.add_mul_div_left _ _ h, Nat.div_eq_of_lt (by omega), Nat.zero_add, Nat.mul_comm]
    rw [h0] at h1; omega
  · rw [Nat.mod_eq_of_lt (by omega)]
    have e : l + n - 1 = (l % n - 1) + n * (l / n + 1) := by rw [Nat.mul_add]; omega
    rw [e, Nat.add_mul_div_left _ _ h, Nat.div_eq_of_lt (by omega), Nat.zero_add, Nat.mul_comm, Nat.mul_add]
    omega
theorem pad_mod (l n k : Nat) (h : 0 < n) (hk : k ≤ pad l n) : (l + k) % n = 0 ↔ k = pad l n := by
  have h1 := Nat.div_add_mod l n
  have h2 := Nat.mod_lt l h
  unfold pad at hk ⊢
  rw [← Nat.mod_add_mod]
  by_cases h0 : l % n = 0
  · rw [h0, Nat.sub_zero, Nat.mod_self] at hk ⊢
    have : k = 0 := by omega
    subst this
    simp
  · have e1 : (n - l % n) % n = n - l % n := Nat.mod_eq_of_lt (by omega)
    rw [e1] at hk ⊢
    rcases Nat.lt_or_ge (l % n + k) n with h3 | h3
    · have e2 : (l % n + k) % n = l % n + k := Nat.mod_eq_of_lt h3
      rw [e2]; omega
    · have e2 : l % n + k = n := by omega
      rw [e2, Nat.mod_self]; omega
theorem rep_snoc (k : Nat) : List.replicate k (0 : Int) ++ [0] = List.replicate (k + 1) 0 := by rw [List.replicate_succ']
def muA (p e : Nat) (w : World) : Nat := e - (intOf ((w.cell? ⟨p, 1, none⟩).getD undef)).toNat
theorem muA_lt {p e : Nat} {w w' : World} {m : Nat} (h : w.cell? ⟨p, 1, none⟩ = some (.int .i64 (m : Int))) (h' : w'.cell? ⟨p, 1, none⟩ = some (.int .i64 ((m + 1 : Nat) : Int))) (hm : m < e) : muA p e w' < muA p e w := by
  unfold muA
  rw [h, h']
  simp [intOf]
  omega
set_option maxHeartbeats 1000000 in
theorem align_no (L : List Int) (n : Int) (p : Nat) (g : Option Nat) (w : World) (hw : WR 70 w p g L) (hn : n < 1 ∨ 64 < n ∨ 524288 < (L.length : Int) + (pad L.length n.toNat : Int)) (hL : L.length ≤ 524288) :
    Calls Try.prog 21 #[.pointer (some ⟨p, 0, none⟩), .int .i64 n] w fun e w' => e = .returned (.tuple #[]) ∧ ∃ q, w' = w.drewN q := by
  have hc1 := hw.cell1
  have hn' : n < 1 ∨ (1 ≤ n ∧ 64 < n) ∨ (1 ≤ n ∧ n ≤ 64 ∧ 524288 < (L.length : Int) + (pad L.length n.toNat : Int)) := by omega
  clear hw hn
  rcases hn' with h | ⟨h, h'⟩ | ⟨h, h', h''⟩
  · go_enter Try.func21, Try.ntmps21
    go_wp2
    exact bodyPost_ret (results_none rfl _ _ _) rfl ⟨rfl, 0, rfl⟩
  · go_enter Try.func21, Try.ntmps21
    go_wp2
    exact bodyPost_ret (results_none rfl _ _ _) rfl ⟨rfl, 0, rfl⟩
  · obtain ⟨N, rfl⟩ := Int.eq_ofNat_of_zero_le (show 0 ≤ n by omega)
    rw [Int.toNat_natCast] at h''
    have hu := pad_up L.length N (by omega)
    have hp := pad_lt L.length N (by omega)
    have e1 : ((L.length : Int) + (N : Int) - 1) / (N : Int) * (N : Int) = (L.length : Int) + (pad L.length N : Int) := by
      have : ((L.length : Int) + (N : Int) - 1) = ((L.length + N - 1 : Nat) : Int) := by omega
      rw [this, ← Int.natCast_ediv, ← Int.natCast_mul, hu, Int.natCast_add]
    generalize pad L.length N = P at *
    clear hu
    go_enter Try.func21, Try.ntmps21
    go_wp2
    exact bodyPost_ret (results_none rfl _ _ _) rfl ⟨rfl, 0, rfl⟩
set_option maxHeartbeats 4000000 in
theorem align_yes (L : List Int) (n p : Nat) (g : Option Nat) (w : World) (hw : WR 70 w p g L) (hn : 1 ≤ n) (hn' : n ≤ 64) (hL : L.length + pad L.length n ≤ 524288) :
    Calls Try.prog 21 #[.pointer (some ⟨p, 0, none⟩), .int .i64 (n : Int)] w fun e w' => e = .returned (.tuple #[]) ∧ ∃ g', WR 70 w' p g' (L ++ List.replicate (pad L.length n) 0) ∧ Fr w w' p g g' := by
  have hc1 := hw.cell1
  have HW := Lib.hid hw
  have hu := pad_up L.length n (by omega)
  have hp := pad_lt L.length n (by omega)
  have hmd := pad_mod L.length n
  have e1 : ((L.length : Int) + (n : Int) - 1) / (n : Int) * (n : Int) = (L.length : Int) + (pad L.length n : Int) := by
    have : ((L.length : Int) + (n : Int) - 1) = ((L.length + n - 1 : Nat) : Int) := by omega
    rw [this, ← Int.natCast_ediv, ← Int.natCast_mul, hu, Int.natCast_add]
  have HM := Lib.hid hmd
  generalize pad L.length n = P at *
  clear hw hu hmd
  go_enter Try.func21, Try.ntmps21
  go_wp2
  clear hc1 e1
  go_loopw [] (fun wr => ∃ (k : Nat) (g' : Option Nat), k ≤ P ∧ WR 70 wr p g' (L ++ List.replicate k 0) ∧ Fr w wr p g g') (fun wr => muA p (L.length + P) wr)
  case atStart => exact ⟨0, g, Nat.zero_le _, by simpa using HW.out, Fr.refl _ _ _⟩
  case round =>
    obtain ⟨k, g', hk, hR, hF⟩ := hrel
    have hc1 := hR.cell1
    have HR := Lib.hid hR
    have HF := Lib.hid hF
    have hlen : (L ++ List.replicate k (0 : Int)).length = L.length + k := by simp
    obtain ⟨m, hm⟩ : ∃ m, m = L.length + k := ⟨_, rfl⟩
    rw [hlen, ← hm] at hc1
    have HL : Hid ((L ++ List.replicate k (0 : Int)).length < 1000000) := show _ < _ by omega
    have HE := Lib.hid hm
    have hmm := HM.out k (by omega) hk
    rw [← hm] at hmm
    have hm3 : m < 1000000 := by omega
    clear hR hF hlen
    by_cases hlt : k = P
    · have h0 : (m : Int) % (n : Int) = 0 := by have := hmm.2 hlt; omega
      clear hmm hm
      subst hlt
      go_wp2
      go_end0
      exact ⟨rfl, g', HR.out, HF.out⟩
    · have h0 : ((m : Int) % (n : Int) == 0) = false := beq_eq_false_iff_ne.2 (fun h => hlt (hmm.1 (by omega)))
      clear hmm hm
      go_wp2_with (go_at_call 41; refine (one_fr (L ++ List.replicate k 0) 0 p g' wr (.inl rfl) HR.out HL.out).mono ?_; rintro e w1 ⟨rfl, g1, hw1, hf1⟩; have HW1 := Lib.hid hw1; have HF1 := Lib.hid hf1; clear hw1 hf1)
      go_roundw
      case rel =>
        refine ⟨k + 1, g1, by omega, ?_, HF.out.trans HF1.out⟩
        rw [← rep_snoc, ← List.append_assoc]
        exact HW1.out
      case measure =>
        have h1 := HW1.out.cell1
        have e : ((L ++ List.replicate k 0 ++ [0]).length : Int) = ((m + 1 : Nat) : Int) := by have := HE.out; simp; omega
        rw [e] at h1
        exact muA_lt hc1 h1 (by have := HE.out; omega)
theorem align_any (L : List Int) (n : Int) (p : Nat) (g : Option Nat) (w : World) (hw : WR 70 w p g L) (hL : L.length ≤ 524288) :
    Calls Try.prog 21 #[.pointer (some ⟨p, 0, none⟩), .int .i64 n] w fun e w' => e = .returned (.tuple #[]) ∧ ∃ g', WR 70 w' p g' (aligns L n) ∧ Fr w w' p g g' := by
  unfold aligns
  by_cases hn : n < 1 ∨ 64 < n ∨ 524288 < (L.length : Int) + (pad L.length n.toNat : Int)
  · rw [if_pos hn]
    exact (align_no L n p g w hw hn hL).mono fun e w' ⟨h1, q, h2⟩ => by subst h2; exact ⟨h1, g, hw.drewN q, (Fr.refl _ _ _).drewN q⟩
  · rw [if_neg hn]
    obtain ⟨m, rfl⟩ := Int.eq_ofNat_of_zero_le (show 0 ≤ n by omega)
    rw [Int.toNat_natCast] at hn
    exact align_yes L m p g w hw (by omega) (by omega) (by omega)
theorem aligns_le (L : List Int) (n : Int) (hL : L.length ≤ 524288) : (aligns L n).length ≤ 524288 := by
  unfold aligns
  split
  · exact hL
  · rw [List.length_append, List.length_replicate]; omega
set_option maxHeartbeats 2000000 in
theorem ref_align_no (L : List Int) (n : Int) (p : Nat) (g : Option Nat) (w : World) (hw : WR 74 w p g L) (hn : n < 1 ∨ 64 < n ∨ 524288 < (L.length : Int) + (pad L.length n.toNat : Int)) (hL : L.length ≤ 524288) :
    Calls Try.prog 27 #[.pointer (some ⟨p, 0, none⟩), .int .i64 n] w fun e w' => e = .returned (.tuple #[]) ∧ ∃ q, w' = w.drewN q := by
  have hc1 := hw.cell1
  have hn' : n < 1 ∨ (1 ≤ n ∧ 64 < n) ∨ (1 ≤ n ∧ n ≤ 64 ∧ 524288 < (L.length : Int) + (pad L.length n.toNat : Int)) := by omega
  clear hw hn
  rcases hn' with h | ⟨h, h'⟩ | ⟨h, h', h''⟩
  · have d1 : decide (n < 1) = true := decide_eq_true h
    go_enter Try.func27, Try.ntmps27
    go_wp2
    go_quiet (fail)
    go_wp2
    exact bodyPost_ret (results_none rfl _ _ _) rfl ⟨rfl, _, rfl⟩
  · have d1 : decide (n < 1) = false := decide_eq_false (by omega)
    have d2 : decide (64 < n) = true := decide_eq_true h'
    go_enter Try.func27, Try.ntmps27
    go_wp2
    go_quiet (fail)
    go_wp2
    exact bodyPost_ret (results_none rfl _ _ _) rfl ⟨rfl, _, rfl⟩
  · obtain ⟨N, rfl⟩ := Int.eq_ofNat_of_zero_le (show 0 ≤ n by omega)
    rw [Int.toNat_natCast] at h''
    have d1 : decide ((N : Int) < 1) = false := decide_eq_false (by omega)
    have d2 : decide (64 < (N : Int)) = false := decide_eq_false (by omega)
    have hz : ¬ (N : Int) = 0 := by omega
    have hm := Nat.mod_lt L.length (show 0 < N by omega)
    have t1 : Int.tmod (L.length : Int) (N : Int) = ((L.length % N : Nat) : Int) := by rw [Int.tmod_eq_emod_of_nonneg (by omega)]; simp
    have t2 : IntKind.i64.wrap ((N : Int) - ((L.length % N : Nat) : Int)) = ((N - L.length % N : Nat) : Int) := by rw [show (N : Int) - ((L.length % N : Nat) : Int) = ((N - L.length % N : Nat) : Int) by omega]; exact IntWalk.i64_in _ (by omega)
    have t3 : Int.tmod ((N - L.length % N : Nat) : Int) (N : Int) = (pad L.length N : Int) := by rw [Int.tmod_eq_emod_of_nonneg (by omega)]; simp [pad]
    have t4 : IntKind.i64.wrap (524288 - (L.length : Int)) = 524288 - (L.length : Int) := IntWalk.i64_in _ (by omega)
    have d3 : decide (524288 - (L.length : Int) < (pad L.length N : Int)) = true := decide_eq_true (by omega)
    generalize pad L.length N = P at *
    generalize L.length % N = M at *
    clear h h' h'' hm
    go_enter Try.func27, Try.ntmps27
    go_wp2
    go_quiet (fail)
    go_wp2
    exact bodyPost_ret (results_none rfl _ _ _) rfl ⟨rfl, _, rfl⟩
set_option maxHeartbeats 4000000 in
theorem ref_align_yes (L : List Int) (n p : Nat) (g : Option Nat) (w : World) (hw : WR 74 w p g L) (hn : 1 ≤ n) (hn' : n ≤ 64) (hL : L.length + pad L.length n ≤ 524288) :
    Calls Try.prog 27 #[.pointer (some ⟨p, 0, none⟩), .int .i64 (n : Int)] w fun e w' => e = .returned (.tuple #[]) ∧ ∃ g', WR 74 w' p g' (L ++ List.replicate (pad L.length n) 0) ∧ Fr w w' p g g' := by
  have hc1 := hw.cell1
  have HW := Lib.hid hw
  have hu := pad_up L.length n (by omega)
  have hp := pad_lt L.length n (by omega)
  have hmd := pad_mod L.length n
  have d1 : decide ((n : Int) < 1) = false := decide_eq_false (by omega)
  have d2 : decide (64 < (n : Int)) = false := decide_eq_false (by omega)
  have hz : ¬ (n : Int) = 0 := by omega
  have hm := Nat.mod_lt L.length (show 0 < n by omega)
  have t1 : Int.tmod (L.length : Int) (n : Int) = ((L.length % n : Nat) : Int) := by rw [Int.tmod_eq_emod_of_nonneg (by omega)]; simp
  have t2 : IntKind.i64.wrap ((n : Int) - ((L.length % n : Nat) : Int)) = ((n - L.length % n : Nat) : Int) := by rw [show (n : Int) - ((L.length % n : Nat) : Int) = ((n - L.length % n : Nat) : Int) by omega]; exact IntWalk.i64_in _ (by omega)
  have t3 : Int.tmod ((n - L.length % n : Nat) : Int) (n : Int) = (pad L.length n : Int) := by rw [Int.tmod_eq_emod_of_nonneg (by omega)]; simp [pad]
  have t4 : IntKind.i64.wrap (524288 - (L.length : Int)) = 524288 - (L.length : Int) := IntWalk.i64_in _ (by omega)
  have d3 : decide (524288 - (L.length : Int) < (pad L.length n : Int)) = false := decide_eq_false (by omega)
  have HM := Lib.hid hmd
  generalize pad L.length n = P at *
  generalize L.length % n = M at *
  clear hw hu hmd hm
  go_enter Try.func27, Try.ntmps27
  go_wp2
  go_quiet (fail)
  go_wp2
  clear hc1 d1 d2 t1 t2 t3 t4 d3
  go_loopw [] (fun wr => ∃ (k : Nat) (g' : Option Nat), k ≤ P ∧ WR 74 wr p g' (L ++ List.replicate k 0) ∧ Fr w wr p g g') (fun wr => muA p (L.length + P) wr)
  case atStart => exact ⟨0, g, Nat.zero_le _, by simpa using HW.out.drewN _, (Fr.refl _ _ _).drewN _⟩
  case round =>
    obtain ⟨k, g', hk, hR, hF⟩ := hrel
    have hc1 := hR.cell1
    have HR := Lib.hid hR
    have HF := Lib.hid hF
    have hlen : (L ++ List.replicate k (0 : Int)).length = L.length + k := by simp
    obtain ⟨m, hm⟩ : ∃ m, m = L.length + k := ⟨_, rfl⟩
    rw [hlen, ← hm] at hc1
    have HL : Hid ((L ++ List.replicate k (0 : Int)).length < 1000000) := show _ < _ by omega
    have HE := Lib.hid hm
    have hmm := HM.out k (by omega) hk
    rw [← hm] at hmm
    have hm3 : m < 1000000 := by omega
    clear hR hF hlen
    by_cases hlt : k = P
    · have h0 : (m : Int) % (n : Int) = 0 := by have := hmm.2 hlt; omega
      clear hmm hm
      subst hlt
      go_wp2
      go_end0
      exact ⟨rfl, g', HR.out, HF.out⟩
    · have h0 : ((m : Int) % (n : Int) == 0) = false := beq_eq_false_iff_ne.2 (fun h => hlt (hmm.1 (by omega)))
      clear hmm hm
      go_wp2_with (go_at_call 46; refine (bit_fr (L ++ List.replicate k 0) 0 p g' wr (.inl rfl) HR.out HL.out).mono ?_; rintro e w1 ⟨rfl, g1, hw1, hf1⟩; have HW1 := Lib.hid hw1; have HF1 := Lib.hid hf1; clear hw1 hf1)
      go_roundw
      case rel =>
        refine ⟨k + 1, g1, by omega, ?_, HF.out.trans HF1.out⟩
        rw [← rep_snoc, ← List.append_assoc]
        exact HW1.out
      case measure =>
        have h1 := HW1.out.cell1
        have e : ((L ++ List.replicate k 0 ++ [0]).length : Int) = ((m + 1 : Nat) : Int) := by have := HE.out; simp; omega
        rw [e] at h1
        exact muA_lt hc1 h1 (by have := HE.out; omega)
theorem ref_align_any (L : List Int) (n : Int) (p : Nat) (g : Option Nat) (w : World) (hw : WR 74 w p g L) (hL : L.length ≤ 524288) :
    Calls Try.prog 27 #[.pointer (some ⟨p, 0, none⟩), .int .i64 n] w fun e w' => e = .returned (.tuple #[]) ∧ ∃ g', WR 74 w' p g' (aligns L n) ∧ Fr w w' p g g' := by
  unfold aligns
  by_cases hn : n < 1 ∨ 64 < n ∨ 524288 < (L.length : Int) + (pad L.length n.toNat : Int)
  · rw [if_pos hn]
    exact (ref_align_no L n p g w hw hn hL).mono fun e w' ⟨h1, q, h2⟩ => by subst h2; exact ⟨h1, g, hw.drewN q, (Fr.refl _ _ _).drewN q⟩
  · rw [if_neg hn]
    obtain ⟨m, rfl⟩ := Int.eq_ofNat_of_zero_le (show 0 ≤ n by omega)
    rw [Int.toNat_natCast] at hn
    exact ref_align_yes L m p g w hw (by omega) (by omega) (by omega)
end Go.Proofs.Ytmedlplgeeeodaa.Bits
