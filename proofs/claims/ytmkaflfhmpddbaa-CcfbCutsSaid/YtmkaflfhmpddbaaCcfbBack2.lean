/- Reports of the first kind: what was decoded is encoded as it was; what a body that is cut off tells; no program in sight. -/
import Derived.Test.YtmkaflfhmpddbaaCcfbBack
namespace Go.Proofs.Ytmkaflfhmpddbaa.Ccfb
open Go.RowKit Go.Proofs.Ytmkaflfhmpddbaa.Plain Go.Proofs.Ytmkaflfhmpddbaa.Heap Go.Proofs.Ytmkaflfhmpddbaa.Open Go.Proofs.Ytmkaflfhmpddbaa.Rows Go.Proofs.Ytmkaflfhmpddbaa.Bits

theorem encM_dec (s : ByteArray) (a : Nat) : encM (decM s a) = bitsS s a 16 := by
  have e1 : b01 (decM s a).1 = val s a 1 := by
    have h := val_bd1 s a
    show (if decide (val s a 1 = 1) = true then (1 : Int) else 0) = val s a 1
    by_cases h1 : val s a 1 = 1
    · rw [if_pos (decide_eq_true h1), h1]
    · rw [if_neg (by simpa using h1)]; omega
  unfold encM
  rw [e1]
  show bitsOf (val s a 1) 1 ++ (bitsOf (val s (a + 1) 2) 2 ++ bitsOf (val s (a + 3) 13) 13) = _
  rw [bitsOf_val, bitsOf_val, bitsOf_val, show (16 : Nat) = 1 + (2 + 13) from rfl, bitsS_add, bitsS_add]
theorem encMs_dec (s : ByteArray) (a n : Nat) : encMs (decMs s a n) = bitsS s a (16 * n) := by
  induction n with
  | zero => rfl
  | succ n ih =>
    rw [decMs_succ, encMs_append, ih, show 16 * (n + 1) = 16 * n + 16 by omega, bitsS_add]
    congr 1
    show encM (decM s (a + 16 * n)) ++ [] = _
    rw [encM_dec, List.append_nil]
theorem decM_ok (s : ByteArray) (a : Nat) : okM (decM s a) := by
  have h2 := val_bd2 s (a + 1)
  have h3 := val_bd13 s (a + 3)
  exact ⟨by show _ ≤ val s (a + 1) 2; omega, by show val s (a + 1) 2 ≤ _; omega, by show _ ≤ val s (a + 3) 13; omega, by show val s (a + 3) 13 ≤ _; omega⟩
theorem decM_good {s : ByteArray} {a : Nat} (h : badM (decM s a) = false) : goodM (decM s a) = true := by
  have h2 := val_bd2 s (a + 1)
  have h3 := val_bd13 s (a + 3)
  have hb := badM_no h
  have e2 : (decM s a).2.1 = val s (a + 1) 2 := rfl
  have e3 : (decM s a).2.2 = val s (a + 3) 13 := rfl
  unfold goodM
  rcases hb with h1 | ⟨h1, h4, h5⟩
  · rw [h1, e2, e3]
    simp
    omega
  · rw [h1, h4, h5]
    rfl
/-- A block that was read. -/
theorem encB_dec {s : ByteArray} {a : Nat} {b : Bl} (h : decB s a = .ok b) : encBl b = bitsS s a (8 * sizeB b) ∧ endB a b.2.2.length = a + 8 * sizeB b ∧ okB b ∧ goodB b = true := by
  obtain ⟨_, hl, hc⟩ := decB_len h
  unfold decB at h
  split at h
  · cases h
  split at h
  · cases h
  split at h
  · cases h
  split at h
  · cases h
  split at h
  · cases h
  rename_i hany hpad
  injection h with h
  obtain ⟨n, hn⟩ : ∃ n, n = cntB s a := ⟨_, rfl⟩
  rw [← hn] at hany hpad h hc
  have hv := cnt_val s a
  rw [← hn] at hv
  subst h
  simp only [decMs_len] at hl hc ⊢
  have hv16 := val_bd16 s (a + 32)
  have hend : endB a n = a + 8 * sizeB (val s a 32, val s (a + 32) 16, decMs s (a + 64) n) := by
    unfold endB sizeB
    simp only [decMs_len]
    omega
  have hany' : ∀ m ∈ decMs s (a + 64) n, badM m = false := fun m hm => by
    cases hb : badM m with
    | false => rfl
    | true => exact absurd (List.any_eq_true.2 ⟨m, hm, hb⟩) hany
  refine ⟨?_, hend, ⟨(val_bd32 s a).1, (val_bd32 s a).2, by show _ ≤ val s (a + 32) 16; omega, by show val s (a + 32) 16 ≤ _; omega, fun m hm => ?_⟩, ?_⟩
  · unfold encBl
    simp only [decMs_len]
    have hz : zeros (padB n) = bitsS s (a + 64 + 16 * n) (padB n) := by
      unfold zeros padB
      split
      · rename_i hodd
        have h0 : val s (a + 64 + 16 * n) 16 = 0 := by
          by_cases h0 : val s (a + 64 + 16 * n) 16 = 0
          · exact h0
          · exact absurd ⟨hodd, h0⟩ hpad
        rw [← bitsOf_zero, ← h0, bitsOf_val]
      · rfl
    rw [hz, encMs_dec, ← hv, bitsOf_val, bitsOf_val, bitsOf_val]
    have hsz : 8 * sizeB (val s a 32, val s (a + 32) 16, decMs s (a + 64) n) = 32 + (16 + (16 + (16 * n + padB n))) := by
      unfold sizeB padB
      simp only [decMs_len]
      split <;> omega
    rw [hsz, bitsS_add, bitsS_add, bitsS_add, bitsS_add]
  · obtain ⟨j, _, rfl⟩ := List.mem_map.1 hm
    exact decM_ok _ _
  · unfold goodB
    simp only [decMs_len, Bool.and_eq_true, decide_eq_true_eq, List.all_eq_true]
    refine ⟨⟨⟨hv16.1, by omega⟩, hl⟩, fun m hm => ?_⟩
    have hb := hany' m hm
    obtain ⟨j, _, rfl⟩ := List.mem_map.1 hm
    exact decM_good hb
/-- All blocks that were read. -/
theorem encBs_dec {s : ByteArray} (h32 : 8 * s.size % 32 = 0) : ∀ (f a : Nat) (bs bs' : List Bl) (a' : Nat), a % 32 = 0 → a + 32 ≤ 8 * s.size → (∀ b ∈ bs, okB b ∧ goodB b = true) → bs.length ≤ 16 → decBs s f a bs = .ok (bs', a') →
    a' + 32 = 8 * s.size ∧ bs'.length ≤ 16 ∧ (∀ b ∈ bs', okB b ∧ goodB b = true) ∧ ∃ t, bs' = bs ++ t ∧ encBs t = bitsS s a (a' - a) ∧ a ≤ a' := by
  intro f
  induction f with
  | zero => intro a bs bs' a' _ _ _ _ h; cases h
  | succ f ih =>
    intro a bs bs' a' ha ha2 hok hl h
    unfold decBs at h
    split at h
    · injection h with h
      injection h with h1 h2
      subst h1 h2
      exact ⟨by omega, hl, hok, [], by simp, by simp [encBs, bitsS], Nat.le_refl _⟩
    split at h
    · cases h
    rename_i h16
    cases hd : decB s a with
    | error e => rw [hd] at h; cases h
    | ok b =>
      rw [hd] at h
      simp only at h
      obtain ⟨e1, e2, e3, e4⟩ := encB_dec hd
      obtain ⟨g1, g2, g3⟩ := decB_len hd
      have hend : (endB a b.2.2.length) % 32 = 0 := by unfold endB; omega
      obtain ⟨i1, i2, i3, t, i4, i5, i6⟩ := ih _ (bs ++ [b]) bs' a' hend g1 (fun x hx => by
        rcases List.mem_append.1 hx with hx | hx
        · exact hok x hx
        · simp at hx; subst hx; exact ⟨e3, e4⟩) (by rw [List.length_append, List.length_singleton]; omega) h
      refine ⟨i1, i2, i3, b :: t, by rw [i4]; simp, ?_, by omega⟩
      show encBl b ++ encBs t = _
      rw [i5, e1, e2]
      rw [e2] at i6
      rw [show a' - a = 8 * sizeB b + (a' - (a + 8 * sizeB b)) by omega, bitsS_add]
/-- What was decoded: it is a report, and it is encoded as it was. -/
theorem enc_dec {s : ByteArray} {q : Rep} (h : decC s = (q, 0)) : okC q ∧ goodC q = true ∧ sizeC q = s.size ∧ s.size ≤ 65536 ∧ txt (encC q) = s := by
  unfold decC at h
  split at h
  · cases h
  split at h
  · cases h
  split at h
  · cases h
  rename_i h1 h2 h3
  cases hb : decBs s 17 32 [] with
  | error e =>
    rw [hb] at h
    injection h with h4 h5
    subst h5
    exfalso
    have : ∀ (f a : Nat) (bs : List Bl), decBs s f a bs ≠ .error 0 := by
      intro f
      induction f with
      | zero => intro a bs h; cases h
      | succ f ih =>
        intro a bs h
        unfold decBs at h
        split at h
        · cases h
        split at h
        · cases h
        cases hd : decB s a with
        | error e =>
          rw [hd] at h
          simp only at h
          injection h with h
          have := decB_err hd
          rw [h] at this
          cases this
        | ok b =>
          rw [hd] at h
          exact ih _ _ h
    exact this _ _ _ hb
  | ok x =>
    obtain ⟨bs, a⟩ := x
    rw [hb] at h
    injection h with h4 _
    subst h4
    obtain ⟨i1, i2, i3, t, i4, i5, i6⟩ := encBs_dec (by omega) 17 32 [] bs a rfl (by omega) (fun b hb => by cases hb) (by simp) hb
    rw [List.nil_append] at i4
    subst i4
    have hbits : encC (val s 0 32, bs, val s a 32) = bitsS s 0 (8 * s.size) := by
      show bitsOf (val s 0 32) 32 ++ (encBs bs ++ bitsOf (val s a 32) 32) = _
      rw [i5, bitsOf_val, bitsOf_val, show 8 * s.size = 32 + ((a - 32) + 32) by omega, bitsS_add, bitsS_add]
      rw [show 0 + 32 + (a - 32) = a by omega]
    refine ⟨⟨(val_bd32 s 0).1, (val_bd32 s 0).2, (val_bd32 s a).1, (val_bd32 s a).2, fun b hb => (i3 b hb).1⟩, ?_, ?_, by omega, by rw [hbits, txt_bitsS]⟩
    · unfold goodC
      simp only [Bool.and_eq_true, decide_eq_true_eq, List.all_eq_true]
      exact ⟨i2, fun b hb => (i3 b hb).2⟩
    · show sizeC (val s 0 32, bs, val s a 32) = s.size
      have h5 := encC_len (val s 0 32, bs, val s a 32)
      rw [hbits, bitsS_len] at h5
      omega
theorem dec_err {s : ByteArray} (h : (decC s).2 ≠ 0) : (decC s).1 = zeroC := by
  unfold decC at h ⊢
  split
  · rfl
  split
  · rfl
  split
  · rfl
  rename_i h1 h2 h3
  rw [if_neg h1, if_neg h2, if_neg h3] at h
  cases hb : decBs s 17 32 [] with
  | error e => rfl
  | ok x => rw [hb] at h; exact absurd rfl h
theorem dec_ok (s : ByteArray) : okC (decC s).1 ∧ goodC (decC s).1 = true := by
  by_cases h : (decC s).2 = 0
  · have := enc_dec (s := s) (q := (decC s).1) (by rw [← h])
    exact ⟨this.1, this.2.1⟩
  · rw [dec_err h]
    exact ⟨⟨by show (0 : Int) ≤ 0; omega, by show (0 : Int) < 4294967296; omega, by show (0 : Int) ≤ 0; omega, by show (0 : Int) < 4294967296; omega, fun b hb => by cases hb⟩, rfl⟩
end Go.Proofs.Ytmkaflfhmpddbaa.Ccfb
