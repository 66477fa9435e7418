/- The report of a body of the first kind; no program in sight. -/
import Derived.Test.YtmkaflfhmpddbaaCcfbEnc
namespace Go.Proofs.Ytmkaflfhmpddbaa.Ccfb
open Go.RowKit Go.Proofs.Ytmkaflfhmpddbaa.Plain Go.Proofs.Ytmkaflfhmpddbaa.Heap Go.Proofs.Ytmkaflfhmpddbaa.Open Go.Proofs.Ytmkaflfhmpddbaa.Rows Go.Proofs.Ytmkaflfhmpddbaa.Bits

def decM (s : ByteArray) (a : Nat) : M3 := (decide (val s a 1 = 1), val s (a + 1) 2, val s (a + 3) 13)
def badM (m : M3) : Bool := !m.1 && (!decide (m.2.1 = 0) || !decide (m.2.2 = 0))
def decMs (s : ByteArray) (a n : Nat) : List M3 := (List.range n).map fun j => decM s (a + 16 * j)
def cntB (s : ByteArray) (a : Nat) : Nat := (val s (a + 48) 16).toNat
def endB (a n : Nat) : Nat := a + 64 + (n + 1) / 2 * 32
/-- A block, or what is wrong with it. -/
def decB (s : ByteArray) (a : Nat) : Except Int Bl :=
  if 8 * s.size < a + 96 then .error 60
  else if 4096 < cntB s a then .error 3
  else if 8 * s.size < endB a (cntB s a) + 32 then .error 60
  else if (decMs s (a + 64) (cntB s a)).any badM = true then .error 70
  else if cntB s a % 2 = 1 ∧ val s (a + 64 + 16 * cntB s a) 16 ≠ 0 then .error 91
  else .ok (val s a 32, val s (a + 32) 16, decMs s (a + 64) (cntB s a))
/-- All blocks, from a place on. -/
def decBs (s : ByteArray) : Nat → Nat → List Bl → Except Int (List Bl × Nat)
  | 0, _, _ => .error 3
  | f + 1, a, bs => if 8 * s.size ≤ a + 32 then .ok (bs, a) else if bs.length = 16 then .error 3 else match decB s a with
    | .error e => .error e
    | .ok b => decBs s f (endB a b.2.2.length) (bs ++ [b])
def zeroC : Rep := (0, [], 0)
def decOut (s : ByteArray) : Except Int (List Bl × Nat) → Rep × Int
  | .error e => (zeroC, e)
  | .ok x => ((val s 0 32, x.1, val s x.2 32), 0)
/-- What Decode tells. -/
def decC (s : ByteArray) : Rep × Int :=
  if 65536 < s.size then (zeroC, 2) else if s.size % 4 ≠ 0 then (zeroC, 90) else if s.size < 8 then (zeroC, 60)
  else decOut s (decBs s 17 32 [])
theorem decMs_len (s : ByteArray) (a n : Nat) : (decMs s a n).length = n := by simp [decMs]
theorem decMs_succ (s : ByteArray) (a n : Nat) : decMs s a (n + 1) = decMs s a n ++ [decM s (a + 16 * n)] := by simp [decMs, List.range_succ]
theorem any_succ (s : ByteArray) (a n : Nat) (h : (decMs s a n).any badM = false) (h2 : badM (decM s (a + 16 * n)) = false) : (decMs s a (n + 1)).any badM = false := by
  rw [decMs_succ, List.any_append, h]
  simp [h2]
theorem any_bad {s : ByteArray} {a n k : Nat} (hk : k < n) (h : badM (decM s (a + 16 * k)) = true) : (decMs s a n).any badM = true := by
  rw [List.any_eq_true]
  exact ⟨_, List.mem_map.2 ⟨k, List.mem_range.2 hk, rfl⟩, h⟩
theorem val_bd32 (s : ByteArray) (a : Nat) : 0 ≤ val s a 32 ∧ val s a 32 < 4294967296 := val_bd s a 32
theorem val_bd16 (s : ByteArray) (a : Nat) : 0 ≤ val s a 16 ∧ val s a 16 < 65536 := val_bd s a 16
theorem val_bd13 (s : ByteArray) (a : Nat) : 0 ≤ val s a 13 ∧ val s a 13 < 8192 := val_bd s a 13
theorem val_bd2 (s : ByteArray) (a : Nat) : 0 ≤ val s a 2 ∧ val s a 2 < 4 := val_bd s a 2
theorem val_bd1 (s : ByteArray) (a : Nat) : 0 ≤ val s a 1 ∧ val s a 1 < 2 := val_bd s a 1
theorem cnt_val (s : ByteArray) (a : Nat) : val s (a + 48) 16 = ((cntB s a : Nat) : Int) := by
  have := (val_bd16 s (a + 48)).1
  unfold cntB
  omega
theorem badM_yes {m : M3} (h : badM m = true) : m.1 = false ∧ ((m.2.1 == 0) = false ∨ (m.2.1 = 0 ∧ (m.2.2 == 0) = false)) := by
  unfold badM at h
  obtain ⟨g, e, a⟩ := m
  cases g <;> simp at h ⊢
  omega
theorem badM_no {m : M3} (h : badM m = false) : m.1 = true ∨ (m.1 = false ∧ m.2.1 = 0 ∧ m.2.2 = 0) := by
  unfold badM at h
  obtain ⟨g, e, a⟩ := m
  cases g <;> simp at h ⊢
  omega
theorem decC_main {s : ByteArray} (h0 : ¬ 65536 < s.size) (h1 : s.size % 4 = 0) (h2 : ¬ s.size < 8) : decC s = decOut s (decBs s 17 32 []) := by
  unfold decC
  rw [if_neg h0, if_neg (by omega), if_neg h2]
theorem decB_err {s : ByteArray} {a : Nat} {c : Int} (h : decB s a = .error c) : (c == 0) = false := by
  unfold decB at h
  split at h
  · injection h with h; subst h; rfl
  split at h
  · injection h with h; subst h; rfl
  split at h
  · injection h with h; subst h; rfl
  split at h
  · injection h with h; subst h; rfl
  split at h
  · injection h with h; subst h; rfl
  · cases h
theorem decB_len {s : ByteArray} {a : Nat} {b : Bl} (h : decB s a = .ok b) : endB a b.2.2.length + 32 ≤ 8 * s.size ∧ b.2.2.length ≤ 4096 ∧ b.2.2.length = cntB s a := by
  unfold decB at h
  split at h
  · cases h
  split at h
  · cases h
  split at h
  · cases h
  split at h
  · cases h
  split at h
  · cases h
  · injection h with h
    subst h
    simp only [decMs_len]
    exact ⟨by omega, by omega, trivial⟩
theorem decBs_end {s : ByteArray} {a : Nat} {bs : List Bl} (h : bs.length ≤ 16) (ha : 8 * s.size ≤ a + 32) : decBs s (17 - bs.length) a bs = .ok (bs, a) := by
  obtain ⟨f, hf⟩ : ∃ f, 17 - bs.length = f + 1 := ⟨16 - bs.length, by omega⟩
  rw [hf]
  unfold decBs
  rw [if_pos ha]
theorem decBs_many {s : ByteArray} {a : Nat} {bs : List Bl} (h : bs.length = 16) (ha : ¬ 8 * s.size ≤ a + 32) : decBs s (17 - bs.length) a bs = .error 3 := by
  obtain ⟨f, hf⟩ : ∃ f, 17 - bs.length = f + 1 := ⟨0, by omega⟩
  rw [hf]
  unfold decBs
  rw [if_neg ha, if_pos h]
theorem decBs_err {s : ByteArray} {a : Nat} {bs : List Bl} {c : Int} (h : bs.length ≤ 16) (h2 : ¬ bs.length = 16) (ha : ¬ 8 * s.size ≤ a + 32) (hb : decB s a = .error c) : decBs s (17 - bs.length) a bs = .error c := by
  obtain ⟨f, hf⟩ : ∃ f, 17 - bs.length = f + 1 := ⟨16 - bs.length, by omega⟩
  rw [hf]
  unfold decBs
  rw [if_neg ha, if_neg h2, hb]
theorem decBs_next {s : ByteArray} {a : Nat} {bs : List Bl} {b : Bl} (h : bs.length ≤ 16) (h2 : ¬ bs.length = 16) (ha : ¬ 8 * s.size ≤ a + 32) (hb : decB s a = .ok b) : decBs s (17 - bs.length) a bs = decBs s (17 - (bs ++ [b]).length) (endB a b.2.2.length) (bs ++ [b]) := by
  obtain ⟨f, hf⟩ : ∃ f, 17 - bs.length = f + 1 := ⟨16 - bs.length, by omega⟩
  rw [hf]
  conv => lhs; unfold decBs
  rw [if_neg ha, if_neg h2, hb, List.length_append, List.length_singleton, show 17 - (bs.length + 1) = f by omega]
end Go.Proofs.Ytmkaflfhmpddbaa.Ccfb
