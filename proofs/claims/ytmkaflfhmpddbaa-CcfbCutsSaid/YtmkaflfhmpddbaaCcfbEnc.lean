/- The bits of a report of the first kind; no program in sight. -/
import Derived.Test.YtmkaflfhmpddbaaCcfbRep
import Derived.Test.YtmkaflfhmpddbaaBitsX
namespace Go.Proofs.Ytmkaflfhmpddbaa.Ccfb
open Go.RowKit Go.Proofs.Ytmkaflfhmpddbaa.Plain Go.Proofs.Ytmkaflfhmpddbaa.Heap Go.Proofs.Ytmkaflfhmpddbaa.Open Go.Proofs.Ytmkaflfhmpddbaa.Rows Go.Proofs.Ytmkaflfhmpddbaa.Bits

def b01 (b : Bool) : Int := if b = true then 1 else 0
def encM (m : M3) : List Int := bitsOf (b01 m.1) 1 ++ (bitsOf m.2.1 2 ++ bitsOf m.2.2 13)
def encMs (ms : List M3) : List Int := ms.flatMap encM
def zeros (n : Nat) : List Int := List.replicate n 0
def padB (n : Nat) : Nat := if n % 2 = 1 then 16 else 0
def encBl (b : Bl) : List Int := bitsOf b.1 32 ++ (bitsOf b.2.1 16 ++ (bitsOf (b.2.2.length : Int) 16 ++ (encMs b.2.2 ++ zeros (padB b.2.2.length))))
def encBs (bs : List Bl) : List Int := bs.flatMap encBl
def sizeB (b : Bl) : Nat := 8 + (b.2.2.length + 1) / 2 * 4
def sizeBs (bs : List Bl) : Nat := (bs.map sizeB).sum
def sizeC (r : Rep) : Nat := 8 + sizeBs r.2.1
def encC (r : Rep) : List Int := bitsOf r.1 32 ++ (encBs r.2.1 ++ bitsOf r.2.2 32)
/-- What Encode tells. -/
def encR (r : Rep) : ByteArray × Int := if goodC r = true then (if 65536 < sizeC r then (⟨#[]⟩, 2) else (txt (encC r), 0)) else (⟨#[]⟩, 1)
theorem encM_len (m : M3) : (encM m).length = 16 := by simp [encM, bitsOf_length]
theorem encMs_len (ms : List M3) : (encMs ms).length = 16 * ms.length := by
  induction ms with
  | nil => rfl
  | cons m ms ih =>
    show (encM m ++ encMs ms).length = _
    rw [List.length_append, ih, encM_len, List.length_cons]
    omega
theorem encBl_len (b : Bl) : (encBl b).length = 8 * sizeB b := by
  unfold encBl sizeB zeros padB
  simp only [List.length_append, bitsOf_length, encMs_len, List.length_replicate]
  split <;> omega
theorem sizeBs_cons (b : Bl) (bs : List Bl) : sizeBs (b :: bs) = sizeB b + sizeBs bs := by simp [sizeBs]
theorem encBs_len (bs : List Bl) : (encBs bs).length = 8 * sizeBs bs := by
  induction bs with
  | nil => rfl
  | cons b bs ih =>
    show (encBl b ++ encBs bs).length = _
    rw [List.length_append, ih, encBl_len, sizeBs_cons]
    omega
theorem encC_len (r : Rep) : (encC r).length = 8 * sizeC r := by
  unfold encC sizeC
  simp only [List.length_append, bitsOf_length, encBs_len]
  omega
theorem sizeBs_append (a b : List Bl) : sizeBs (a ++ b) = sizeBs a + sizeBs b := by simp [sizeBs]
theorem sizeBs_take {bs : List Bl} {i : Nat} {x : Bl} (h : bs[i]? = some x) : sizeBs (bs.take (i + 1)) = sizeBs (bs.take i) + sizeB x := by
  obtain ⟨hi, rfl⟩ := List.getElem?_eq_some_iff.1 h
  rw [List.take_succ_eq_append_getElem hi, sizeBs_append]
  simp [sizeBs]
theorem sizeBs_le (bs : List Bl) (j : Nat) : sizeBs (bs.take j) ≤ sizeBs bs := by
  have h := sizeBs_append (bs.take j) (bs.drop j)
  rw [List.take_append_drop] at h
  omega
theorem encBs_append (a b : List Bl) : encBs (a ++ b) = encBs a ++ encBs b := by simp [encBs]
theorem encMs_append (a b : List M3) : encMs (a ++ b) = encMs a ++ encMs b := by simp [encMs]
theorem encBs_take {bs : List Bl} {i : Nat} {x : Bl} (h : bs[i]? = some x) : encBs (bs.take (i + 1)) = encBs (bs.take i) ++ encBl x := by
  obtain ⟨hi, rfl⟩ := List.getElem?_eq_some_iff.1 h
  rw [List.take_succ_eq_append_getElem hi, encBs_append]
  simp [encBs]
theorem encMs_take {ms : List M3} {i : Nat} {x : M3} (h : ms[i]? = some x) : encMs (ms.take (i + 1)) = encMs (ms.take i) ++ encM x := by
  obtain ⟨hi, rfl⟩ := List.getElem?_eq_some_iff.1 h
  rw [List.take_succ_eq_append_getElem hi, encMs_append]
  simp [encMs]
theorem encR_bad {r : Rep} (h : goodC r = false) : encR r = (⟨#[]⟩, 1) := by unfold encR; rw [h]; rfl
theorem encR_long {r : Rep} (h : goodC r = true) (h2 : 65536 < sizeC r) : encR r = (⟨#[]⟩, 2) := by unfold encR; rw [if_pos h, if_pos h2]
theorem encR_good {r : Rep} (h : goodC r = true) (h2 : ¬ 65536 < sizeC r) : encR r = (txt (encC r), 0) := by unfold encR; rw [if_pos h, if_neg h2]
/-- What is padded behind a block. -/
theorem pad_blk {P : List Int} {m : Nat} (hP : P.length % 32 = 0) (L : List Int) (hL : L.length = P.length + 64 + 16 * m) : pad L.length 32 = padB m := by
  unfold pad padB
  rw [hL]
  split <;> omega
theorem goodC_yes {r : Rep} (h : goodC r = true) : r.2.1.length ≤ 16 ∧ ∀ b ∈ r.2.1, 0 ≤ b.2.1 ∧ b.2.1 ≤ 65535 ∧ b.2.2.length ≤ 4096 ∧ ∀ m ∈ b.2.2, goodM m = true := by
  unfold goodC at h
  simp only [Bool.and_eq_true, decide_eq_true_eq, List.all_eq_true] at h
  refine ⟨h.1, fun b hb => ?_⟩
  have h1 := h.2 b hb
  unfold goodB at h1
  simp only [Bool.and_eq_true, decide_eq_true_eq, List.all_eq_true] at h1
  exact ⟨h1.1.1.1, h1.1.1.2, h1.1.2, h1.2⟩
end Go.Proofs.Ytmkaflfhmpddbaa.Ccfb
