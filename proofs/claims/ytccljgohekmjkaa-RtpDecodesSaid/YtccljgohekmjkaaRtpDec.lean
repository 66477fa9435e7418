/- What Decode tells of a text: plain; no condition but the ranges in each. -/
import Derived.Test.YtccljgohekmjkaaRtpEnc
namespace Go.Proofs.Ytccljgohekmjkaa.Rtp
open Go.RowKit Go.Proofs.Ytccljgohekmjkaa.Plain Go.Proofs.Ytccljgohekmjkaa.Heap Go.Proofs.Ytccljgohekmjkaa.Open Go.Proofs.Ytccljgohekmjkaa.Rows Go.Proofs.Ytccljgohekmjkaa.Bits

def zeroH : Hd := (false, 0, 0, 0, 0, [], [])
def xId (s : ByteArray) (p : Nat) : Int := val s (8 * p) 4
def xN (s : ByteArray) (p : Nat) : Nat := (val s (8 * p + 4) 4).toNat + 1
def sub (s : ByteArray) (p n : Nat) : ByteArray := s.extract p (p + n)
/-- The extensions from a byte on, so many bytes at most, behind those that are there. -/
def decX (s : ByteArray) : Nat → Nat → Nat → List X2 → Except Int (List X2 × Nat)
  | 0, _, _, _ => .error 71
  | f + 1, p, left, l =>
    if left = 0 then .ok (l, p)
    else if s.size ≤ p then .error 60
    else if xId s p = 0 ∧ xN s p = 1 then decX s f (p + 1) (left - 1) l
    else if xId s p = 0 ∨ xId s p = 15 ∨ hasId l (xId s p) = true ∨ left - 1 < xN s p then .error 71
    else if s.size < p + 1 + xN s p then .error 60
    else decX s f (p + 1 + xN s p) (left - 1 - xN s p) (l ++ [(xId s p, sub s (p + 1) (xN s p))])
def srcN (s : ByteArray) : Nat := (val s 4 4).toNat
def decS (s : ByteArray) (n : Nat) : List Int := (List.range n).map fun i => val s (96 + 32 * i) 32
def extN (s : ByteArray) (p : Nat) : Nat := 4 * (val s (8 * p + 16) 16).toNat
def hd0 (s : ByteArray) (xs : List X2) : Hd := (decide (val s 8 1 = 1), val s 9 7, val s 16 16, val s 32 32, val s 64 32, decS s (srcN s), xs)
/-- The extensions that begin at a byte. -/
def decE (s : ByteArray) (p : Nat) : Except Int (List X2 × Nat) :=
  if s.size < p + 2 then .error 60
  else if val s (8 * p) 16 ≠ 48862 then .error 71
  else if s.size < p + 4 then .error 60
  else decX s (extN s p + 1) (p + 4) (extN s p) []
def decOut (s : ByteArray) : Except Int (List X2 × Nat) → Hd × Nat × Int
  | .error c => (zeroH, 0, c)
  | .ok x => (hd0 s x.1, x.2, 0)
/-- What Decode tells: the header, its size, the error. -/
def decH (s : ByteArray) : Hd × Nat × Int :=
  if s.size < 1 then (zeroH, 0, 60)
  else if val s 0 3 ≠ 4 then (zeroH, 0, 70)
  else if s.size < 12 + 4 * srcN s then (zeroH, 0, 60)
  else if val s 3 1 = 1 then decOut s (decE s (12 + 4 * srcN s)) else (hd0 s [], 12 + 4 * srcN s, 0)
theorem decX_end {s : ByteArray} {f p : Nat} {l : List X2} : decX s (f + 1) p 0 l = .ok (l, p) := by simp [decX]
theorem decX_short {s : ByteArray} {f p left : Nat} {l : List X2} (h : ¬ left = 0) (h1 : s.size ≤ p) : decX s (f + 1) p left l = .error 60 := by
  rw [decX, if_neg h, if_pos h1]
theorem decX_pad {s : ByteArray} {f p left : Nat} {l : List X2} (h : ¬ left = 0) (h1 : ¬ s.size ≤ p) (h2 : xId s p = 0 ∧ xN s p = 1) : decX s (f + 1) p left l = decX s f (p + 1) (left - 1) l := by
  rw [decX, if_neg h, if_neg h1, if_pos h2]
theorem decX_bad {s : ByteArray} {f p left : Nat} {l : List X2} (h : ¬ left = 0) (h1 : ¬ s.size ≤ p) (h2 : ¬ (xId s p = 0 ∧ xN s p = 1)) (h3 : xId s p = 0 ∨ xId s p = 15 ∨ hasId l (xId s p) = true ∨ left - 1 < xN s p) :
    decX s (f + 1) p left l = .error 71 := by
  rw [decX, if_neg h, if_neg h1, if_neg h2, if_pos h3]
theorem decX_lack {s : ByteArray} {f p left : Nat} {l : List X2} (h : ¬ left = 0) (h1 : ¬ s.size ≤ p) (h2 : ¬ (xId s p = 0 ∧ xN s p = 1)) (h3 : ¬ (xId s p = 0 ∨ xId s p = 15 ∨ hasId l (xId s p) = true ∨ left - 1 < xN s p)) (h4 : s.size < p + 1 + xN s p) :
    decX s (f + 1) p left l = .error 60 := by
  rw [decX, if_neg h, if_neg h1, if_neg h2, if_neg h3, if_pos h4]
theorem decX_next {s : ByteArray} {f p left : Nat} {l : List X2} (h : ¬ left = 0) (h1 : ¬ s.size ≤ p) (h2 : ¬ (xId s p = 0 ∧ xN s p = 1)) (h3 : ¬ (xId s p = 0 ∨ xId s p = 15 ∨ hasId l (xId s p) = true ∨ left - 1 < xN s p)) (h4 : ¬ s.size < p + 1 + xN s p) :
    decX s (f + 1) p left l = decX s f (p + 1 + xN s p) (left - 1 - xN s p) (l ++ [(xId s p, sub s (p + 1) (xN s p))]) := by
  rw [decX, if_neg h, if_neg h1, if_neg h2, if_neg h3, if_neg h4]
theorem bd4 (s : ByteArray) (a : Nat) : 0 ≤ val s a 4 ∧ val s a 4 < 16 := val_bd s a 4
theorem xId_bd (s : ByteArray) (p : Nat) : 0 ≤ xId s p ∧ xId s p < 16 := bd4 s _
theorem xN_bd (s : ByteArray) (p : Nat) : 1 ≤ xN s p ∧ xN s p ≤ 16 := by have := bd4 s (8 * p + 4); unfold xN; omega
theorem sub_size {s : ByteArray} {p n : Nat} (h : p + n ≤ s.size) : (sub s p n).size = n := by unfold sub; rw [ByteArray.size_extract]; omega
/-- A text of bytes that are those of another. -/
theorem sub_of {s : ByteArray} {p n : Nat} (h : p + n ≤ s.size) {l : List UInt8} (hl : l.length = n) (hb : ∀ i, i < n → (l.getD i 0).toNat = by8 s (p + i)) : (⟨l.toArray⟩ : ByteArray) = sub s p n := by
  apply ByteArray.ext
  apply Array.ext
  · show l.toArray.size = (sub s p n).data.size
    rw [show (sub s p n).data.size = n from sub_size h]
    simpa using hl
  · intro i h1 h2
    have hi : i < n := by have : l.toArray.size = n := by simpa using hl
                          show i < n; rw [← this]; exact h1
    have h3 := hb i hi
    rw [List.getD_eq_getElem?_getD, List.getElem?_eq_getElem (by omega)] at h3
    have h4 : by8 s (p + i) = (s.data[p + i]'(by show p + i < s.size; omega)).toNat := by
      unfold by8
      rw [List.getD_eq_getElem?_getD, List.getElem?_eq_getElem (by rw [Array.length_toList]; show p + i < s.size; omega)]
      rfl
    rw [h4] at h3
    have h5 : l[i]'(by omega) = s.data[p + i]'(by show p + i < s.size; omega) := UInt8.toNat_inj.1 (by simpa using h3)
    simp only [sub, ByteArray.data_extract, Array.getElem_extract]
    simpa using h5
end Go.Proofs.Ytccljgohekmjkaa.Rtp
