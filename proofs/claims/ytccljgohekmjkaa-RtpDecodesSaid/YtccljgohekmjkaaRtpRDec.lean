/- The document's decoder of a header: bytes and bits; no condition but the ranges in each. -/
import Derived.Test.YtccljgohekmjkaaRtpBack4
namespace Go.Proofs.Ytccljgohekmjkaa.Rtp
open Go.RowKit Go.Proofs.Ytccljgohekmjkaa.Plain Go.Proofs.Ytccljgohekmjkaa.Heap Go.Proofs.Ytccljgohekmjkaa.Open Go.Proofs.Ytccljgohekmjkaa.Rows Go.Proofs.Ytccljgohekmjkaa.Bits
theorem val_cat (s : ByteArray) (a n : Nat) : ∀ m, val s a (n + m) = val s a n * 2 ^ m + val s (a + n) m
  | 0 => by simp [val]
  | m + 1 => by
    have h1 : val s a (n + (m + 1)) = val s a (n + m) * 2 + bt s (a + (n + m)) := rfl
    have h2 : val s (a + n) (m + 1) = val s (a + n) m * 2 + bt s (a + n + m) := rfl
    rw [h1, h2, val_cat s a n m, Int.pow_succ, Int.add_mul, Int.mul_assoc, show a + (n + m) = a + n + m by omega]
    omega
/-- The halves of a byte, two bytes. -/
theorem by_half (s : ByteArray) (p : Nat) : ((by8 s p : Nat) : Int) = xId s p * 16 + val s (8 * p + 4) 4 := by
  rw [← val_byte]
  exact val_cat s (8 * p) 4 4
theorem by_two (s : ByteArray) (p : Nat) : val s (8 * p) 16 = ((by8 s p : Nat) : Int) * 256 + ((by8 s (p + 1) : Nat) : Int) := by
  rw [← val_byte, ← val_byte, show 8 * (p + 1) = 8 * p + 8 by omega]
  exact val_cat s (8 * p) 8 8
theorem by_first (s : ByteArray) : ((by8 s 0 : Nat) : Int) = val s 0 3 * 32 + val s 3 1 * 16 + val s 4 4 := by
  have h1 := val_byte s 0
  have h2 := val_cat s 0 3 5
  have h3 := val_cat s 3 1 4
  have h4 : val s (8 * 0) 8 = val s 0 8 := rfl
  rw [h4] at h1
  have e1 : val s 0 (3 + 5) = val s 0 8 := rfl
  have e2 : val s (0 + 3) 5 = val s 3 5 := rfl
  have e3 : val s 3 (1 + 4) = val s 3 5 := rfl
  have e4 : val s (3 + 1) 4 = val s 4 4 := rfl
  rw [e1, e2] at h2
  rw [e3, e4] at h3
  omega
theorem id_of (s : ByteArray) (p : Nat) : xId s p = ((by8 s p / 16 : Nat) : Int) := by
  have h := by_half s p
  have h1 := bd4 s (8 * p + 4)
  have h2 := xId_bd s p
  omega
theorem n_of (s : ByteArray) (p : Nat) : xN s p = by8 s p % 16 + 1 := by
  have h := by_half s p
  have h1 := bd4 s (8 * p + 4)
  have h2 := xId_bd s p
  unfold xN
  omega
end Go.Proofs.Ytccljgohekmjkaa.Rtp
