/- The program's reader, told by how far it was asked to read, whether that is there or not; no condition but the ranges in each. -/
import Derived.Test.YtccljgohekmjkaaBitsY
import Derived.Test.YtccljgohekmjkaaRtpEnc
namespace Go.Proofs.Ytccljgohekmjkaa.Rtp
open Go.RowKit Go.Proofs.Ytccljgohekmjkaa.Plain Go.Proofs.Ytccljgohekmjkaa.Heap Go.Proofs.Ytccljgohekmjkaa.Open Go.Proofs.Ytccljgohekmjkaa.Rows Go.Proofs.Ytccljgohekmjkaa.Bits

def vx (s : ByteArray) (r n : Nat) : Int := if r + n ≤ 8 * s.size then val s r n else 0
theorem vx_fit {s : ByteArray} {r n : Nat} (h : r + n ≤ 8 * s.size) : vx s r n = val s r n := if_pos h
theorem vx_bd (s : ByteArray) (r n : Nat) : 0 ≤ vx s r n ∧ vx s r n < (2 : Int) ^ n := by
  unfold vx
  split
  · exact val_bd s r n
  · exact ⟨Int.le_refl _, Int.pow_pos (by omega)⟩
def ST (w : World) (p : Nat) (s : ByteArray) (r : Nat) : Prop :=
  (r ≤ 8 * s.size ∧ RR 73 w p s r false) ∨ (8 * s.size < r ∧ ∃ a, a ≤ 8 * s.size ∧ RR 73 w p s a true)
theorem ST.kept {S : Nat → Prop} {w w' : World} {p : Nat} {s : ByteArray} {r : Nat} (h : ST w p s r) (hk : Kept S w w') (hS : ¬ S p) : ST w' p s r := by
  rcases h with ⟨h1, h2⟩ | ⟨h1, a, h2, h3⟩
  · exact .inl ⟨h1, h2.kept hk hS⟩
  · exact .inr ⟨h1, a, h2, h3.kept hk hS⟩
theorem ST.lt {w : World} {p : Nat} {s : ByteArray} {r : Nat} (h : ST w p s r) : p < w.heap.size := by
  rcases h with ⟨h1, h2⟩ | ⟨h1, a, h2, h3⟩
  · exact (Array.getElem?_eq_some_iff.1 h2).1
  · exact (Array.getElem?_eq_some_iff.1 h3).1
/-- Bits, that may be there or not. -/
theorem get_st (n : Nat) (N : Int) (hN : N = (n : Int)) {s : ByteArray} {r p : Nat} {w : World} (hw : ST w p s r) (hn : n ≤ 32) (hs : s.size ≤ 1099511627776) :
    Calls Try.prog 30 #[.pointer (some ⟨p, 0, none⟩), .int .i64 N] w fun e w' => e = .returned (.int .u32 (vx s r n)) ∧ ST w' p s (r + n) ∧ Kept (fun k => k = p) w w' := by
  subst hN
  rcases hw with ⟨h1, h2⟩ | ⟨h1, a, h2, h3⟩
  · by_cases hf : r + n ≤ 8 * s.size
    · rw [vx_fit hf]
      exact (get_fit n n rfl h2 hn hf hs).mono fun e w' ⟨a1, a2, a3⟩ => ⟨a1, .inl ⟨hf, a2⟩, a3⟩
    · have h := get_any s r p false (n : Int) w h2 hs h1
      rw [gets_no (.inr (.inr (by omega)))] at h
      rw [show vx s r n = 0 from if_neg hf]
      exact h.mono fun e w' ⟨a1, a2, a3⟩ => ⟨a1, .inr ⟨by omega, r, h1, a2⟩, a3⟩
  · have h := get_any s a p true (n : Int) w h3 hs h2
    rw [gets_bad] at h
    rw [show vx s r n = 0 from if_neg (by omega)]
    exact h.mono fun e w' ⟨a1, a2, a3⟩ => ⟨a1, .inr ⟨by omega, a, h2, a2⟩, a3⟩
theorem bad_st {s : ByteArray} {r p : Nat} {w : World} (hw : ST w p s r) :
    Calls Try.prog 31 #[.pointer (some ⟨p, 0, none⟩)] w fun e w' => e = .returned (.bool (decide (8 * s.size < r))) ∧ ST w' p s r ∧ Kept (fun _ => False) w w' := by
  rcases hw with ⟨h1, h2⟩ | ⟨h1, a, h2, h3⟩
  · rw [decide_eq_false (by omega)]
    exact (bad_any s r p false w h2).mono fun e w' ⟨a1, q, a2⟩ => ⟨a1, .inl ⟨h1, by rw [a2]; exact h2.kept ((Kept.refl (fun _ => False) w).drewN q) id⟩, by rw [a2]; exact (Kept.refl _ w).drewN q⟩
  · rw [decide_eq_true h1]
    exact (bad_any s a p true w h3).mono fun e w' ⟨a1, q, a2⟩ => ⟨a1, .inr ⟨h1, a, h2, by rw [a2]; exact h3.kept ((Kept.refl (fun _ => False) w).drewN q) id⟩, by rw [a2]; exact (Kept.refl _ w).drewN q⟩
theorem left_st {s : ByteArray} {r p : Nat} {w : World} (hw : ST w p s r) (hr : r ≤ 8 * s.size) (hs : s.size ≤ 1099511627776) :
    Calls Try.prog 29 #[.pointer (some ⟨p, 0, none⟩)] w fun e w' => e = .returned (.int .i64 (8 * (s.size : Int) - (r : Int))) ∧ ST w' p s r ∧ Kept (fun _ => False) w w' := by
  rcases hw with ⟨h1, h2⟩ | ⟨h1, _⟩
  · exact (left_fit h2 h1 hs).mono fun e w' ⟨a1, a2, a3⟩ => ⟨a1, .inl ⟨h1, a2⟩, a3⟩
  · omega
theorem ST.new (s : ByteArray) (w : World) : ST (w.alloc (.cells #[.string s, .int .i64 0, .bool false] 73)) w.heap.size s 0 := .inl ⟨Nat.zero_le _, RR.new _ s w⟩
end Go.Proofs.Ytccljgohekmjkaa.Rtp
