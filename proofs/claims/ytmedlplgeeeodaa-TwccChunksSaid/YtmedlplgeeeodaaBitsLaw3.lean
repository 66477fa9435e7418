/- The law BitsFull; no condition but that the arguments are of their kinds. -/
import Derived.Test.YtmedlplgeeeodaaBitsLaw1
namespace Go.Proofs.Ytmedlplgeeeodaa.Bits
open Go.RowKit Go.Proofs.Ytmedlplgeeeodaa.Plain Go.Proofs.Ytmedlplgeeeodaa.Heap Go.Proofs.Ytmedlplgeeeodaa.Open

theorem txt_size (L : List Int) : (txt L).size = (L.length + 7) / 8 := by
  rw [← pk_length L]
  simp [txt, strOfNums, ByteArray.size]
theorem align_wb (B : Nat) (w0 w : World) (L : List Int) (n : Int) (p : Nat) (h : WB 70 B w0 w p L) (hL : L.length ≤ 524288) :
    Calls Try.prog 21 #[.pointer (some ⟨p, 0, none⟩), .int .i64 n] w fun e w' => e = .returned (.tuple #[]) ∧ WB 70 B w0 w' p (aligns L n) := by
  obtain ⟨hp, hB, h0, g, hg, hw⟩ := h
  exact (align_any L n p g w hw hL).mono fun e w' ⟨h1, g', h2, h3⟩ => ⟨h1, WB.fr hp hB h0 hg h2 h3⟩
theorem WB.done {t : TypeId} {B : Nat} {w0 w w' : World} {p : Nat} {L : List Int} (h : WB t B w0 w p L) (hb : Below w.heap.size w w') : Below B w0 w' := below_then h.2.2.1 h.2.1 hb
theorem puts_len {L : List Int} {v : Int} {n : Nat} (hn : n ≤ 32) (hl : L.length + n ≤ 524288) : puts L v n = L ++ bitsOf v n := by
  unfold puts
  rw [if_neg (by omega), Int.toNat_natCast]
theorem puts_over {L : List Int} {v n : Int} (hl : 524288 < (L.length : Int) + n) : puts L v n = L := by
  unfold puts
  rw [if_pos (by omega)]
theorem puts_zero (L : List Int) (v : Int) : puts L v 0 = L := by
  unfold puts
  split
  · rfl
  · simp [bitsOf]
theorem aligns_full {L : List Int} (h : L.length = 524288) : aligns L 64 = L := by
  unfold aligns
  rw [h]
  rw [if_neg (by decide)]
  simp [pad]
/-- A writer that holds so many bits. -/
def WL (t : TypeId) (B : Nat) (w0 w : World) (p n : Nat) : Prop := ∃ L, L.length = n ∧ WB t B w0 w p L
end Go.Proofs.Ytmedlplgeeeodaa.Bits
