/- The bytes of a header: plain; no condition but the ranges in each. -/
import Derived.Test.YtccljgohekmjkaaRtpGood
namespace Go.Proofs.Ytccljgohekmjkaa.Rtp
open Go.RowKit Go.Proofs.Ytccljgohekmjkaa.Plain Go.Proofs.Ytccljgohekmjkaa.Heap Go.Proofs.Ytccljgohekmjkaa.Open Go.Proofs.Ytccljgohekmjkaa.Rows Go.Proofs.Ytccljgohekmjkaa.Bits

def b01 (b : Bool) : Int := if b = true then 1 else 0
theorem b01_lo (b : Bool) : 0 ≤ b01 b := by cases b <;> decide
theorem b01_hi (b : Bool) : b01 b < 4294967296 := by cases b <;> decide
theorem b01_two (b : Bool) : b01 b < 2 ^ 1 := by cases b <;> decide
def encS (l : List Int) : List Int := l.flatMap fun x => bitsOf x 32
def encX (x : X2) : List Int := bitsOf x.1 4 ++ bitsOf ((x.2.size : Int) - 1) 4 ++ bitsS x.2 0 (8 * x.2.size)
def encXs (l : List X2) : List Int := l.flatMap encX
def extLen (l : List X2) : Nat := (l.map fun x => 1 + x.2.size).sum
def extW (l : List X2) : Nat := (extLen l + 3) / 4
def padX (l : List X2) : Nat := 8 * (4 * extW l - extLen l)
def headB (h : Hd) : List Int := bitsOf 2 2 ++ bitsOf 0 1 ++ bitsOf (b01 (decide (0 < h.xs.length))) 1 ++ bitsOf (h.src.length : Int) 4 ++ bitsOf (b01 h.m) 1 ++ bitsOf h.ty 7 ++ bitsOf h.sq 16 ++ bitsOf h.tm 32 ++ bitsOf h.ss 32
def extB (l : List X2) : List Int := bitsOf 48862 16 ++ (bitsOf (extW l : Int) 16 ++ (encXs l ++ List.replicate (padX l) 0))
def encB (h : Hd) : List Int := headB h ++ encS h.src ++ (if h.xs.length = 0 then [] else extB h.xs)
/-- What Encode tells. -/
def encR (h : Hd) : ByteArray × Int := if goodH h = true then (txt (encB h), 0) else (⟨#[]⟩, 1)
theorem encR_good {h : Hd} (k : goodH h = true) : encR h = (txt (encB h), 0) := by unfold encR; rw [if_pos k]
theorem encR_bad {h : Hd} (k : goodH h = false) : encR h = (⟨#[]⟩, 1) := by unfold encR; rw [k]; rfl
theorem headB_len (h : Hd) : (headB h).length = 96 := by simp only [headB, List.length_append, bitsOf_length]
theorem encS_len (l : List Int) : (encS l).length = 32 * l.length := by
  induction l with
  | nil => rfl
  | cons x l ih =>
    have e : encS (x :: l) = bitsOf x 32 ++ encS l := rfl
    rw [e, List.length_append, bitsOf_length, ih, List.length_cons]
    omega
theorem encS_take {l : List Int} {i : Nat} {x : Int} (h : l[i]? = some x) : encS (l.take (i + 1)) = encS (l.take i) ++ bitsOf x 32 := by
  obtain ⟨hl, rfl⟩ := List.getElem?_eq_some_iff.1 h
  rw [List.take_succ_eq_append_getElem hl, show ∀ a b, encS (a ++ b) = encS a ++ encS b from fun a b => by simp [encS]]
  simp [encS]
theorem encX_len (x : X2) : (encX x).length = 8 * (1 + x.2.size) := by simp only [encX, List.length_append, bitsOf_length, bitsS_len]; omega
theorem extLen_cons (x : X2) (l : List X2) : extLen (x :: l) = 1 + x.2.size + extLen l := by simp [extLen]
theorem extLen_append (l m : List X2) : extLen (l ++ m) = extLen l + extLen m := by simp [extLen]
theorem encXs_len (l : List X2) : (encXs l).length = 8 * extLen l := by
  induction l with
  | nil => rfl
  | cons x l ih =>
    have e : encXs (x :: l) = encX x ++ encXs l := rfl
    rw [e, List.length_append, encX_len, ih, extLen_cons]
    omega
theorem encXs_take {l : List X2} {i : Nat} {x : X2} (h : l[i]? = some x) : encXs (l.take (i + 1)) = encXs (l.take i) ++ encX x := by
  obtain ⟨hl, rfl⟩ := List.getElem?_eq_some_iff.1 h
  rw [List.take_succ_eq_append_getElem hl, show ∀ a b, encXs (a ++ b) = encXs a ++ encXs b from fun a b => by simp [encXs]]
  simp [encXs]
theorem extLen_take {l : List X2} {i : Nat} {x : X2} (h : l[i]? = some x) : extLen (l.take (i + 1)) = extLen (l.take i) + (1 + x.2.size) := by
  obtain ⟨hl, rfl⟩ := List.getElem?_eq_some_iff.1 h
  rw [List.take_succ_eq_append_getElem hl, extLen_append]
  simp [extLen]
theorem extB_len (l : List X2) : (extB l).length = 32 + 32 * extW l := by
  simp only [extB, List.length_append, bitsOf_length, encXs_len, List.length_replicate]
  unfold padX extW
  omega
theorem pad_x {L : List Int} (l : List X2) (n : Nat) (h : L.length = 128 + 32 * n + 8 * extLen l) : pad L.length 32 = padX l := by
  rw [h]
  unfold pad padX extW
  omega
/-- The size in bytes. -/
def sizeH (h : Hd) : Nat := 12 + 4 * h.src.length + (if h.xs.length = 0 then 0 else 4 + 4 * extW h.xs)
theorem encB_len (h : Hd) : (encB h).length = 8 * sizeH h := by
  unfold encB sizeH
  rw [List.length_append, List.length_append, headB_len, encS_len]
  split
  · simp; omega
  · rw [extB_len]; omega
/-- A byte as bits. -/
def by8 (s : ByteArray) (i : Nat) : Nat := (s.data.toList.getD i 0).toNat
theorem by8_lt (s : ByteArray) (i : Nat) : by8 s i < 256 := (s.data.toList.getD i 0).toNat_lt
theorem val_byte (s : ByteArray) (i : Nat) : val s (8 * i) 8 = ((by8 s i : Nat) : Int) := by
  have hb := by8_lt s i
  have e : ∀ j, j < 8 → bt s (8 * i + j) = ((by8 s i / 2 ^ (7 - j) % 2 : Nat) : Int) := fun j hj => by
    unfold bt by8
    rw [show (8 * i + j) / 8 = i by omega, show (8 * i + j) % 8 = j by omega]
  generalize by8 s i = b at *
  have e0 := e 0 (by omega)
  have e1 := e 1 (by omega)
  have e2 := e 2 (by omega)
  have e3 := e 3 (by omega)
  have e4 := e 4 (by omega)
  have e5 := e 5 (by omega)
  have e6 := e 6 (by omega)
  have e7 := e 7 (by omega)
  clear e
  simp only [val, Nat.add_zero] at *
  rw [e0, e1, e2, e3, e4, e5, e6, e7]
  simp only [Nat.reducePow, Nat.reduceSub]
  clear e0 e1 e2 e3 e4 e5 e6 e7
  omega
theorem bits_byte (s : ByteArray) (i : Nat) : bitsOf ((by8 s i : Nat) : Int) 8 = bitsS s (8 * i) 8 := by rw [← val_byte, bitsOf_val]
theorem bytes_take (s : ByteArray) (i : Nat) : bitsS s 0 (8 * (i + 1)) = bitsS s 0 (8 * i) ++ bitsOf ((by8 s i : Nat) : Int) 8 := by
  rw [bits_byte, show 8 * (i + 1) = 8 * i + 8 by omega, bitsS_add, Nat.zero_add]
/-- A byte, where the code asks for it. -/
theorem run_byte (s : ByteArray) (i : Nat) (h : i < s.size) (W : World) : (Instr.index 9 (.string s) (.int .i64 (i : Int))).run Try.prog W = .ok (.int .u8 ((by8 s i : Nat) : Int)) W := by
  have hi : 0 ≤ (i : Int) ∧ (i : Int) < (s.size : Int) := ⟨by omega, by omega⟩
  rw [run_index_string W _ s _ _ Try.underlying9, dif_pos hi]
  congr 3
  unfold by8
  rw [List.getD_eq_getElem?_getD, List.getElem?_eq_getElem (by rw [Array.length_toList]; exact h)]
  rfl
theorem rd_at {w : World} {g off n i : Nat} {l : List X2} {x : X2} (h : Rd w 2 (some ⟨g, off, none⟩) n (flatX l)) (hx : l[i]? = some x) :
    w.cell? ⟨g, off + i * 2, none⟩ = some (.int .i64 x.1) ∧ w.cell? ⟨g, off + i * 2 + 1, none⟩ = some (.string x.2) := by
  have hi := (List.getElem?_eq_some_iff.1 hx).1
  have hl : l.length = n := by have := h.1; rw [flatX_len] at this; omega
  obtain ⟨g', off', e, hg, hc⟩ := h.2 (by omega)
  injection e with e
  injection e with e1 e2
  subst e1 e2
  obtain ⟨f0, f1⟩ := flatX_at l i x hx
  exact ⟨hc _ _ f0, hc _ _ f1⟩
end Go.Proofs.Ytccljgohekmjkaa.Rtp
