/- What agrees with an encoded header is decoded to it, or is short: plain; no condition but the ranges in each. -/
import Derived.Test.YtccljgohekmjkaaRtpDec
import Derived.Test.YtccljgohekmjkaaRtpDec2
namespace Go.Proofs.Ytccljgohekmjkaa.Rtp
open Go.RowKit Go.Proofs.Ytccljgohekmjkaa.Plain Go.Proofs.Ytccljgohekmjkaa.Heap Go.Proofs.Ytccljgohekmjkaa.Open Go.Proofs.Ytccljgohekmjkaa.Rows Go.Proofs.Ytccljgohekmjkaa.Bits

theorem encXs_bits (l : List X2) : IsBits (encXs l) := isBits_flat fun x _ => isBits_append (isBits_append (bitsOf_bits _ _) (bitsOf_bits _ _)) (fun b hb => by
  unfold bitsS at hb
  obtain ⟨j, _, rfl⟩ := List.mem_map.1 hb
  exact bt_01 _ _)
theorem encS_bits (l : List Int) : IsBits (encS l) := isBits_flat fun _ _ => bitsOf_bits _ _
theorem headB_bits (h : Hd) : IsBits (headB h) := by
  unfold headB
  exact isBits_append (isBits_append (isBits_append (isBits_append (isBits_append (isBits_append (isBits_append (isBits_append (bitsOf_bits _ _) (bitsOf_bits _ _)) (bitsOf_bits _ _)) (bitsOf_bits _ _)) (bitsOf_bits _ _)) (bitsOf_bits _ _)) (bitsOf_bits _ _)) (bitsOf_bits _ _)) (bitsOf_bits _ _)
theorem encB_bits (h : Hd) : IsBits (encB h) := by
  unfold encB
  refine isBits_append (isBits_append (headB_bits h) (encS_bits _)) ?_
  split
  · exact isBits_nil
  · exact isBits_append (bitsOf_bits _ _) (isBits_append (bitsOf_bits _ _) (isBits_append (encXs_bits _) (isBits_zeros _)))
/-- Bits that agree. -/
def Ag (S T : ByteArray) (K : Nat) : Prop := ∀ a, a < 8 * K → bt S a = bt T a
theorem ag_val {S T : ByteArray} {K : Nat} (h : Ag S T K) : ∀ (n a : Nat), a + n ≤ 8 * K → val S a n = val T a n
  | 0, _, _ => rfl
  | n + 1, a, hn => by
    simp only [Bits.val]
    rw [ag_val h n a (by omega), h (a + n) (by omega)]
theorem ag_sub {S T : ByteArray} {K p n : Nat} (h : Ag S T K) (hS : K ≤ S.size) (hT : K ≤ T.size) (hn : p + n ≤ K) : sub S p n = sub T p n := by
  have hl : (sub T p n).data.toList.length = n := by rw [Array.length_toList, show (sub T p n).data.size = n from sub_size (by omega)]
  have := sub_of (s := S) (p := p) (n := n) (by omega) (l := (sub T p n).data.toList) hl (fun i hi => by
    have h1 := sub_byte (s := T) (q := p) (n := n) (j := i) (by omega) (by rw [hl]; exact hi)
    rw [← ag_val h 8 (8 * (p + i)) (by omega), val_byte] at h1
    rw [List.getD_eq_getElem?_getD, List.getElem?_eq_getElem (by rw [hl]; exact hi)]
    exact_mod_cast h1)
  rw [← this]
/-- Where the i-th extension begins; what is left there. -/
def pX (h : Hd) (i : Nat) : Nat := 16 + 4 * h.src.length + extLen (h.xs.take i)
def lX (h : Hd) (i : Nat) : Nat := 4 * extW h.xs - extLen (h.xs.take i)
theorem extLen_le (l : List X2) (i : Nat) : extLen (l.take i) ≤ extLen l := by
  have e := extLen_append (l.take i) (l.drop i)
  rw [List.take_append_drop] at e
  omega
theorem extLen_w (l : List X2) : extLen l ≤ 4 * extW l := by unfold extW; omega
theorem split_at {l : List X2} {i : Nat} {x : X2} (h : l[i]? = some x) : encXs l = encXs (l.take i) ++ (encX x ++ encXs (l.drop (i + 1))) := by
  obtain ⟨hl, rfl⟩ := List.getElem?_eq_some_iff.1 h
  have e : l = l.take i ++ (l[i] :: l.drop (i + 1)) := by rw [← List.drop_eq_getElem_cons hl, List.take_append_drop]
  have e2 : ∀ a b, encXs (a ++ b) = encXs a ++ encXs b := fun a b => by simp [encXs]
  conv => lhs; rw [e, e2]
  rfl
theorem ext_vals {h : Hd} (hg : ∀ x ∈ h.xs, goodX x = true) {i : Nat} {x : X2} (hx : h.xs[i]? = some x) :
    val (txt (encB h)) (8 * pX h i) 4 = x.1 ∧ val (txt (encB h)) (8 * pX h i + 4) 4 = (x.2.size : Int) - 1 ∧ ∀ j, j < x.2.size → val (txt (encB h)) (8 * (pX h i + 1 + j)) 8 = ((by8 x.2 j : Nat) : Int) := by
  have hil := (List.getElem?_eq_some_iff.1 hx).1
  have hgx := goodX_yes (hg x (List.mem_of_getElem? hx))
  have hb := encB_bits h
  obtain ⟨P, hP⟩ : ∃ P, P = headB h ++ encS h.src ++ bitsOf 48862 16 ++ bitsOf (extW h.xs : Int) 16 ++ encXs (h.xs.take i) := ⟨_, rfl⟩
  have hPl : P.length = 8 * pX h i := by
    rw [hP]
    simp only [List.length_append, headB_len, encS_len, bitsOf_length, encXs_len]
    unfold pX
    omega
  obtain ⟨R, hR⟩ : ∃ R, R = encXs (h.xs.drop (i + 1)) ++ List.replicate (padX h.xs) 0 := ⟨_, rfl⟩
  have e : encB h = P ++ (encX x ++ R) := by
    unfold encB
    rw [if_neg (by omega), hP, hR]
    unfold extB
    rw [split_at hx]
    simp only [List.append_assoc]
  refine ⟨?_, ?_, fun j hj => ?_⟩
  · rw [← hPl]
    refine val_put hb (R := bitsOf ((x.2.size : Int) - 1) 4 ++ (bitsS x.2 0 (8 * x.2.size) ++ R)) ?_ (by omega) (by omega)
    rw [e]; unfold encX; simp only [List.append_assoc]
  · rw [← hPl]
    have := val_put hb (P := P ++ bitsOf x.1 4) (v := (x.2.size : Int) - 1) (n := 4) (R := bitsS x.2 0 (8 * x.2.size) ++ R) (by rw [e]; unfold encX; simp only [List.append_assoc]) (by omega) (by omega)
    rwa [List.length_append, bitsOf_length] at this
  · have hsp : bitsS x.2 0 (8 * x.2.size) = bitsS x.2 0 (8 * j) ++ (bitsOf ((by8 x.2 j : Nat) : Int) 8 ++ bitsS x.2 (8 * (j + 1)) (8 * (x.2.size - (j + 1)))) := by
      rw [← List.append_assoc, ← bytes_take, show 8 * x.2.size = 8 * (j + 1) + 8 * (x.2.size - (j + 1)) by omega, bitsS_add, Nat.zero_add]
    have hlt := by8_lt x.2 j
    have := val_put hb (P := P ++ bitsOf x.1 4 ++ bitsOf ((x.2.size : Int) - 1) 4 ++ bitsS x.2 0 (8 * j)) (v := ((by8 x.2 j : Nat) : Int)) (n := 8) (R := bitsS x.2 (8 * (j + 1)) (8 * (x.2.size - (j + 1))) ++ R) (by rw [e]; unfold encX; rw [hsp]; simp only [List.append_assoc]) (by omega) (by omega)
    rw [List.length_append, List.length_append, List.length_append, bitsOf_length, bitsOf_length, bitsS_len, hPl] at this
    rwa [show 8 * (pX h i + 1 + j) = 8 * pX h i + 4 + 4 + 8 * j by omega]
end Go.Proofs.Ytccljgohekmjkaa.Rtp
