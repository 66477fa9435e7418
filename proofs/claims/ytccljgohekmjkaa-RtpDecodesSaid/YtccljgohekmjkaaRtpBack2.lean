/- What agrees with an encoded header is decoded to it, or is short: the extensions and the whole; plain; no condition but the ranges in each. -/
import Derived.Test.YtccljgohekmjkaaRtpBack
namespace Go.Proofs.Ytccljgohekmjkaa.Rtp
open Go.RowKit Go.Proofs.Ytccljgohekmjkaa.Plain Go.Proofs.Ytccljgohekmjkaa.Heap Go.Proofs.Ytccljgohekmjkaa.Open Go.Proofs.Ytccljgohekmjkaa.Rows Go.Proofs.Ytccljgohekmjkaa.Bits
theorem enc_tsize (h : Hd) : (txt (encB h)).size = sizeH h := by
  rw [txt_size, encB_len]
  omega
theorem pad_vals {h : Hd} (hm : ¬ h.xs.length = 0) {j : Nat} (hj : 8 * j + 8 ≤ padX h.xs) :
    val (txt (encB h)) (8 * (pX h h.xs.length + j)) 4 = 0 ∧ val (txt (encB h)) (8 * (pX h h.xs.length + j) + 4) 4 = 0 := by
  have hb := encB_bits h
  obtain ⟨P, hP⟩ : ∃ P, P = headB h ++ encS h.src ++ bitsOf 48862 16 ++ bitsOf (extW h.xs : Int) 16 ++ encXs h.xs ++ List.replicate (8 * j) 0 := ⟨_, rfl⟩
  have hPl : P.length = 8 * (pX h h.xs.length + j) := by
    rw [hP]
    simp only [List.length_append, headB_len, encS_len, bitsOf_length, encXs_len, List.length_replicate]
    unfold pX
    rw [List.take_length]
    omega
  have hz : List.replicate (padX h.xs) (0 : Int) = List.replicate (8 * j) 0 ++ (bitsOf 0 4 ++ (bitsOf 0 4 ++ List.replicate (padX h.xs - (8 * j + 8)) 0)) := by
    rw [bitsOf_zero]
    simp only [List.replicate_append_replicate]
    congr 1
    omega
  have e : encB h = P ++ (bitsOf 0 4 ++ (bitsOf 0 4 ++ List.replicate (padX h.xs - (8 * j + 8)) 0)) := by
    unfold encB
    rw [if_neg hm, hP]
    unfold extB
    rw [hz]
    simp only [List.append_assoc]
  constructor
  · rw [← hPl]
    exact val_put hb e (by decide) (by decide)
  · have := val_put hb (P := P ++ bitsOf 0 4) (v := 0) (n := 4) (R := List.replicate (padX h.xs - (8 * j + 8)) 0) (by rw [e]; simp only [List.append_assoc]) (by decide) (by decide)
    rwa [List.length_append, bitsOf_length, hPl] at this
/-- Where a text agrees with an encoded header: whole and more, or cut off. -/
inductive Way (h : Hd) (S : ByteArray) (K : Nat) : Except Int (List X2 × Nat) → Prop
  | whole (h1 : K = sizeH h) (h2 : K ≤ S.size) : Way h S K (.ok (h.xs, sizeH h))
  | cut (h1 : K = S.size) (h2 : K < sizeH h) : Way h S K (.error 60)
theorem Way.le {h : Hd} {S : ByteArray} {K : Nat} {R : Except Int (List X2 × Nat)} (w : Way h S K R) : K ≤ S.size ∧ K ≤ sizeH h := by
  cases w with
  | whole h1 h2 => omega
  | cut h1 h2 => omega
theorem walk_pads {h : Hd} (hm : ¬ h.xs.length = 0) {S : ByteArray} {K : Nat} {R : Except Int (List X2 × Nat)} (ag : Ag S (txt (encB h)) K) (w : Way h S K R) :
    ∀ (d j f : Nat), 8 * (j + d) = padX h.xs → d < f → pX h h.xs.length + j ≤ K → decX S f (pX h h.xs.length + j) d h.xs = R := by
  have hend : ∀ d j, 8 * (j + d) = padX h.xs → pX h h.xs.length + j + d = sizeH h := by
    intro d j hd
    unfold pX sizeH
    rw [if_neg hm, List.take_length]
    unfold padX at hd
    have := extLen_w h.xs
    omega
  intro d
  induction d with
  | zero =>
    intro j f hd hf hK
    obtain ⟨f, rfl⟩ : ∃ f', f = f' + 1 := ⟨f - 1, by omega⟩
    have he := hend 0 j hd
    rw [decX_end]
    cases w with
    | whole h1 h2 => rw [← he]; rfl
    | cut h1 h2 => omega
  | succ d ih =>
    intro j f hd hf hK
    obtain ⟨f, rfl⟩ : ∃ f', f = f' + 1 := ⟨f - 1, by omega⟩
    have he := hend (d + 1) j hd
    by_cases hs : S.size ≤ pX h h.xs.length + j
    · rw [decX_short (by omega) hs]
      cases w with
      | whole h1 h2 => omega
      | cut h1 h2 => rfl
    · have hlt : pX h h.xs.length + j + 1 ≤ K := by
        cases w with
        | whole h1 h2 => omega
        | cut h1 h2 => omega
      obtain ⟨v1, v2⟩ := pad_vals hm (j := j) (by omega)
      have e1 : xId S (pX h h.xs.length + j) = 0 := by
        unfold xId
        rw [ag_val ag 4 _ (by omega), v1]
      have e2 : xN S (pX h h.xs.length + j) = 1 := by
        unfold xN
        rw [ag_val ag 4 _ (by omega), v2]
        rfl
      rw [decX_pad (by omega) hs ⟨e1, e2⟩]
      exact ih (j + 1) f (by omega) (by omega) (by omega)
theorem pX_succ {h : Hd} {i : Nat} {x : X2} (hx : h.xs[i]? = some x) : pX h (i + 1) = pX h i + 1 + x.2.size := by
  unfold pX
  rw [extLen_take hx]
  omega
theorem lX_succ {h : Hd} {i : Nat} {x : X2} (hx : h.xs[i]? = some x) : lX h i = lX h (i + 1) + 1 + x.2.size := by
  unfold lX
  have h1 := extLen_take hx
  have h2 := extLen_le h.xs (i + 1)
  have h3 := extLen_w h.xs
  omega
theorem pl_end (h : Hd) (hm : ¬ h.xs.length = 0) (i : Nat) : pX h i + lX h i = sizeH h := by
  unfold pX lX sizeH
  rw [if_neg hm]
  have h2 := extLen_le h.xs i
  have h3 := extLen_w h.xs
  omega
theorem walk_exts {h : Hd} (hm : ¬ h.xs.length = 0) (hg : goodTo h.xs h.xs.length = true) {S : ByteArray} {K : Nat} {R : Except Int (List X2 × Nat)} (ag : Ag S (txt (encB h)) K) (w : Way h S K R) :
    ∀ (d i f : Nat), i + d = h.xs.length → lX h i < f → pX h i ≤ K → decX S f (pX h i) (lX h i) (h.xs.take i) = R := by
  have hall : ∀ x ∈ h.xs, goodX x = true := by have := goodTo_all hg; rwa [List.take_length] at this
  have hts := enc_tsize h
  intro d
  induction d with
  | zero =>
    intro i f hd hf hK
    obtain rfl : i = h.xs.length := by omega
    rw [List.take_length]
    have hp : 8 * lX h h.xs.length = padX h.xs := by unfold lX padX; rw [List.take_length]
    exact walk_pads hm ag w (lX h h.xs.length) 0 f (by omega) hf hK
  | succ d ih =>
    intro i f hd hf hK
    obtain ⟨f, rfl⟩ : ∃ f', f = f' + 1 := ⟨f - 1, by omega⟩
    obtain ⟨x, hx⟩ : ∃ x, h.xs[i]? = some x := ⟨_, List.getElem?_eq_getElem (by omega)⟩
    obtain ⟨v1, v2, v3⟩ := ext_vals hall hx
    obtain ⟨g1, g2⟩ := goodTo_at hg (show i < h.xs.length by omega) hx
    obtain ⟨q1, q2, q3, q4⟩ := goodX_yes g1
    have hps := pX_succ hx
    have hls := lX_succ hx
    have hend := pl_end h hm i
    have hle := w.le
    by_cases hs : S.size ≤ pX h i
    · rw [decX_short (by omega) hs]
      cases w with
      | whole h1 h2 => omega
      | cut h1 h2 => rfl
    · have hlt : pX h i + 1 ≤ K := by
        cases w with
        | whole h1 h2 => omega
        | cut h1 h2 => omega
      have e1 : xId S (pX h i) = x.1 := by
        unfold xId
        rw [ag_val ag 4 _ (by omega), v1]
      have e2 : xN S (pX h i) = x.2.size := by
        unfold xN
        rw [ag_val ag 4 _ (by omega), v2]
        omega
      have n1 : ¬ (xId S (pX h i) = 0 ∧ xN S (pX h i) = 1) := by rw [e1]; omega
      have n2 : ¬ (xId S (pX h i) = 0 ∨ xId S (pX h i) = 15 ∨ hasId (h.xs.take i) (xId S (pX h i)) = true ∨ lX h i - 1 < xN S (pX h i)) := by
        rw [e1, e2, g2]
        intro e
        rcases e with e | e | e | e
        · omega
        · omega
        · cases e
        · omega
      by_cases hs2 : S.size < pX h i + 1 + xN S (pX h i)
      · rw [decX_lack (by omega) hs n1 n2 hs2]
        rw [e2] at hs2
        cases w with
        | whole h1 h2 => omega
        | cut h1 h2 => rfl
      · rw [decX_next (by omega) hs n1 n2 hs2]
        rw [e2] at hs2 ⊢
        have hKn : pX h i + 1 + x.2.size ≤ K := by
          cases w with
          | whole h1 h2 => omega
          | cut h1 h2 => omega
        have hsub : sub S (pX h i + 1) x.2.size = x.2 := by
          rw [ag_sub ag (by omega) (by omega) (by omega)]
          have hl : x.2.data.toList.length = x.2.size := Array.length_toList
          have h1 := sub_of (s := txt (encB h)) (p := pX h i + 1) (n := x.2.size) (by omega) (l := x.2.data.toList) hl (fun j hj => by
            have := v3 j hj
            rw [val_byte] at this
            have h2 : by8 (txt (encB h)) (pX h i + 1 + j) = by8 x.2 j := by omega
            rw [h2]
            rfl)
          rw [← h1]
        rw [e1, hsub]
        have := ih (i + 1) f (by omega) (by omega) (by omega)
        rw [hps, show lX h (i + 1) = lX h i - 1 - x.2.size by omega] at this
        rw [← this]
        congr 1
        obtain ⟨hl, hxe⟩ := List.getElem?_eq_some_iff.1 hx
        rw [List.take_succ_eq_append_getElem hl, hxe]
end Go.Proofs.Ytccljgohekmjkaa.Rtp
