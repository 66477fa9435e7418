/- Reports of the first kind: what was encoded is decoded, what was decoded is encoded as it was; no program in sight. -/
import Derived.Test.YtmkaflfhmpddbaaCcfbDec
import Derived.Test.YtmkaflfhmpddbaaBitsZ
import Derived.Test.YtmkaflfhmpddbaaBitsLaw3
namespace Go.Proofs.Ytmkaflfhmpddbaa.Ccfb
open Go.RowKit Go.Proofs.Ytmkaflfhmpddbaa.Plain Go.Proofs.Ytmkaflfhmpddbaa.Heap Go.Proofs.Ytmkaflfhmpddbaa.Open Go.Proofs.Ytmkaflfhmpddbaa.Rows Go.Proofs.Ytmkaflfhmpddbaa.Bits

theorem encM_bits (m : M3) : IsBits (encM m) := isBits_append (bitsOf_bits _ _) (isBits_append (bitsOf_bits _ _) (bitsOf_bits _ _))
theorem encBl_bits (b : Bl) : IsBits (encBl b) :=
  isBits_append (bitsOf_bits _ _) (isBits_append (bitsOf_bits _ _) (isBits_append (bitsOf_bits _ _) (isBits_append (isBits_flat fun m _ => encM_bits m) (isBits_zeros _))))
theorem encC_bits (r : Rep) : IsBits (encC r) := isBits_append (bitsOf_bits _ _) (isBits_append (isBits_flat fun b _ => encBl_bits b) (bitsOf_bits _ _))
theorem enc_size (r : Rep) : (txt (encC r)).size = sizeC r := by
  rw [txt_size, encC_len]
  omega
/-- A metric that was written. -/
theorem decM_enc {L P R : List Int} {m : M3} (hL : IsBits L) (e : L = P ++ (encM m ++ R)) (hm : goodM m = true) : decM (txt L) P.length = m := by
  obtain ⟨h1, h2, h3, h4, h5⟩ := goodM_yes hm
  unfold encM at e
  have v1 : val (txt L) P.length 1 = b01 m.1 := val_put hL (by rw [e]; simp only [List.append_assoc]; rfl) (by unfold b01; split <;> omega) (by unfold b01; split <;> omega)
  have v2 : val (txt L) (P.length + 1) 2 = m.2.1 := by
    have := val_put (P := P ++ bitsOf (b01 m.1) 1) (n := 2) (v := m.2.1) hL (by rw [e]; simp only [List.append_assoc]; rfl) h1 (by show m.2.1 < 4; omega)
    rwa [List.length_append, bitsOf_length] at this
  have v3 : val (txt L) (P.length + 3) 13 = m.2.2 := by
    have := val_put (P := P ++ bitsOf (b01 m.1) 1 ++ bitsOf m.2.1 2) (n := 13) (v := m.2.2) (R := R) hL (by rw [e]; simp only [List.append_assoc]) h3 (by show m.2.2 < 8192; omega)
    rwa [List.length_append, List.length_append, bitsOf_length, bitsOf_length] at this
  unfold decM
  rw [v1, v2, v3]
  obtain ⟨g, ec, ag⟩ := m
  cases g <;> rfl
theorem bad_good {m : M3} (h : goodM m = true) : badM m = false := by
  obtain ⟨h1, h2, h3, h4, h5⟩ := goodM_yes h
  unfold badM
  rcases h5 with h5 | ⟨h5, h6, h7⟩
  · rw [h5]; rfl
  · rw [h6, h7]; simp
theorem decMs_enc {L P : List Int} (hL : IsBits L) : ∀ (ms : List M3) (R : List Int), L = P ++ (encMs ms ++ R) → (∀ m ∈ ms, goodM m = true) → decMs (txt L) P.length ms.length = ms := by
  intro ms R e hg
  apply List.ext_getElem
  · simp [decMs]
  · intro i h1 h2
    have e1 : (decMs (txt L) P.length ms.length)[i] = decM (txt L) (P.length + 16 * i) := by simp [decMs]
    rw [e1]
    have hsp : ms = ms.take i ++ (ms[i] :: ms.drop (i + 1)) := by
      rw [List.getElem_cons_drop, List.take_append_drop]
    have hl : (P ++ encMs (ms.take i)).length = P.length + 16 * i := by
      rw [List.length_append, encMs_len, List.length_take]
      omega
    rw [← hl]
    refine decM_enc (R := encMs (ms.drop (i + 1)) ++ R) hL ?_ (hg _ (List.getElem_mem h2))
    rw [e]
    conv => lhs; rw [hsp]
    rw [encMs_append]
    show P ++ (encMs (ms.take i) ++ (encM ms[i] ++ encMs (ms.drop (i + 1))) ++ R) = _
    simp only [List.append_assoc]
/-- A block that was written. -/
theorem decB_enc {L P R : List Int} {b : Bl} (hL : IsBits L) (e : L = P ++ (encBl b ++ R)) (hR : 32 ≤ R.length) (hL8 : L.length % 8 = 0) (ok : okB b) (h0 : 0 ≤ b.2.1) (h1 : b.2.1 ≤ 65535) (h2 : b.2.2.length ≤ 4096) (h3 : ∀ m ∈ b.2.2, goodM m = true) :
    decB (txt L) P.length = .ok b ∧ endB P.length b.2.2.length = P.length + 8 * sizeB b := by
  have hs : 8 * (txt L).size = L.length := by rw [txt_size]; omega
  have hlen : L.length = P.length + 8 * sizeB b + R.length := by rw [e, List.length_append, List.length_append, encBl_len]; omega
  have hend : endB P.length b.2.2.length = P.length + 8 * sizeB b := by unfold endB sizeB; omega
  have he : L = P ++ (bitsOf b.1 32 ++ (bitsOf b.2.1 16 ++ (bitsOf (b.2.2.length : Int) 16 ++ (encMs b.2.2 ++ (zeros (padB b.2.2.length) ++ R))))) := by
    rw [e]; unfold encBl; simp only [List.append_assoc]
  have v1 : val (txt L) P.length 32 = b.1 := val_put hL he ok.s0 ok.s1
  have v2 : val (txt L) (P.length + 32) 16 = b.2.1 := by
    have := val_put (P := P ++ bitsOf b.1 32) (n := 16) (v := b.2.1) hL (by rw [he]; simp only [List.append_assoc]; rfl) h0 (by show b.2.1 < 65536; omega)
    rwa [List.length_append, bitsOf_length] at this
  have v3 : val (txt L) (P.length + 48) 16 = (b.2.2.length : Int) := by
    have := val_put (P := P ++ bitsOf b.1 32 ++ bitsOf b.2.1 16) (n := 16) (v := (b.2.2.length : Int)) hL (by rw [he]; simp only [List.append_assoc]; rfl) (by omega) (by show (b.2.2.length : Int) < 65536; omega)
    rwa [List.length_append, List.length_append, bitsOf_length, bitsOf_length] at this
  have hc : cntB (txt L) P.length = b.2.2.length := by unfold cntB; rw [v3]; omega
  have hq : (P ++ bitsOf b.1 32 ++ bitsOf b.2.1 16 ++ bitsOf (b.2.2.length : Int) 16).length = P.length + 64 := by simp only [List.length_append, bitsOf_length]
  have vm : decMs (txt L) (P.length + 64) b.2.2.length = b.2.2 := by
    rw [← hq]
    exact decMs_enc hL b.2.2 (zeros (padB b.2.2.length) ++ R) (by rw [he]; simp only [List.append_assoc]) h3
  refine ⟨?_, hend⟩
  unfold decB
  rw [hc, hend, vm, v1, v2, hs]
  have hsz : 8 ≤ sizeB b := by unfold sizeB; omega
  rw [if_neg (by omega), if_neg (by omega), if_neg (by omega), if_neg, if_neg]
  · rintro ⟨hodd, hz⟩
    apply hz
    have hq2 : (P ++ bitsOf b.1 32 ++ bitsOf b.2.1 16 ++ bitsOf (b.2.2.length : Int) 16 ++ encMs b.2.2).length = P.length + 64 + 16 * b.2.2.length := by rw [List.length_append, hq, encMs_len]
    rw [← hq2]
    have hp : padB b.2.2.length = 16 := by unfold padB; rw [if_pos hodd]
    refine val_put (R := R) hL ?_ (by omega) (by decide)
    rw [bitsOf_zero, he, hp]
    unfold zeros
    simp only [List.append_assoc]
  · rw [List.any_eq_true]
    rintro ⟨m, hm, hb⟩
    rw [bad_good (h3 m hm)] at hb
    cases hb
theorem decBs_enc {r : Rep} (ok : okC r) (hg : goodC r = true) : ∀ (d i : Nat), i + d = r.2.1.length → decBs (txt (encC r)) (17 - i) (32 + 8 * sizeBs (r.2.1.take i)) (r.2.1.take i) = .ok (r.2.1, 32 + 8 * sizeBs r.2.1) := by
  obtain ⟨h16, hgb⟩ := goodC_yes hg
  have hs : 8 * (txt (encC r)).size = (encC r).length := by rw [enc_size, encC_len]
  have hl : (encC r).length = 64 + 8 * sizeBs r.2.1 := by rw [encC_len]; unfold sizeC; omega
  intro d
  induction d with
  | zero =>
    intro i hi
    have hii : i = r.2.1.length := by omega
    subst hii
    rw [List.take_length]
    obtain ⟨f, hf⟩ : ∃ f, 17 - r.2.1.length = f + 1 := ⟨16 - r.2.1.length, by omega⟩
    rw [hf]
    unfold decBs
    rw [if_pos (by omega)]
  | succ d ih =>
    intro i hi
    have hil : i < r.2.1.length := by omega
    have hx : r.2.1[i]? = some r.2.1[i] := List.getElem?_eq_getElem hil
    generalize r.2.1[i] = x at hx
    have hxm := List.mem_of_getElem? hx
    have hst := sizeBs_take hx
    have hle := sizeBs_le r.2.1 (i + 1)
    obtain ⟨g0, g1, g2, g3⟩ := hgb x hxm
    have hP : (bitsOf r.1 32 ++ encBs (r.2.1.take i)).length = 32 + 8 * sizeBs (r.2.1.take i) := by rw [List.length_append, bitsOf_length, encBs_len]
    have he : encC r = (bitsOf r.1 32 ++ encBs (r.2.1.take i)) ++ (encBl x ++ (encBs (r.2.1.drop (i + 1)) ++ bitsOf r.2.2 32)) := by
      have h1 : encBs r.2.1 = encBs (r.2.1.take (i + 1)) ++ encBs (r.2.1.drop (i + 1)) := by rw [← encBs_append, List.take_append_drop]
      unfold encC
      rw [h1, encBs_take hx]
      simp only [List.append_assoc]
    obtain ⟨hd, hend⟩ := decB_enc (encC_bits r) he (by rw [List.length_append, bitsOf_length]; omega) (by rw [encC_len]; omega) (ok.bs x hxm) g0 g1 g2 g3
    rw [hP] at hd hend
    obtain ⟨f, hf⟩ : ∃ f, 17 - i = f + 1 := ⟨16 - i, by omega⟩
    rw [hf]
    unfold decBs
    have hsz : 8 ≤ sizeB x := by unfold sizeB; omega
    rw [if_neg (by omega), if_neg (by rw [List.length_take]; omega), hd]
    simp only
    have h2 := ih (i + 1) (by omega)
    have htp : r.2.1.take (i + 1) = r.2.1.take i ++ [x] := by
      obtain ⟨h, rfl⟩ := List.getElem?_eq_some_iff.1 hx
      exact List.take_succ_eq_append_getElem h
    rw [htp, show 17 - (i + 1) = f by omega] at h2
    rw [hend]
    rw [show 32 + 8 * sizeBs (r.2.1.take i) + 8 * sizeB x = 32 + 8 * sizeBs (r.2.1.take i ++ [x]) by rw [← htp]; omega]
    exact h2
/-- What was encoded is decoded. -/
theorem dec_enc {r : Rep} (ok : okC r) (hg : goodC r = true) (hs : ¬ 65536 < sizeC r) : decC (txt (encC r)) = (r, 0) := by
  have hsz := enc_size r
  have h4 : ∀ l : List Bl, sizeBs l % 4 = 0 := by
    intro l
    induction l with
    | nil => rfl
    | cons b l ih => rw [sizeBs_cons]; unfold sizeB; omega
  have h4 := h4 r.2.1
  have hsc : sizeC r = 8 + sizeBs r.2.1 := rfl
  have hm : decC (txt (encC r)) = decOut (txt (encC r)) (decBs (txt (encC r)) 17 32 []) := by
    unfold decC
    rw [hsz, if_neg hs, if_neg (by omega), if_neg (by omega)]
  have hb := decBs_enc ok hg r.2.1.length 0 (by omega)
  simp only [List.take_zero] at hb
  have hb' : decBs (txt (encC r)) 17 32 [] = .ok (r.2.1, 32 + 8 * sizeBs r.2.1) := hb
  rw [hm, hb']
  unfold decOut
  have e1 : val (txt (encC r)) 0 32 = r.1 := val_put (P := []) (encC_bits r) (by unfold encC; rfl) ok.s0 ok.s1
  have e2 : val (txt (encC r)) (32 + 8 * sizeBs r.2.1) 32 = r.2.2 := by
    have h := val_put (P := bitsOf r.1 32 ++ encBs r.2.1) (R := []) (v := r.2.2) (n := 32) (encC_bits r) (by unfold encC; simp only [List.append_assoc, List.append_nil]) ok.t0 ok.t1
    rwa [List.length_append, bitsOf_length, encBs_len] at h
  simp only [e1, e2]
end Go.Proofs.Ytmkaflfhmpddbaa.Ccfb
