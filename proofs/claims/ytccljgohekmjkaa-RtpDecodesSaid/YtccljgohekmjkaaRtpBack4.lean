/- What was decoded is a header; there are fourteen extensions at most: plain; no condition but the ranges in each. -/
import Derived.Test.YtccljgohekmjkaaRtpBack3
import Derived.Test.YtccljgohekmjkaaRtpDec4
namespace Go.Proofs.Ytccljgohekmjkaa.Rtp
open Go.RowKit Go.Proofs.Ytccljgohekmjkaa.Plain Go.Proofs.Ytccljgohekmjkaa.Heap Go.Proofs.Ytccljgohekmjkaa.Open Go.Proofs.Ytccljgohekmjkaa.Rows Go.Proofs.Ytccljgohekmjkaa.Bits
theorem len_le : ∀ (N : Nat) (l : List Nat), l.Nodup → (∀ x ∈ l, x < N) → l.length ≤ N := by
  intro N
  induction N with
  | zero =>
    intro l _ h
    cases l with
    | nil => exact Nat.le_refl _
    | cons x l => have := h x (List.mem_cons_self ..); omega
  | succ N ih =>
    intro l hn h
    have h1 := ih (l.erase N) (hn.erase N) (fun x hx => by
      obtain ⟨h2, h3⟩ := hn.mem_erase_iff.1 hx
      have := h x h3
      omega)
    have h2 := List.length_erase (a := N) (l := l)
    split at h2 <;> omega
theorem ids_nodup {l : List X2} : ∀ n, n ≤ l.length → goodTo l n = true → ((l.take n).map fun x => x.1.toNat).Nodup
  | 0, _, _ => by simp
  | n + 1, hn, h => by
    obtain ⟨x, hx⟩ : ∃ x, l[n]? = some x := ⟨_, List.getElem?_eq_getElem (by omega)⟩
    obtain ⟨g1, g2⟩ := goodTo_at h (Nat.lt_succ_self n) hx
    have h0 : goodTo l n = true := by
      have h1 := h
      simp only [goodTo, Bool.and_eq_true] at h1
      exact h1.1
    have ih := ids_nodup n (by omega) h0
    have hall := goodTo_all h0
    obtain ⟨hl, hxe⟩ := List.getElem?_eq_some_iff.1 hx
    rw [List.take_succ_eq_append_getElem hl, List.map_append, hxe]
    refine List.nodup_append.2 ⟨ih, by simp, fun a ha b hb => ?_⟩
    obtain ⟨y, hy, rfl⟩ := List.mem_map.1 ha
    simp at hb
    rw [hb]
    intro e
    have h3 := goodX_yes (hall y hy)
    have h4 := goodX_yes g1
    have h5 : hasId (l.take n) x.1 = true := List.any_eq_true.2 ⟨y, hy, by simp; omega⟩
    rw [g2] at h5
    cases h5
theorem goodTo_14 {l : List X2} (h : goodTo l l.length = true) : l.length ≤ 14 := by
  have h1 := ids_nodup l.length (Nat.le_refl _) h
  have hall := goodTo_all h
  rw [List.take_length] at h1 hall
  have h2 : (l.map fun x => x.1.toNat - 1).Nodup := by
    rw [List.Nodup, List.pairwise_map] at h1 ⊢
    refine List.Pairwise.imp_of_mem (fun {a b} ha hb hab => ?_) h1
    have := goodX_yes (hall a ha)
    have := goodX_yes (hall b hb)
    omega
  have h3 := len_le 14 _ h2 (fun y hy => by
    obtain ⟨x, hx, rfl⟩ := List.mem_map.1 hy
    have := goodX_yes (hall x hx)
    omega)
  rwa [List.length_map] at h3
/-- With fourteen of them each number is there. -/
theorem hit_14 {l : List X2} (h : goodTo l l.length = true) (hl : l.length = 14) {k : Int} (h1 : 1 ≤ k) (h2 : k ≤ 14) : hasId l k = true := by
  cases e : hasId l k with
  | true => rfl
  | false =>
    have := goodTo_push (x := (k, (⟨#[0]⟩ : ByteArray))) h (goodX_mk h1 h2 (show 1 ≤ (⟨#[0]⟩ : ByteArray).size by decide) (show (⟨#[0]⟩ : ByteArray).size ≤ 16 by decide)) e
    have h3 := goodTo_14 (l := l ++ [(k, (⟨#[0]⟩ : ByteArray))]) (by rw [List.length_append]; exact this)
    rw [List.length_append, List.length_singleton] at h3
    omega
theorem decX_ok {s : ByteArray} : ∀ (f p left : Nat) (l xs : List X2) (e : Nat), goodTo l l.length = true → p ≤ s.size → decX s f p left l = .ok (xs, e) → goodTo xs xs.length = true ∧ e ≤ s.size := by
  intro f
  induction f with
  | zero => intro p left l xs e _ _ h; cases h
  | succ f ih =>
    intro p left l xs e hg hp h
    rw [decX] at h
    split at h
    · injection h with h; injection h with h1 h2; subst h1 h2; exact ⟨hg, hp⟩
    · split at h
      · cases h
      · split at h
        · exact ih _ _ _ _ _ hg (by omega) h
        · split at h
          · cases h
          · rename_i hn
            split at h
            · cases h
            · have hb := xId_bd s p
              have hb2 := xN_bd s p
              refine ih _ _ _ _ _ ?_ (by omega) h
              rw [List.length_append, List.length_singleton]
              refine goodTo_push hg (goodX_mk ?_ ?_ ?_ ?_) ?_
              · show 1 ≤ xId s p
                have : ¬ xId s p = 0 := fun e => hn (.inl e)
                omega
              · show xId s p ≤ 14
                have : ¬ xId s p = 15 := fun e => hn (.inr (.inl e))
                omega
              · show 1 ≤ (sub s (p + 1) (xN s p)).size
                rw [sub_size (by omega)]
                omega
              · show (sub s (p + 1) (xN s p)).size ≤ 16
                rw [sub_size (by omega)]
                omega
              · cases e : hasId l (xId s p) with
                | false => rfl
                | true => exact absurd (.inr (.inr (.inl e))) hn
theorem hd0_ok {s : ByteArray} {xs : List X2} (hg : goodTo xs xs.length = true) : okH (hd0 s xs) ∧ goodH (hd0 s xs) = true := by
  have hall : ∀ x ∈ xs, goodX x = true := by have := goodTo_all hg; rwa [List.take_length] at this
  have b7 : 0 ≤ val s 9 7 ∧ val s 9 7 < 128 := val_bd s 9 7
  have b16 : 0 ≤ val s 16 16 ∧ val s 16 16 < 65536 := val_bd s 16 16
  have b32 : 0 ≤ val s 32 32 ∧ val s 32 32 < 4294967296 := val_bd s 32 32
  have b64 : 0 ≤ val s 64 32 ∧ val s 64 32 < 4294967296 := val_bd s 64 32
  have b4 := bd4 s 4
  refine ⟨⟨?_, ?_, ?_, ?_, b32.1, b32.2, b64.1, b64.2, fun x hx => ?_, fun x hx => ?_⟩, ?_⟩
  · show _ ≤ val s 9 7; omega
  · show val s 9 7 ≤ _; omega
  · show _ ≤ val s 16 16; omega
  · show val s 16 16 ≤ _; omega
  · obtain ⟨i, _, rfl⟩ := List.mem_map.1 (show x ∈ decS s (srcN s) from hx)
    exact val_bd s (96 + 32 * i) 32
  · have := goodX_yes (hall x hx)
    exact ⟨by omega, by omega, by have : (16 : Nat) ≤ maxLen := by decide
                                  omega⟩
  · unfold goodH
    rw [goodR_mk, show goodTo (hd0 s xs).xs (hd0 s xs).xs.length = true from hg]
    · rfl
    · refine ⟨b7.1, ?_, b16.1, ?_, ?_, goodTo_14 hg⟩
      · show val s 9 7 ≤ 127; omega
      · show val s 16 16 ≤ 65535; omega
      · show (decS s (srcN s)).length ≤ 15
        unfold decS srcN
        rw [List.length_map, List.length_range]
        omega
theorem decE_ok {s : ByteArray} {p : Nat} {x : List X2 × Nat} (h : decE s p = .ok x) : goodTo x.1 x.1.length = true ∧ x.2 ≤ s.size := by
  unfold decE at h
  split at h
  · cases h
  · split at h
    · cases h
    · split at h
      · cases h
      · exact decX_ok _ _ _ _ _ _ rfl (by omega) h
/-- What Decode tells: a header, or nothing. -/
theorem decH_ok (s : ByteArray) : ((decH s).2.2 = 0 → okH (decH s).1 ∧ goodH (decH s).1 = true ∧ (decH s).2.1 ≤ s.size) ∧ (¬ (decH s).2.2 = 0 → (decH s).1 = zeroH ∧ (decH s).2.1 = 0) := by
  unfold decH
  split
  · exact ⟨fun e => absurd e (by decide), fun _ => ⟨rfl, rfl⟩⟩
  · split
    · exact ⟨fun e => absurd e (by decide), fun _ => ⟨rfl, rfl⟩⟩
    · split
      · exact ⟨fun e => absurd e (by decide), fun _ => ⟨rfl, rfl⟩⟩
      · split
        · cases hd : decE s (12 + 4 * srcN s) with
          | error c => exact ⟨fun e => absurd e (decE_err hd), fun _ => ⟨rfl, rfl⟩⟩
          | ok x =>
            obtain ⟨h1, h2⟩ := decE_ok hd
            obtain ⟨h3, h4⟩ := hd0_ok (s := s) h1
            exact ⟨fun _ => ⟨h3, h4, h2⟩, fun e => absurd rfl e⟩
        · obtain ⟨h3, h4⟩ := hd0_ok (s := s) (xs := []) rfl
          exact ⟨fun _ => ⟨h3, h4, by show 12 + 4 * srcN s ≤ s.size; omega⟩, fun e => absurd rfl e⟩
end Go.Proofs.Ytccljgohekmjkaa.Rtp
