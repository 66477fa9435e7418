/- Plain histories whose numbers run on without a gap; no condition but the ranges in each. -/
import Derived.Test.YtfemmbipglpalaaHistExp
namespace Go.Proofs.Ytfemmbipglpalaa.History
open Go.RowKit Go.Proofs.Ytfemmbipglpalaa.Plain Go.Proofs.Ytfemmbipglpalaa.Heap Go.Proofs.Ytfemmbipglpalaa.Maps

/-- The packets are numbered from n on. -/
def consec (n : Int) : List E3 → Prop
  | [] => True
  | x :: l => x.1 = n ∧ consec (n + 1) l
def old (now timeout : Int) (x : E3) : Bool := decide (timeout < Sat.clamp64 (now - x.2.2))
theorem exp_consec (now : Int) (L : List E3) : ∀ (n : Int) (s : H2), s.1.l = L → consec n L →
    expLoop now L.length n s = ({ s.1 with l := L.dropWhile (old now s.1.timeout), flying := s.1.flying - sumS (L.takeWhile (old now s.1.timeout)) }, s.2 ++ L.takeWhile (old now s.1.timeout)) := by
  induction L with
  | nil =>
    intro n s hl _
    simp only [List.length_nil, expLoop, List.dropWhile_nil, List.takeWhile_nil, List.append_nil]
    obtain ⟨⟨t, nx, f, la, fl, l⟩, g⟩ := s
    simp only at hl
    simp [hl, sumS]
  | cons x L ih =>
    intro n s hl hc
    obtain ⟨hx, hc⟩ := hc
    have hf : findE n s.1.l = some x := by rw [hl]; unfold findE; rw [if_pos hx.symm]
    show (match findE n s.1.l with | none => _ | some e => _) = _
    rw [hf]
    show (if Sat.clamp64 (now - x.2.2) ≤ s.1.timeout then s else expLoop now L.length (n + 1) (dropE s.1 x, s.2 ++ [x])) = _
    by_cases h : Sat.clamp64 (now - x.2.2) ≤ s.1.timeout
    · have ho : old now s.1.timeout x = false := by unfold old; exact decide_eq_false (by omega)
      rw [if_pos h, List.dropWhile_cons_of_neg (by simp [ho]), List.takeWhile_cons_of_neg (by simp [ho])]
      obtain ⟨⟨t, nx, f, la, fl, l⟩, g⟩ := s
      simp only at hl
      simp [hl, sumS]
    · have ho : old now s.1.timeout x = true := by unfold old; exact decide_eq_true (by omega)
      have he : (dropE s.1 x).l = L := by
        show eraseE x.1 s.1.l = L
        rw [hl]; unfold eraseE; rw [if_pos rfl]
      rw [if_neg h, List.dropWhile_cons_of_pos ho, List.takeWhile_cons_of_pos ho, ih (n + 1) (dropE s.1 x, s.2 ++ [x]) he hc]
      have hs : sumS (x :: L.takeWhile (old now s.1.timeout)) = x.2.1 + sumS (L.takeWhile (old now s.1.timeout)) := by simp [sumS]
      simp only [dropE, List.append_assoc, List.singleton_append, hs]
      rw [Int.sub_sub]
theorem consec_find {n : Int} {L : List E3} (hc : consec n L) (k : Int) (hk : k < n) : findE k L = none := by
  induction L generalizing n with
  | nil => rfl
  | cons x L ih =>
    unfold findE
    rw [if_neg (by rw [hc.1]; omega)]
    exact ih hc.2 (by omega)
/-- The first number that is remembered. -/
theorem first_consec (f m : Nat) : ∀ (h : HS) (L : List E3), h.l = L → consec (h.first + m) L → f = m + L.length → firstLoop f h = { h with first := h.first + m } := by
  induction f generalizing m with
  | zero =>
    intro h L hl hc hf
    obtain rfl : m = 0 := by omega
    show h = { h with first := h.first + ((0 : Nat) : Int) }
    simp
  | succ f ih =>
    intro h L hl hc hf
    show (match findE h.first h.l with | none => firstLoop f { h with first := h.first + 1 } | some _ => h) = _
    rcases Nat.eq_zero_or_pos m with rfl | hm
    · cases L with
      | nil => simp at hf
      | cons x L =>
        have : findE h.first h.l = some x := by rw [hl]; unfold findE; rw [if_pos (by rw [hc.1]; simp)]
        rw [this]
        simp
    · have hfn : findE h.first h.l = none := by rw [hl]; exact consec_find hc _ (by omega)
      rw [hfn]
      obtain ⟨m', rfl⟩ : ∃ m', m = m' + 1 := ⟨m - 1, by omega⟩
      have e : h.first + 1 + (m' : Int) = h.first + ((m' + 1 : Nat) : Int) := by omega
      have := ih m' { h with first := h.first + 1 } L hl (by show consec (h.first + 1 + (m' : Int)) L; rw [e]; exact hc) (by omega)
      simp only at this ⊢
      rw [this, e]
theorem consec_drop {n : Int} {L : List E3} (hc : consec n L) (p : E3 → Bool) : consec (n + ((L.takeWhile p).length : Int)) (L.dropWhile p) := by
  induction L generalizing n with
  | nil => simp [consec]
  | cons x L ih =>
    by_cases h : p x = true
    · rw [List.takeWhile_cons_of_pos h, List.dropWhile_cons_of_pos h]
      have := ih hc.2
      rw [List.length_cons, show n + ((List.length (List.takeWhile p L) + 1 : Nat) : Int) = n + 1 + ((List.takeWhile p L).length : Int) by omega]
      exact this
    · rw [List.takeWhile_cons_of_neg h, List.dropWhile_cons_of_neg h]
      simpa using hc
theorem tw_len (L : List E3) (p : E3 → Bool) : (L.takeWhile p).length + (L.dropWhile p).length = L.length := by
  have := congrArg List.length (List.takeWhile_append_dropWhile (p := p) (l := L))
  rwa [List.length_append] at this
theorem expire_consec (h : HS) (now : Int) (hc : consec h.first h.l) (hn : h.next = h.first + (h.l.length : Int)) :
    expire h now = ({ h with first := h.first + ((h.l.takeWhile (old now h.timeout)).length : Int), flying := h.flying - sumS (h.l.takeWhile (old now h.timeout)), l := h.l.dropWhile (old now h.timeout) }, h.l.takeWhile (old now h.timeout)) := by
  unfold expire
  have hf : (h.next - h.first).toNat = h.l.length := by omega
  have h1 := exp_consec now h.l h.first (h, []) rfl hc
  simp only [List.nil_append] at h1
  rw [hf, h1]
  simp only
  have h2 := first_consec h.l.length (h.l.takeWhile (old now h.timeout)).length { h with l := h.l.dropWhile (old now h.timeout), flying := h.flying - sumS (h.l.takeWhile (old now h.timeout)) } _ rfl (consec_drop hc _) (tw_len _ _).symm
  rw [h2]
theorem consec_snoc {n : Int} {L : List E3} (hc : consec n L) (x : E3) (hx : x.1 = n + (L.length : Int)) : consec n (L ++ [x]) := by
  induction L generalizing n with
  | nil => exact ⟨by simpa using hx, trivial⟩
  | cons y L ih =>
    refine ⟨hc.1, ih hc.2 ?_⟩
    rw [hx, List.length_cons]
    omega
end Go.Proofs.Ytfemmbipglpalaa.History
