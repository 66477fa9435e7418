/- HistoryExpires: the plain part; no condition but the ranges in each. -/
import Derived.Test.YtfemmbipglpalaaHistLaw3
namespace Go.Proofs.Ytfemmbipglpalaa.History
open Go.RowKit Go.Proofs.Ytfemmbipglpalaa.Plain Go.Proofs.Ytfemmbipglpalaa.Heap Go.Proofs.Ytfemmbipglpalaa.Maps Go.Proofs.Ytfemmbipglpalaa.Open

/-- Packets of size 1, sent at these times. -/
def en (n : Int) : List Int → List E3
  | [] => []
  | a :: S => (n, 1, a) :: en (n + 1) S
theorem en_len (n : Int) (S : List Int) : (en n S).length = S.length := by
  induction S generalizing n with
  | nil => rfl
  | cons a S ih => simp [en, ih]
theorem en_consec (n : Int) (S : List Int) : consec n (en n S) := by
  induction S generalizing n with
  | nil => trivial
  | cons a S ih => exact ⟨rfl, ih (n + 1)⟩
theorem en_snoc (n : Int) (S : List Int) (a : Int) : en n (S ++ [a]) = en n S ++ [(n + S.length, 1, a)] := by
  induction S generalizing n with
  | nil => simp [en]
  | cons b S ih =>
    show (n, 1, b) :: en (n + 1) (S ++ [a]) = (n, 1, b) :: (en (n + 1) S ++ _)
    rw [ih (n + 1), List.length_cons, show n + 1 + (S.length : Int) = n + ((S.length + 1 : Nat) : Int) by omega]
theorem en_get (n : Int) (S : List Int) (i : Nat) (a : Int) (h : S[i]? = some a) : (en n S)[i]? = some (n + i, 1, a) := by
  induction S generalizing n i with
  | nil => simp at h
  | cons b S ih =>
    cases i with
    | zero => simp at h; subst h; simp [en]
    | succ i =>
      simp at h
      have := ih (n + 1) i h
      rw [show n + 1 + (i : Int) = n + ((i + 1 : Nat) : Int) by omega] at this
      simpa [en] using this
theorem en_mem {n : Int} {S : List Int} {x : E3} (h : x ∈ en n S) : x.2.2 ∈ S := by
  induction S generalizing n with
  | nil => cases h
  | cons a S ih =>
    rcases List.mem_cons.1 h with h | h
    · subst h; simp
    · simp [ih h]
def late (t out : Int) (a : Int) : Bool := decide (out < t - a)
theorem en_tw (t out : Int) (n : Int) (S : List Int) (hb : ∀ a ∈ S, -1000000000 ≤ t - a ∧ t - a ≤ 1000000000) :
    (en n S).takeWhile (old t out) = en n (S.takeWhile (late t out)) ∧ (en n S).dropWhile (old t out) = en (n + ((S.takeWhile (late t out)).length : Int)) (S.dropWhile (late t out)) := by
  induction S generalizing n with
  | nil => simp [en]
  | cons a S ih =>
    obtain ⟨i1, i2⟩ := ih (n + 1) fun b hb2 => hb b (by simp [hb2])
    have h1 := hb a (by simp)
    have he : old t out (n, 1, a) = late t out a := by
      show decide (out < Sat.clamp64 (t - a)) = decide (out < t - a)
      unfold Sat.clamp64
      rw [if_neg (by omega), if_neg (by omega)]
    show ((n, 1, a) :: en (n + 1) S).takeWhile _ = _ ∧ ((n, 1, a) :: en (n + 1) S).dropWhile _ = _
    by_cases h : late t out a = true
    · have h2 : old t out (n, 1, a) = true := he.trans h
      rw [List.takeWhile_cons_of_pos h2, List.dropWhile_cons_of_pos h2, List.takeWhile_cons_of_pos h, List.dropWhile_cons_of_pos h, i1, i2]
      refine ⟨rfl, ?_⟩
      rw [List.length_cons, show n + 1 + ((S.takeWhile (late t out)).length : Int) = n + (((S.takeWhile (late t out)).length + 1 : Nat) : Int) by omega]
    · have h2 : ¬ old t out (n, 1, a) = true := by rw [he]; exact h
      rw [List.takeWhile_cons_of_neg h2, List.dropWhile_cons_of_neg h2, List.takeWhile_cons_of_neg h, List.dropWhile_cons_of_neg h]
      simp [en]
theorem tw_get {p : Int → Bool} {S : List Int} {i : Nat} (h : i < (S.takeWhile p).length) : ∃ a, S[i]? = some a ∧ (S.takeWhile p)[i]? = some a ∧ p a = true := by
  induction S generalizing i with
  | nil => simp at h
  | cons b S ih =>
    by_cases hb : p b = true
    · rw [List.takeWhile_cons_of_pos hb] at h ⊢
      cases i with
      | zero => exact ⟨b, rfl, rfl, hb⟩
      | succ i => simpa using ih (i := i) (by simpa using h)
    · rw [List.takeWhile_cons_of_neg hb] at h
      simp at h
theorem tw_end {p : Int → Bool} {S : List Int} (h : (S.takeWhile p).length < S.length) : ∃ a, S[(S.takeWhile p).length]? = some a ∧ p a = false := by
  induction S with
  | nil => simp at h
  | cons b S ih =>
    by_cases hb : p b = true
    · rw [List.takeWhile_cons_of_pos hb] at h ⊢
      simp only [List.length_cons] at h ⊢
      simpa using ih (by omega)
    · rw [List.takeWhile_cons_of_neg hb]
      exact ⟨b, rfl, by simpa using hb⟩
theorem tw_le (p : Int → Bool) (S : List Int) : (S.takeWhile p).length ≤ S.length ∧ (S.dropWhile p).length = S.length - (S.takeWhile p).length := by
  have := congrArg List.length (List.takeWhile_append_dropWhile (p := p) (l := S))
  rw [List.length_append] at this
  omega
theorem dw_dw {p : Int → Bool} {S : List Int} : (S.dropWhile p).takeWhile p = [] ∧ (S.dropWhile p).dropWhile p = S.dropWhile p := by
  induction S with
  | nil => exact ⟨rfl, rfl⟩
  | cons b S ih =>
    by_cases hb : p b = true
    · rw [List.dropWhile_cons_of_pos hb]; exact ih
    · rw [List.dropWhile_cons_of_neg hb, List.takeWhile_cons_of_neg hb, List.dropWhile_cons_of_neg hb]; exact ⟨rfl, rfl⟩
/-- The history behind its sends. -/
structure Ex (out A : Int) (S : List Int) (h : HS) : Prop where
  t : h.timeout = out
  next : h.next = S.length
  first : h.first = 0
  last : h.last = A
  l : h.l = en 0 S
  ok : okH h
  bd : ∀ a ∈ S, 0 ≤ a ∧ a ≤ A
theorem ex_send {out A : Int} {S : List Int} {h : HS} (e : Ex out A S h) (g : Int) (g0 : 0 ≤ g) (g1 : A + g ≤ 1000000) (hA : 0 ≤ A) (hl : S.length < 1024) : (hsend h 1 (A + g)).2.2 = 0 ∧ Ex out (A + g) (S ++ [A + g]) (hsend h 1 (A + g)).1 := by
  have hh : hsend h 1 (A + g) = ({ h with next := h.next + 1, last := A + g, flying := h.flying + 1, l := h.l ++ [(h.next, 1, A + g)] }, h.next % 65536, 0) := by
    unfold hsend
    rw [if_neg (by unfold sendBad; omega), if_neg (by rw [e.last]; omega), if_neg (by rw [e.l, en_len]; omega)]
  have ok2 := send_ok e.ok 1 (A + g) (by rw [e.next]; omega)
  rw [hh] at ok2 ⊢
  refine ⟨rfl, e.t, by show h.next + 1 = _; rw [e.next]; simp, e.first, rfl, ?_, ok2, fun a ha => ?_⟩
  · show h.l ++ [(h.next, 1, A + g)] = _
    rw [en_snoc, e.l, e.next]
    simp
  · rcases List.mem_append.1 ha with ha | ha
    · have := e.bd a ha; omega
    · simp at ha; omega
/-- What is given up, and what is given up then. -/
theorem ex_expire {out A : Int} {S : List Int} {h : HS} (e : Ex out A S h) (t : Int) (ht : A ≤ t) (hA : 0 ≤ A) (ht2 : t ≤ 1000000) :
    (expire h t).2 = en 0 (S.takeWhile (late t out)) ∧ 0 ≤ (expire h t).1.first ∧ (expire h t).1.first ≤ (expire h t).1.next ∧ (∀ x ∈ (expire h t).1.l, 0 ≤ x.2.2 ∧ x.2.2 ≤ 1125899906842624) ∧
      (expire (expire h t).1 t).2 = [] ∧ (expire (expire h t).1 t).1.l.length = S.length - (S.takeWhile (late t out)).length := by
  have hb : ∀ a ∈ S, -1000000000 ≤ t - a ∧ t - a ≤ 1000000000 := fun a ha => by have := e.bd a ha; omega
  obtain ⟨t1, t2⟩ := en_tw t out 0 S hb
  have h1 := expire_consec h t (by rw [e.first, e.l]; exact en_consec 0 S) (by rw [e.first, e.l, en_len, e.next]; omega)
  rw [e.t, e.l, e.first, t1, t2, en_len] at h1
  obtain ⟨l1, l2⟩ := tw_le (late t out) S
  generalize hm : (S.takeWhile (late t out)).length = m at *
  rw [h1]
  refine ⟨rfl, by simp only; omega, by show (0 : Int) + (m : Int) ≤ h.next; rw [e.next]; omega, fun x hx => ?_, ?_⟩
  · have h3 : x.2.2 ∈ S.dropWhile (late t out) := en_mem hx
    have := e.bd x.2.2 ((List.dropWhile_sublist _).mem h3)
    omega
  · have hb2 : ∀ a ∈ S.dropWhile (late t out), -1000000000 ≤ t - a ∧ t - a ≤ 1000000000 := fun a ha => hb a ((List.dropWhile_sublist _).mem ha)
    obtain ⟨u1, u2⟩ := en_tw t out (0 + (m : Int)) (S.dropWhile (late t out)) hb2
    rw [dw_dw.1] at u1 u2
    rw [dw_dw.2] at u2
    have h2 := expire_consec { h with first := 0 + (m : Int), flying := h.flying - sumS (en 0 (S.takeWhile (late t out))), l := en (0 + (m : Int)) (S.dropWhile (late t out)) } t (en_consec _ _) (by show h.next = _; rw [e.next]; simp only [en_len, l2]; omega)
    simp only [e.t, u1, u2] at h2
    rw [h2]
    refine ⟨rfl, ?_⟩
    show (en _ (S.dropWhile (late t out))).length = _
    rw [en_len, l2]
end Go.Proofs.Ytfemmbipglpalaa.History
