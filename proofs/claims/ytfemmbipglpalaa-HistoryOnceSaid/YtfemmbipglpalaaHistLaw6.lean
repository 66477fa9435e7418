/- HistoryOnce: the plain part; no condition but the ranges in each. -/
import Derived.Test.YtfemmbipglpalaaHistLaw5
import Derived.Deep.OwnRows
namespace Go.Proofs.Ytfemmbipglpalaa.History
open Go.RowKit Go.Proofs.Ytfemmbipglpalaa.Plain Go.Proofs.Ytfemmbipglpalaa.Heap Go.Proofs.Ytfemmbipglpalaa.Maps Go.Proofs.Ytfemmbipglpalaa.Open

def ks (l : List E3) : List Int := l.map (·.1)
/-- How often a packet was told, where those of O are not told yet. -/
def tv (O : List Int) (i : Nat) : Int := if (i : Int) ∈ O then 0 else 1
def tvv (O : List Int) (i : Nat) : Value := .int .i64 (tv O i)
theorem tv_congr {O O' : List Int} (h : ∀ x, x ∈ O ↔ x ∈ O') (i : Nat) : tv O i = tv O' i := by
  unfold tv
  by_cases hi : (i : Int) ∈ O
  · rw [if_pos hi, if_pos ((h _).1 hi)]
  · rw [if_neg hi, if_neg (fun g => hi ((h _).2 g))]
theorem tv_bd (O : List Int) (i : Nat) : 0 ≤ tv O i ∧ tv O i ≤ 1 := by
  unfold tv
  split <;> omega
theorem drop_get {Z : List Int} {j : Nat} {s : Int} (h : Z[j]? = some s) : Z.drop j = s :: Z.drop (j + 1) := by
  obtain ⟨hj, e⟩ := List.getElem?_eq_some_iff.1 h
  rw [← e]
  exact (List.drop_eq_getElem_cons hj)
theorem tv_step {Z : List Int} (hn : Z.Nodup) {j s : Nat} (h : Z[j]? = some (s : Int)) : tv (Z.drop j) s = 0 ∧ ∀ i, (if i = s then .int .i64 1 else tvv (Z.drop j) i) = tvv (Z.drop (j + 1)) i := by
  have e := drop_get h
  have hs : (s : Int) ∉ Z.drop (j + 1) := by
    have := hn.sublist (List.drop_sublist j Z)
    rw [e] at this
    exact (List.nodup_cons.1 this).1
  refine ⟨by unfold tv; rw [if_pos (by rw [e]; simp)], fun i => ?_⟩
  by_cases hi : i = s
  · subst hi
    rw [if_pos rfl]
    unfold tvv tv
    rw [if_neg hs]
  · rw [if_neg hi]
    unfold tvv
    rw [e]
    unfold tv
    by_cases h2 : (i : Int) ∈ Z.drop (j + 1)
    · rw [if_pos (by simp [h2]), if_pos h2]
    · rw [if_neg (by simp [h2]; omega), if_neg h2]
def sumTo (O : List Int) : Nat → Int
  | 0 => 0
  | i + 1 => sumTo O i + tv O i
theorem sumTo_bd (O : List Int) (i : Nat) : 0 ≤ sumTo O i ∧ sumTo O i ≤ i := by
  induction i with
  | zero => simp [sumTo]
  | succ i ih =>
    have := tv_bd O i
    simp only [sumTo]
    omega
theorem sumTo_nil (k : Nat) : sumTo [] k = k := by
  induction k with
  | zero => rfl
  | succ k ih => simp only [sumTo, ih, tv]; simp
theorem sumTo_cons {x : Int} {O : List Int} (hx : x ∉ O) (k : Nat) : sumTo (x :: O) k = sumTo O k - if 0 ≤ x ∧ x < (k : Int) then 1 else 0 := by
  induction k with
  | zero => simp only [sumTo]; rw [if_neg (by omega)]; rfl
  | succ k ih =>
    simp only [sumTo]
    rw [ih]
    by_cases hk : x = (k : Int)
    · subst hk
      have h1 : tv ((k : Int) :: O) k = 0 := by unfold tv; rw [if_pos (by simp)]
      have h2 : tv O k = 1 := by unfold tv; rw [if_neg hx]
      rw [h1, h2, if_neg (by omega), if_pos (by omega)]
      omega
    · have h1 : tv (x :: O) k = tv O k := by
        unfold tv
        by_cases h : (k : Int) ∈ O
        · rw [if_pos (by simp [h]), if_pos h]
        · rw [if_neg (by simp [h]; omega), if_neg h]
      rw [h1]
      by_cases h2 : 0 ≤ x ∧ x < (k : Int)
      · rw [if_pos h2, if_pos (by omega)]; omega
      · rw [if_neg h2, if_neg (by omega)]; omega
theorem sumTo_all {O : List Int} {k : Nat} (hn : O.Nodup) (hb : ∀ x ∈ O, 0 ≤ x ∧ x < (k : Int)) : sumTo O k = k - O.length := by
  induction O with
  | nil => rw [sumTo_nil]; simp
  | cons x O ih =>
    obtain ⟨h1, h2⟩ := List.nodup_cons.1 hn
    rw [sumTo_cons h1, ih h2 fun y hy => hb y (by simp [hy]), if_pos (hb x (by simp))]
    simp only [List.length_cons]
    omega
/-- Where each packet went. -/
theorem findE_perm {k : Int} {l : List E3} {x : E3} (h : findE k l = some x) : l.Perm (x :: eraseE k l) := by
  induction l with
  | nil => cases h
  | cons y l ih =>
    unfold findE at h
    unfold eraseE
    split at h
    · rename_i hk
      injection h with h
      subst h
      rw [if_pos hk]
    · rename_i hk
      rw [if_neg hk]
      exact ((ih h).cons y).trans (List.Perm.swap _ _ _)
def all3 (s : H3) : List E3 := s.2.1.map (·.1) ++ (s.2.2 ++ s.1.l)
theorem hear1_perm (s : H3) (x : R5) : (all3 (hear1 s x)).Perm (all3 s) := by
  unfold hear1
  split
  · exact List.Perm.refl _
  · rename_i e he
    obtain ⟨e1, hm⟩ := findE_key he
    have hp := findE_perm he
    have hd : (dropE s.1 e).l = eraseE (hkey s.1 x.1) s.1.l := by show eraseE e.1 s.1.l = _; rw [e1]
    split
    · unfold all3
      simp only [List.map_append, List.map_cons, List.map_nil, hd, List.append_assoc]
      refine List.Perm.append_left _ ?_
      refine (List.perm_middle (l₁ := s.2.2)).symm.trans ?_
      exact List.Perm.append_left _ hp.symm
    · unfold all3
      simp only [hd, List.append_assoc]
      refine List.Perm.append_left _ (List.Perm.append_left _ ?_)
      exact hp.symm
theorem hearL_perm (h : HS) (l : List R5) : (all3 (hearL h l)).Perm h.l := by
  have : ∀ (l : List R5) (s : H3), (all3 (l.foldl hear1 s)).Perm (all3 s) := by
    intro l
    induction l with
    | nil => exact fun s => List.Perm.refl _
    | cons x l ih => exact fun s => (ih _).trans (hear1_perm s x)
  exact this l (h, [], [])
/-- The history among the rounds. -/
structure On (k : Nat) (h : HS) : Prop where
  ok : okH h
  next : h.next = k
  all : ∀ x ∈ h.l, 0 ≤ x.1 ∧ x.1 < (k : Int) ∧ x.2.1 = 10 ∧ x.2.2 = x.1
  nd : (ks h.l).Nodup
theorem hearL_ok {h : HS} (l : List R5) (ok : okH h) : okH (hearL h l).1 ∧ (hearL h l).1.next = h.next := by
  have : ∀ (l : List R5) (s : H3), okH s.1 → okH (l.foldl hear1 s).1 ∧ (l.foldl hear1 s).1.next = s.1.next := by
    intro l
    induction l with
    | nil => exact fun s hs => ⟨hs, rfl⟩
    | cons x l ih => exact fun s hs => ⟨(ih _ (hs.hear x)).1, ((ih _ (hs.hear x)).2).trans (hear1_next s x)⟩
  exact this l (h, [], []) ok
theorem On.hear {k : Nat} {h : HS} (o : On k h) (l : List R5) : On k (hearL h l).1 ∧ (ks (all3 (hearL h l))).Nodup ∧ (∀ x ∈ all3 (hearL h l), 0 ≤ x.1 ∧ x.1 < (k : Int) ∧ x.2.1 = 10 ∧ x.2.2 = x.1) ∧ ∀ x, x ∈ ks (all3 (hearL h l)) ↔ x ∈ ks h.l := by
  have hp := hearL_perm h l
  obtain ⟨h1, h2⟩ := hearL_ok l o.ok
  have hall : ∀ x ∈ all3 (hearL h l), 0 ≤ x.1 ∧ x.1 < (k : Int) ∧ x.2.1 = 10 ∧ x.2.2 = x.1 := fun x hx => o.all x (hp.mem_iff.1 hx)
  have hnd : (ks (all3 (hearL h l))).Nodup := (hp.map (fun x : E3 => x.1)).nodup_iff.2 o.nd
  refine ⟨⟨h1, h2.trans o.next, fun x hx => hall x (by unfold all3; simp [hx]), ?_⟩, hnd, hall, fun x => (hp.map (fun x : E3 => x.1)).mem_iff⟩
  refine hnd.sublist ?_
  unfold ks all3
  rw [List.map_append, List.map_append]
  exact (List.sublist_append_right _ _).trans (List.sublist_append_right _ _)
theorem On.sum {k : Nat} {h : HS} (o : On k h) : sumTo (ks h.l) k = k - h.l.length ∧ h.flying = 10 * h.l.length := by
  refine ⟨?_, ?_⟩
  · have := sumTo_all (k := k) o.nd (fun x hx => by
      obtain ⟨y, hy, rfl⟩ := List.mem_map.1 hx
      have := o.all y hy
      omega)
    rw [this]
    simp [ks]
  · rw [o.ok.sum]
    have : ∀ l : List E3, (∀ x ∈ l, x.2.1 = 10) → sumS l = 10 * l.length := by
      intro l
      induction l with
      | nil => intro _; rfl
      | cons x l ih =>
        intro hx
        have e : sumS (x :: l) = x.2.1 + sumS l := by simp [sumS]
        rw [e, ih fun y hy => hx y (by simp [hy]), hx x (by simp)]
        simp only [List.length_cons]
        omega
    exact this _ fun x hx => (o.all x hx).2.2.1
theorem all3_got {s : H3} {j : Nat} {x : A6} (h : s.2.1[j]? = some x) : (ks (all3 s))[j]? = some x.1.1 := by
  unfold ks all3
  rw [List.map_append, List.getElem?_append_left (by simp; exact (List.getElem?_eq_some_iff.1 h).1)]
  simp [h]
theorem all3_lost {s : H3} {j : Nat} {x : E3} (h : s.2.2[j]? = some x) : (ks (all3 s))[s.2.1.length + j]? = some x.1 := by
  unfold ks all3
  have hl := (List.getElem?_eq_some_iff.1 h).1
  rw [List.map_append, List.getElem?_append_right (by simp), List.map_append, List.getElem?_append_left (by simp; omega)]
  simp [h]
theorem all3_end (s : H3) : (ks (all3 s)).drop (s.2.1.length + s.2.2.length) = ks s.1.l := by
  unfold ks all3
  rw [List.map_append, List.map_append, ← List.append_assoc]
  exact List.drop_left' (by simp)
/-- The sends ahead of the rounds. -/
structure Sn (k : Nat) (h : HS) : Prop where
  o : On k h
  len : h.l.length = k
  last : h.last ≤ k
  mem : ∀ j : Nat, j < k → (j : Int) ∈ ks h.l
theorem sn_fresh (t : Int) : Sn 0 ⟨t, 0, 0, 0, 0, []⟩ := ⟨⟨fresh_ok t, rfl, nofun, by simp [ks]⟩, rfl, by simp, fun j hj => absurd hj (by omega)⟩
theorem sn_send {k : Nat} {h : HS} (s : Sn k h) (hk : k < 300) : (hsend h 10 k).2 = ((k : Int), 0) ∧ Sn (k + 1) (hsend h 10 k).1 := by
  have hh : hsend h 10 k = ({ h with next := h.next + 1, last := (k : Int), flying := h.flying + 10, l := h.l ++ [(h.next, 10, (k : Int))] }, h.next % 65536, 0) := by
    unfold hsend
    have := s.last
    rw [if_neg (by unfold sendBad; omega), if_neg (by omega), if_neg (by rw [s.len]; omega)]
  have ok2 := send_ok s.o.ok 10 k (by rw [s.o.next]; omega)
  rw [hh] at ok2 ⊢
  refine ⟨by simp only [s.o.next]; rw [Int.emod_eq_of_lt (by omega) (by omega)], ⟨ok2, by show h.next + 1 = _; rw [s.o.next]; simp, fun x hx => ?_, ?_⟩, by simp [s.len], by simp only; omega, fun j hj => ?_⟩
  · rcases List.mem_append.1 hx with hx | hx
    · have := s.o.all x hx; omega
    · simp at hx
      rw [hx]
      exact ⟨by show (0 : Int) ≤ h.next; rw [s.o.next]; omega, by show h.next < _; rw [s.o.next]; omega, rfl, by show (k : Int) = h.next; rw [s.o.next]⟩
  · show (ks (h.l ++ [(h.next, 10, (k : Int))])).Nodup
    unfold ks
    rw [List.map_append, List.nodup_append]
    refine ⟨s.o.nd, by simp, fun a ha b hb => ?_⟩
    obtain ⟨y, hy, rfl⟩ := List.mem_map.1 ha
    simp at hb
    have := s.o.all y hy
    rw [hb, s.o.next]
    show y.1 ≠ (k : Int)
    omega
  · unfold ks
    rw [List.map_append, List.mem_append]
    by_cases h : j = k
    · subst h
      refine .inr ?_
      simp [s.o.next]
    · exact .inl (s.mem j (by omega))
theorem all3_len {k : Nat} {s : H3} (hn : (ks (all3 s)).Nodup) (hb : ∀ x ∈ all3 s, 0 ≤ x.1 ∧ x.1 < (k : Int)) : s.2.1.length ≤ k ∧ s.2.2.length ≤ k := by
  have h1 := sumTo_all (k := k) hn (fun x hx => by
    obtain ⟨y, hy, rfl⟩ := List.mem_map.1 hx
    exact hb y hy)
  have h2 := sumTo_bd (ks (all3 s)) k
  have h3 : (ks (all3 s)).length = s.2.1.length + (s.2.2.length + s.1.l.length) := by simp [ks, all3]
  omega
end Go.Proofs.Ytfemmbipglpalaa.History
