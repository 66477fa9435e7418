/- GroupSums: the plain groups, one behind the other; no condition but the ranges in each. -/
import Derived.Test.YtdpaknpiedoblaaGroupPlays
namespace Go.Proofs.Ytdpaknpiedoblaa.Group
open Go.RowKit Go.Proofs.Ytdpaknpiedoblaa.Plain Go.Proofs.Ytdpaknpiedoblaa.Heap Go.Proofs.Ytdpaknpiedoblaa.Open

abbrev S3 : Type := Int × Int × Int
def bdG (x : G4) : Prop := 0 ≤ x.1 ∧ x.1 ≤ x.2.1 ∧ x.2.1 ≤ 6553500 ∧ -2147483648 ≤ x.2.2.1 ∧ x.2.2.1 ≤ 2154037147 ∧ 0 ≤ x.2.2.2 ∧ x.2.2.2 ≤ 10000
/-- What has been told of the first k packets: the done groups, the open one, the sums. -/
structure GI (k : Nat) (A : Int) (D : List G4) (op : G4) (sm : S3) (st : St) : Prop where
  at0 : 0 ≤ A
  at1 : A ≤ 65535 * k
  start : k = 0 → D = [] ∧ st = (none, none) ∧ sm = (0, 0, 0)
  has : 0 < k → st = (some op, D.getLast?) ∧ op.2.1 = A ∧ 0 ≤ op.1 ∧ op.1 ≤ op.2.1 ∧ -2147483648 ≤ op.2.2.1 ∧ op.2.2.1 ≤ 65535 * k + 2147483647 ∧ 0 ≤ op.2.2.2 ∧ op.2.2.2 ≤ 100 * k
  nil : D = [] → sm = (0, 0, 0)
  cons : ∀ z, D.getLast? = some z → 1 ≤ op.2.2.2 ∧ z.2.1 ≤ op.1 ∧ ∃ d, D.head? = some d ∧ sm = (z.2.1 - d.2.1, z.2.2.1 - d.2.2.1, z.2.2.2 - d.2.2.2)
  bd : ∀ x ∈ D, bdG x
  len : D.length ≤ k
theorem bdG_ok {x : G4} (h : bdG x) : okG 1000000 x := by
  obtain ⟨h1, h2, h3, h4, h5, h6, h7⟩ := h
  exact ⟨by omega, by omega, by omega, by omega, by omega, by omega, by omega, by omega⟩
theorem GI.op_bd {k : Nat} {A : Int} {D : List G4} {op : G4} {sm : S3} {st : St} (h : GI k A D op sm st) (hk : 0 < k) (hk2 : k ≤ 100) : bdG op := by
  obtain ⟨_, h2, h3, h4, h5, h6, h7, h8⟩ := h.has hk
  have := h.at1
  exact ⟨h3, h4, by omega, h5, by omega, h7, by omega⟩
theorem GI.ok {k : Nat} {A : Int} {D : List G4} {op : G4} {sm : S3} {st : St} (h : GI k A D op sm st) (hk2 : k ≤ 100) : okSt 1000000 st := by
  rcases Nat.eq_zero_or_pos k with hk | hk
  · rw [(h.start hk).2.1]; exact ⟨nofun, nofun⟩
  · rw [(h.has hk).1]
    exact ⟨fun g hg => by injection hg with hg; rw [← hg]; exact bdG_ok (h.op_bd hk hk2), fun g hg => bdG_ok (h.bd g (List.mem_of_getLast? hg))⟩
theorem not_bad {k : Nat} {A c : Int} (hk : k ≤ 100) (h0 : 0 ≤ A) (h1 : A ≤ 6553500) (c0 : -2147483648 ≤ c) (c1 : c ≤ 2154037147) : ¬ badA (k : Int) A c false := by
  unfold badA
  rintro (h | h | h | h | h | h | h)
  · cases h
  all_goals omega
theorem gi_first {A : Int} {D : List G4} {op : G4} {sm : S3} {st : St} (b : Int) (h : GI 0 A D op sm st) (g c : Int) (g0 : 0 ≤ g) (g1 : g ≤ 65535) (c0 : -2147483648 ≤ c) (c1 : c ≤ 65535 + 2147483647) :
    gstep b st 0 (A + g) c false = ((some (A + g, A + g, c, 0), none), 0, 0, 0, false) ∧ GI 1 (A + g) D (A + g, A + g, c, 0) sm (some (A + g, A + g, c, 0), none) := by
  obtain ⟨rfl, rfl, rfl⟩ := h.start rfl
  have a0 := h.at0
  have a1 := h.at1
  refine ⟨?_, by omega, by omega, (fun h => by cases h), fun _ => ⟨rfl, rfl, by simp only; omega, by simp only; omega, c0, by simp only; omega, by simp, by simp⟩, fun _ => rfl, nofun, nofun, by simp⟩
  unfold gstep
  have hn : ¬ badA 0 (A + g) c false := not_bad (k := 0) (by omega) (by omega) (by omega) c0 (by omega)
  rw [if_neg hn]
theorem mx_right {a b : Int} (h : a ≤ b) : mx a b = b := by unfold mx; split <;> omega
theorem gi_in {k : Nat} {A : Int} {D : List G4} {op : G4} {sm : S3} {st : St} (b : Int) (h : GI k A D op sm st) (hk : 0 < k) (hk2 : k < 100) (g c : Int) (g0 : 0 ≤ g) (g1 : g ≤ 65535) (c0 : -2147483648 ≤ c) (c1 : c ≤ 65535 * ((k + 1 : Nat) : Int) + 2147483647) (hin : A + g - op.1 ≤ b) :
    gstep b st k (A + g) c false = ((some (op.1, A + g, mx op.2.2.1 c, op.2.2.2 + k), st.2), 0, 0, 0, false) ∧ GI (k + 1) (A + g) D (op.1, A + g, mx op.2.2.1 c, op.2.2.2 + k) sm (some (op.1, A + g, mx op.2.2.1 c, op.2.2.2 + k), st.2) := by
  obtain ⟨rfl, h2, h3, h4, h5, h6, h7, h8⟩ := h.has hk
  have a0 := h.at0
  have a1 := h.at1
  have hm : mx op.2.2.1 c = op.2.2.1 ∨ mx op.2.2.1 c = c := by unfold mx; split <;> simp
  have hm2 : op.2.2.1 ≤ mx op.2.2.1 c ∧ c ≤ mx op.2.2.1 c := by unfold mx; split <;> omega
  refine ⟨?_, by omega, by omega, (fun h => by cases h), fun _ => ⟨rfl, rfl, h3, by simp only; omega, by simp only; omega, by simp only; omega, by simp only; omega, by simp only; omega⟩, h.nil, fun z hz => ?_, h.bd, by have := h.len; omega⟩
  · unfold gstep
    rw [if_neg (not_bad (by omega) (by omega) (by omega) c0 (by omega))]
    obtain ⟨f, l, q, s⟩ := op
    simp only at h2 h4 hin ⊢
    rw [if_neg (by omega), if_pos hin, mx_right (by omega)]
  · obtain ⟨z1, z2, z3⟩ := h.cons z hz
    exact ⟨by simp only; omega, z2, z3⟩
theorem clamp_in {a : Int} (h0 : -9223372036854775808 ≤ a) (h1 : a ≤ 9223372036854775807) : Sat.clamp64 a = a := by
  unfold Sat.clamp64
  rw [if_neg (by omega), if_neg (by omega)]
theorem gi_new {k : Nat} {A : Int} {D : List G4} {op : G4} {sm : S3} {st : St} (b : Int) (h : GI k A D op sm st) (hk : 0 < k) (hk2 : k < 100) (g c : Int) (g0 : 0 ≤ g) (g1 : g ≤ 65535) (c0 : -2147483648 ≤ c) (c1 : c ≤ 65535 * ((k + 1 : Nat) : Int) + 2147483647) (hb : 0 ≤ b) (hout : ¬ A + g - op.1 ≤ b) :
    (D = [] → gstep b st k (A + g) c false = ((some (A + g, A + g, c, (k : Int)), some op), 0, 0, 0, false) ∧ GI (k + 1) (A + g) (D ++ [op]) (A + g, A + g, c, (k : Int)) sm (some (A + g, A + g, c, (k : Int)), some op)) ∧
    (∀ z d, D.getLast? = some z → D.head? = some d → gstep b st k (A + g) c false = ((some (A + g, A + g, c, (k : Int)), some op), op.2.1 - z.2.1, op.2.2.1 - z.2.2.1, op.2.2.2 - z.2.2.2, true) ∧
      0 ≤ op.2.1 - z.2.1 ∧ sm.1 + (op.2.1 - z.2.1) = op.2.1 - d.2.1 ∧ sm.2.1 + (op.2.2.1 - z.2.2.1) = op.2.2.1 - d.2.2.1 ∧ sm.2.2 + (op.2.2.2 - z.2.2.2) = op.2.2.2 - d.2.2.2 ∧
      GI (k + 1) (A + g) (D ++ [op]) (A + g, A + g, c, (k : Int)) (op.2.1 - d.2.1, op.2.2.1 - d.2.2.1, op.2.2.2 - d.2.2.2) (some (A + g, A + g, c, (k : Int)), some op)) := by
  obtain ⟨rfl, h2, h3, h4, h5, h6, h7, h8⟩ := h.has hk
  have hop := h.op_bd hk (by omega)
  have a0 := h.at0
  have a1 := h.at1
  have hbd : ∀ x ∈ D ++ [op], bdG x := fun x hx => by
    rcases List.mem_append.1 hx with hx | hx
    · exact h.bd x hx
    · simp at hx; rw [hx]; exact hop
  have hlast : (D ++ [op]).getLast? = some op := by simp
  have base : ∀ sm', (∀ z, (D ++ [op]).getLast? = some z → ∃ d, (D ++ [op]).head? = some d ∧ sm' = (z.2.1 - d.2.1, z.2.2.1 - d.2.2.1, z.2.2.2 - d.2.2.2)) → GI (k + 1) (A + g) (D ++ [op]) (A + g, A + g, c, (k : Int)) sm' (some (A + g, A + g, c, (k : Int)), some op) := fun sm' hs =>
    ⟨by omega, by omega, (fun h => by cases h), fun _ => ⟨by rw [hlast], rfl, by simp only; omega, by simp only; omega, c0, c1, by simp only; omega, by simp only; omega⟩, (fun h => by simp at h), fun z hz => by
      rw [hlast] at hz
      injection hz with hz
      subst hz
      exact ⟨by simp only; omega, by simp only; omega, hs op hlast⟩, hbd, by have := h.len; simp; omega⟩
  refine ⟨fun hD => ?_, fun z d hz hd => ?_⟩
  · subst hD
    refine ⟨?_, base sm fun z hz => ⟨op, rfl, ?_⟩⟩
    · unfold gstep
      rw [if_neg (not_bad (by omega) (by omega) (by omega) c0 (by omega))]
      obtain ⟨f, l, q, s⟩ := op
      simp only at h2 h4 hout ⊢
      rw [if_neg (by omega), if_neg hout]
      rfl
    · simp at hz
      subst hz
      rw [h.nil rfl]
      simp
  · have hzb := h.bd z (List.mem_of_getLast? hz)
    have hdb := h.bd d (List.mem_of_head? hd)
    obtain ⟨z1, z2, d', hd', z3⟩ := h.cons z hz
    rw [hd] at hd'
    injection hd' with hd'
    subst hd'
    unfold bdG at hop hzb hdb
    refine ⟨?_, by omega, by rw [z3]; simp only; omega, by rw [z3]; simp only; omega, by rw [z3]; simp only; omega, base _ fun z' hz' => ⟨d, by
      cases D with
      | nil => cases hz
      | cons x D => simpa using hd, by
      rw [hlast] at hz'
      injection hz' with hz'
      rw [← hz']⟩⟩
    unfold gstep
    rw [if_neg (not_bad (by omega) (by omega) (by omega) c0 (by omega)), hz]
    obtain ⟨f, l, q, s⟩ := op
    obtain ⟨zf, zl, zq, zs⟩ := z
    simp only at h2 h4 hout hop hzb ⊢
    rw [if_neg (by omega), if_neg hout, clamp_in (by omega) (by omega), clamp_in (by omega) (by omega)]
theorem gi_all {k m' : Nat} {A : Int} {D D' : List G4} {op op' : G4} {sm : S3} {st : St} (b : Int) (h : GI k A D op sm st) (hk2 : k < 100) (g c : Int) (g0 : 0 ≤ g) (g1 : g ≤ 65535) (c0 : -2147483648 ≤ c) (c1 : c ≤ 65535 * ((k + 1 : Nat) : Int) + 2147483647) (hb : 0 ≤ b) (hm : m' = D'.length)
    (hkind : (k = 0 ∧ D' = D ∧ op' = (A + g, A + g, c, 0)) ∨ (0 < k ∧ A + g - op.1 ≤ b ∧ D' = D ∧ op' = (op.1, A + g, mx op.2.2.1 c, op.2.2.2 + k)) ∨ (0 < k ∧ ¬ A + g - op.1 ≤ b ∧ D' = D ++ [op] ∧ op' = (A + g, A + g, c, (k : Int)))) :
    ∃ (st' : St) (d0 d1 d2 : Int) (ok : Bool) (sm' : S3), gstep b st k (A + g) c false = (st', d0, d1, d2, ok) ∧ GI (k + 1) (A + g) D' op' sm' st' ∧
      ((ok = false ∧ sm' = sm ∧ (m' < 2 ∨ (2 ≤ m' ∧ ¬ op'.2.2.2 = (k : Int)))) ∨
       (ok = true ∧ 0 < k ∧ 2 ≤ m' ∧ op' = (A + g, A + g, c, (k : Int)) ∧ ¬ A + g - op.1 ≤ b ∧ 0 ≤ d0 ∧ bdG op ∧ ∃ d, bdG d ∧ D'[0]? = some d ∧ D'[m' - 1]? = some op ∧ sm' = (op.2.1 - d.2.1, op.2.2.1 - d.2.2.1, op.2.2.2 - d.2.2.2) ∧
         sm.1 + d0 = op.2.1 - d.2.1 ∧ sm.2.1 + d1 = op.2.2.1 - d.2.2.1 ∧ sm.2.2 + d2 = op.2.2.2 - d.2.2.2)) := by
  rcases hkind with ⟨rfl, rfl, rfl⟩ | ⟨hk, hin, rfl, rfl⟩ | ⟨hk, hout, rfl, rfl⟩
  · obtain ⟨h1, h2⟩ := gi_first b h g c g0 g1 c0 (by omega)
    refine ⟨_, 0, 0, 0, false, sm, h1, h2, .inl ⟨rfl, rfl, .inl ?_⟩⟩
    rw [hm, (h.start rfl).1]
    decide
  · obtain ⟨h1, h2⟩ := gi_in b h hk hk2 g c g0 g1 c0 c1 hin
    refine ⟨_, 0, 0, 0, false, sm, h1, h2, .inl ⟨rfl, rfl, ?_⟩⟩
    rcases Nat.lt_or_ge m' 2 with h3 | h3
    · exact .inl h3
    · refine .inr ⟨h3, ?_⟩
      obtain ⟨z, hz⟩ : ∃ z, D'.getLast? = some z := by
        cases D' with
        | nil => simp at hm; omega
        | cons x D => exact ⟨_, List.getLast?_cons⟩
      have := (h.cons z hz).1
      simp only
      omega
  · obtain ⟨h1, h2⟩ := gi_new b h hk hk2 g c g0 g1 c0 c1 hb hout
    cases D with
    | nil =>
      obtain ⟨h3, h4⟩ := h1 rfl
      exact ⟨_, 0, 0, 0, false, sm, h3, h4, .inl ⟨rfl, rfl, .inl (by simp at hm; omega)⟩⟩
    | cons d D =>
      obtain ⟨z, hz⟩ : ∃ z, (d :: D).getLast? = some z := ⟨_, List.getLast?_cons⟩
      obtain ⟨h3, h4, h5, h6, h7, h8⟩ := h2 z d hz rfl
      have hl : m' = D.length + 2 := by rw [hm]; simp
      refine ⟨_, _, _, _, true, _, h3, h8, .inr ⟨rfl, hk, by omega, rfl, hout, h4, h.op_bd hk (by omega), d, h.bd d (by simp), rfl, ?_, rfl, h5, h6, h7⟩⟩
      rw [hl, show D.length + 2 - 1 = (d :: D).length by simp]
      simp
end Go.Proofs.Ytdpaknpiedoblaa.Group
