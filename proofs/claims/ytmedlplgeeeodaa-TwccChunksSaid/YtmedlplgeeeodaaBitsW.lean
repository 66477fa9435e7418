/- What the writer of bits comes to, bit by bit: the program's and the reference's; no condition but the ranges in each. -/
import Derived.Test.YtmedlplgeeeodaaProg
import Derived.Test.YtmedlplgeeeodaaPlain
import Derived.Test.YtmedlplgeeeodaaHeap
import Derived.Lib.Hide
import Derived.ScopeJumps
namespace Go.Proofs.Ytmedlplgeeeodaa.Bits
open Go.RowKit Go.Proofs.Ytmedlplgeeeodaa.Plain Go.Proofs.Ytmedlplgeeeodaa.Heap

/-- A byte of bits: eight of a list, from a place on. -/
def oct (L : List Int) (i : Nat) : Int :=
  L.getD (8 * i) 0 * 128 + L.getD (8 * i + 1) 0 * 64 + L.getD (8 * i + 2) 0 * 32 + L.getD (8 * i + 3) 0 * 16 + L.getD (8 * i + 4) 0 * 8 + L.getD (8 * i + 5) 0 * 4 + L.getD (8 * i + 6) 0 * 2 + L.getD (8 * i + 7) 0
/-- Bits, laid into bytes, the highest of each first; 0 behind. -/
def pk (L : List Int) : List Int := (List.range ((L.length + 7) / 8)).map (oct L)
def IsBits (L : List Int) : Prop := ∀ x ∈ L, x = 0 ∨ x = 1
theorem IsBits.at_ {L : List Int} (h : IsBits L) (i : Nat) : L.getD i 0 = 0 ∨ L.getD i 0 = 1 := by
  rw [List.getD_eq_getElem?_getD]
  rcases Nat.lt_or_ge i L.length with hi | hi
  · rw [List.getElem?_eq_getElem hi]; exact h _ (List.getElem_mem hi)
  · rw [List.getElem?_eq_none hi]; exact .inl rfl
theorem pk_length (L : List Int) : (pk L).length = (L.length + 7) / 8 := by simp [pk]
theorem pk_get (L : List Int) (i : Nat) (h : i < (L.length + 7) / 8) : (pk L).getD i 0 = oct L i := by
  simp [pk, List.getD_eq_getElem?_getD, h]
theorem oct_bd {L : List Int} (h : IsBits L) (i : Nat) : 0 ≤ oct L i ∧ oct L i ≤ 255 := by
  have h0 := h.at_ (8 * i)
  have h1 := h.at_ (8 * i + 1)
  have h2 := h.at_ (8 * i + 2)
  have h3 := h.at_ (8 * i + 3)
  have h4 := h.at_ (8 * i + 4)
  have h5 := h.at_ (8 * i + 5)
  have h6 := h.at_ (8 * i + 6)
  have h7 := h.at_ (8 * i + 7)
  unfold oct
  omega
theorem getD_snoc (L : List Int) (b : Int) (i : Nat) : (L ++ [b]).getD i 0 = if i < L.length then L.getD i 0 else if i = L.length then b else 0 := by
  rw [List.getD_eq_getElem?_getD, List.getD_eq_getElem?_getD]
  rcases Nat.lt_trichotomy i L.length with h | h | h
  · rw [if_pos h, List.getElem?_append_left h]
  · subst h; simp
  · rw [if_neg (by omega), if_neg (by omega), List.getElem?_eq_none (by simp; omega)]; rfl
theorem getD_over (L : List Int) (i : Nat) (h : L.length ≤ i) : L.getD i 0 = 0 := by
  rw [List.getD_eq_getElem?_getD, List.getElem?_eq_none h]; rfl
/-- What a byte is behind one bit more. -/
theorem oct_snoc (L : List Int) (b : Int) (i : Nat) : oct (L ++ [b]) i = if i = L.length / 8 then oct L i + b * 2 ^ (7 - L.length % 8) else oct L i := by
  have hm : L.length = 8 * (L.length / 8) + L.length % 8 := by omega
  generalize hq : L.length / 8 = q at *
  generalize hr : L.length % 8 = r at *
  have hr8 : r < 8 := by omega
  have hz : ∀ j, L.length ≤ j → L.getD j 0 = 0 := getD_over L
  have hs := getD_snoc L b
  have e0 := hs (8 * i)
  have e1 := hs (8 * i + 1)
  have e2 := hs (8 * i + 2)
  have e3 := hs (8 * i + 3)
  have e4 := hs (8 * i + 4)
  have e5 := hs (8 * i + 5)
  have e6 := hs (8 * i + 6)
  have e7 := hs (8 * i + 7)
  have z0 := hz (8 * i)
  have z1 := hz (8 * i + 1)
  have z2 := hz (8 * i + 2)
  have z3 := hz (8 * i + 3)
  have z4 := hz (8 * i + 4)
  have z5 := hz (8 * i + 5)
  have z6 := hz (8 * i + 6)
  have z7 := hz (8 * i + 7)
  unfold oct
  generalize L.getD (8 * i) 0 = l0 at *
  generalize L.getD (8 * i + 1) 0 = l1 at *
  generalize L.getD (8 * i + 2) 0 = l2 at *
  generalize L.getD (8 * i + 3) 0 = l3 at *
  generalize L.getD (8 * i + 4) 0 = l4 at *
  generalize L.getD (8 * i + 5) 0 = l5 at *
  generalize L.getD (8 * i + 6) 0 = l6 at *
  generalize L.getD (8 * i + 7) 0 = l7 at *
  rw [e0, e1, e2, e3, e4, e5, e6, e7]
  clear hs hz e0 e1 e2 e3 e4 e5 e6 e7
  by_cases h : i = q
  · subst h
    rw [if_pos rfl]
    have hr' : r = 0 ∨ r = 1 ∨ r = 2 ∨ r = 3 ∨ r = 4 ∨ r = 5 ∨ r = 6 ∨ r = 7 := by omega
    rcases hr' with rfl | rfl | rfl | rfl | rfl | rfl | rfl | rfl
    all_goals
      simp only [Nat.reduceSub, Int.reducePow]
      omega
  · rw [if_neg h]
    omega
/-- The bytes behind one bit more: a byte more first, if all are full. -/
theorem pk_snoc (L : List Int) (b : Int) : pk (L ++ [b]) = ((if L.length % 8 = 0 then pk L ++ [0] else pk L).set (L.length / 8) (oct L (L.length / 8) + b * 2 ^ (7 - L.length % 8))) := by
  refine List.ext_getElem? fun i => ?_
  have hl : (pk (L ++ [b])).length = (L.length + 1 + 7) / 8 := by rw [pk_length]; simp
  have hl2 : (if L.length % 8 = 0 then pk L ++ [0] else pk L).length = (L.length + 1 + 7) / 8 := by
    split
    · rw [List.length_append, pk_length]; simp; omega
    · rw [pk_length]; omega
  rcases Nat.lt_or_ge i ((L.length + 1 + 7) / 8) with hi | hi
  · rw [List.getElem?_eq_getElem (by omega), List.getElem?_eq_getElem (by rw [List.length_set]; omega)]
    congr 1
    have g1 : (pk (L ++ [b]))[i]'(by omega) = oct (L ++ [b]) i := by simp [pk]
    rw [g1, oct_snoc, List.getElem_set]
    by_cases h : i = L.length / 8
    · rw [if_pos h, if_pos h.symm, h]
    · rw [if_neg h, if_neg (Ne.symm h)]
      have hi2 : i < (L.length + 7) / 8 := by omega
      split
      · rw [List.getElem_append_left (by rw [pk_length]; exact hi2)]; simp [pk]
      · simp [pk]
  · rw [List.getElem?_eq_none (by omega), List.getElem?_eq_none (by rw [List.length_set]; omega)]

/-- The writer at block p holds the bits L; its row lies in block g. -/
def WR (t : TypeId) (w : World) (p : Nat) (g : Option Nat) (L : List Int) : Prop :=
  IsBits L ∧ g ≠ some p ∧ ∃ v, v.ownBlock = g ∧ w.heap[p]? = some (.cells #[v, .int .i64 (L.length : Int)] t (0, 0)) ∧ w.ownsRow 0 5 1 v (pk L).length (nums .u8 (pk L))

theorem or_byte (a b : Int) (r : Nat) (hr : r < 8) (hb : b = 0 ∨ b = 1) (ha : 0 ≤ a) (ha' : a ≤ 255) (hz : a % 2 ^ (8 - r) = 0) : Go.bits .or .u8 a (b * 2 ^ (7 - r)) = a + b * 2 ^ (7 - r) := by
  obtain ⟨A, rfl⟩ := Int.eq_ofNat_of_zero_le ha
  have hr' : r = 0 ∨ r = 1 ∨ r = 2 ∨ r = 3 ∨ r = 4 ∨ r = 5 ∨ r = 6 ∨ r = 7 := by omega
  rcases hb with rfl | rfl
  · rw [Int.zero_mul, u8_or _ _ (by omega) (by omega) (by omega) (by omega)]; simp
  · rcases hr' with rfl | rfl | rfl | rfl | rfl | rfl | rfl | rfl
    all_goals
      simp only [Nat.reduceSub, Int.reducePow, Int.one_mul] at hz ⊢
      rw [u8_or _ _ (by omega) (by omega) (by omega) (by omega), Int.toNat_natCast]
    · rw [nat_join 8 _ _ (by omega) (by simp)]; simp
    · rw [nat_join 7 _ _ (by omega) (by simp)]; simp
    · rw [nat_join 6 _ _ (by omega) (by simp)]; simp
    · rw [nat_join 5 _ _ (by omega) (by simp)]; simp
    · rw [nat_join 4 _ _ (by omega) (by simp)]; simp
    · rw [nat_join 3 _ _ (by omega) (by simp)]; simp
    · rw [nat_join 2 _ _ (by omega) (by simp)]; simp
    · rw [nat_join 1 _ _ (by omega) (by simp)]; simp
theorem oct_mod (L : List Int) : oct L (L.length / 8) % 2 ^ (8 - L.length % 8) = 0 := by
  have hm : L.length = 8 * (L.length / 8) + L.length % 8 := by omega
  generalize hq : L.length / 8 = q at *
  generalize hr : L.length % 8 = r at *
  have hr8 : r < 8 := by omega
  have hz : ∀ j, L.length ≤ j → L.getD j 0 = 0 := getD_over L
  have z0 := hz (8 * q)
  have z1 := hz (8 * q + 1)
  have z2 := hz (8 * q + 2)
  have z3 := hz (8 * q + 3)
  have z4 := hz (8 * q + 4)
  have z5 := hz (8 * q + 5)
  have z6 := hz (8 * q + 6)
  have z7 := hz (8 * q + 7)
  unfold oct
  generalize L.getD (8 * q) 0 = l0 at *
  generalize L.getD (8 * q + 1) 0 = l1 at *
  generalize L.getD (8 * q + 2) 0 = l2 at *
  generalize L.getD (8 * q + 3) 0 = l3 at *
  generalize L.getD (8 * q + 4) 0 = l4 at *
  generalize L.getD (8 * q + 5) 0 = l5 at *
  generalize L.getD (8 * q + 6) 0 = l6 at *
  generalize L.getD (8 * q + 7) 0 = l7 at *
  have hr' : r = 0 ∨ r = 1 ∨ r = 2 ∨ r = 3 ∨ r = 4 ∨ r = 5 ∨ r = 6 ∨ r = 7 := by omega
  rcases hr' with rfl | rfl | rfl | rfl | rfl | rfl | rfl | rfl
  all_goals
    simp only [Nat.reduceSub, Int.reducePow]
    omega

theorem WR.parts {t : TypeId} {w : World} {p : Nat} {v : Value} {n : Int} (h : w.heap[p]? = some (.cells #[v, .int .i64 n] t (0, 0))) :
    w.cell? ⟨p, 0, none⟩ = some v ∧ w.cell? ⟨p, 1, none⟩ = some (.int .i64 n) ∧ w.frozen? ⟨p, 0, none⟩ = false ∧ w.frozen? ⟨p, 1, none⟩ = false ∧ p < w.heap.size := by
  refine ⟨by simp [World.cell?, h], by simp [World.cell?, h], by simp [World.frozen?, h], by simp [World.frozen?, h], (Array.getElem?_eq_some_iff.1 h).1⟩
/-- The last part of 'one': a byte gets its bit, and the count goes on. -/
theorem one_end {t : TypeId} (L : List Int) (b : Int) (p g m c : Nat) (xs : List Int) (w : World) (hb : b = 0 ∨ b = 1) (hL : IsBits L) (hgp : g ≠ p)
    (hp : w.heap[p]? = some (.cells #[.slice (some ⟨g, 0, none⟩) m c, .int .i64 (L.length : Int)] t (0, 0))) (hown : w.ownsRow 0 5 1 (.slice (some ⟨g, 0, none⟩) m c) m (nums .u8 xs))
    (hx : xs.set (L.length / 8) (oct L (L.length / 8) + b * 2 ^ (7 - L.length % 8)) = pk (L ++ [b])) (u : Int) (hu : u = oct L (L.length / 8) + b * 2 ^ (7 - L.length % 8)) :
    WR t ((w.setCell ⟨g, L.length / 8, none⟩ (.int .u8 u)).setCell ⟨p, 1, none⟩ (.int .i64 ((L.length : Int) + 1))) p (some g) (L ++ [b]) := by
  have hg : g < w.heap.size := (hown.lt g rfl).2
  have hm : xs.length = m := by have := hown.1; simpa [nums] using this
  have hpk : (pk (L ++ [b])).length = m := by rw [← hx, List.length_set, hm]
  refine ⟨fun x h => ?_, by simpa using hgp, .slice (some ⟨g, 0, none⟩) m c, rfl, ?_, ?_⟩
  · rcases List.mem_append.1 h with h | h
    · exact hL x h
    · simp at h; subst h; exact hb
  · have h1 : (w.setCell ⟨g, L.length / 8, none⟩ (.int .u8 u)).heap[p]? = some (.cells #[.slice (some ⟨g, 0, none⟩) m c, .int .i64 (L.length : Int)] t (0, 0)) := (Below.heap_setCell w ⟨g, L.length / 8, none⟩ _ p (Ne.symm hgp)).trans hp
    have h2 : ((L ++ [b]).length : Int) = (L.length : Int) + 1 := by simp
    rw [h2]
    generalize (w.setCell ⟨g, L.length / 8, none⟩ (.int .u8 u)) = w1 at *
    simp [World.setCell, Array.getElem?_modify, h1]
  · have h1 := World.ownsRow.stored (w := w) (g := g) (cap := c) (n := m) hown (L.length / 8) (.int .u8 u)
    rw [hpk, ← hx, ← hu]
    have h2 : (nums .u8 xs).set (L.length / 8) (.int .u8 u) = nums .u8 (xs.set (L.length / 8) u) := by simp [nums, List.map_set]
    rw [h2] at h1
    exact (Kept.setCell (S := fun k => k = p) (Kept.refl _ _) (p := ⟨p, 1, none⟩) (.inl rfl) _).own h1.1 (fun k hk => by simp [Value.ownBlock] at hk; omega)
theorem WR.drew {t : TypeId} {w : World} {p : Nat} {g : Option Nat} {L : List Int} (h : WR t w p g L) : WR t w.drew p g L := h
theorem WR.drewN {t : TypeId} {w : World} {p : Nat} {g : Option Nat} {L : List Int} (h : WR t w p g L) (n : Nat) : WR t (w.drewN n) p g L := h
theorem set_full (L : List Int) (b : Int) (h8 : L.length % 8 = 0) : (pk L ++ [0]).set (L.length / 8) (oct L (L.length / 8) + b * 2 ^ (7 - L.length % 8)) = pk (L ++ [b]) := by
  rw [pk_snoc, if_pos h8]
theorem set_part (L : List Int) (b : Int) (h8 : ¬ L.length % 8 = 0) : (pk L).set (L.length / 8) (oct L (L.length / 8) + b * 2 ^ (7 - L.length % 8)) = pk (L ++ [b]) := by
  rw [pk_snoc, if_neg h8]
theorem oct_full (L : List Int) (h8 : L.length % 8 = 0) : oct L (L.length / 8) = 0 := by
  have hz : ∀ j, L.length ≤ j → L.getD j 0 = 0 := getD_over L
  unfold oct
  rw [hz _ (by omega), hz _ (by omega), hz _ (by omega), hz _ (by omega), hz _ (by omega), hz _ (by omega), hz _ (by omega), hz _ (by omega)]
  rfl
theorem byte_small (b : Int) (n : Nat) (hb : b = 0 ∨ b = 1) : b * 2 ^ (7 - n % 8) % 256 = b * 2 ^ (7 - n % 8) := by
  have h1 : 2 ^ (7 - n % 8) ≤ 2 ^ 7 := Nat.pow_le_pow_right (by omega) (by omega)
  have h2 : (2 : Int) ^ (7 - n % 8) = ((2 ^ (7 - n % 8) : Nat) : Int) := by simp
  rw [h2]
  generalize 2 ^ (7 - n % 8) = q at *
  rcases hb with rfl | rfl
  · simp
  · omega
theorem byte_u32 (b : Int) (n : Nat) (hb : b = 0 ∨ b = 1) : IntKind.u8.wrap (b * 2 ^ (7 - n % 8)) = b * 2 ^ (7 - n % 8) := by rw [IntKind.wrap_u8', byte_small b n hb]
set_option maxHeartbeats 4000000 in
theorem one_full (L : List Int) (b : Int) (p : Nat) (g : Option Nat) (w : World) (hb : b = 0 ∨ b = 1) (hw : WR 70 w p g L) (hn : L.length < 1000000) (h8 : L.length % 8 = 0) :
    Calls Try.prog 41 #[.pointer (some ⟨p, 0, none⟩), .int .u32 b] w fun e w' => e = .returned (.tuple #[]) ∧ ∃ g', WR 70 w' p g' (L ++ [b]) ∧
      Kept (fun k => k = p ∨ g = some k) w w' ∧ (g' = g ∨ ∃ k, g' = some k ∧ w.heap.size ≤ k) := by
  obtain ⟨hL, hgp, v, hv, hcell, hown⟩ := hw
  obtain ⟨hc0, hc1, hf0, hf1, hp⟩ := WR.parts hcell
  have HC := Lib.hid hcell
  have HO := Lib.hid hown
  have HV := Lib.hid hv
  have HG := Lib.hid hgp
  have n8 : (L.length : Int) % 8 = 0 := by omega
  have HL : Hid ((pk L).length = L.length / 8) := by rw [pk_length]; show _ = _; omega
  clear hcell hown hv hgp
  go_enter Try.func41, Try.ntmps41
  go_wp2_with (first
    | (at_builtin
       refine wpList_app rfl (.tmp 14) (.tmp 15) 68 rfl 0 5 (.int .u8 0) 1 1 Try.underlying68 (by kernel_rfl) rfl (by omega) v (pk L).length (nums .u8 (pk L)) rfl (HO.out.alloc _) (some ⟨w.heap.size, 0, none⟩) 1 1 [.int .u8 0] rfl (Rd.one _ _ _) (by simp [Value.oneCell']) (by have := HL.out; simp only [maxLen]; omega) (by have := HL.out; omega) (Nat.zero_le _) ?_
       intro v1 w1 hown hg hat
       obtain ⟨g1, c1, rfl⟩ := own_form hown (by omega)
       have hh1 : w1.heap[p]? = some (.cells #[v, .int .i64 (L.length : Int)] 70 (0, 0)) := (hg.block p (by simp; omega) (by rw [HV.out]; exact Ne.symm HG.out)).trans ((Below.heap_alloc w _ p hp).trans HC.out)
       have hg1 : g1 ≠ p := by
         rcases hat with h | h
         · rw [HV.out] at h; intro e; apply HG.out; rw [← h, e]; rfl
         · simp [Value.ownBlock] at h; omega
       obtain ⟨k0, k1, l0, l1, hp1⟩ := WR.parts hh1
       have H1 := Lib.hid hh1
       have HO1 := Lib.hid hown
       have HT1 := Lib.hid hat
       have HK1 := Lib.hid hg
       clear hh1 hown hat hg))
  have hh2 : (w1.setCell ⟨p, 0, none⟩ (.slice (some ⟨g1, 0, none⟩) ((pk L).length + 1) c1)).heap[p]? = some (.cells #[.slice (some ⟨g1, 0, none⟩) ((pk L).length + 1) c1, .int .i64 (L.length : Int)] 70 (0, 0)) := by
    simp [World.setCell, Array.getElem?_modify, H1.out]
  have K2 : Kept (fun k => k = p ∨ g = some k) w (w1.setCell ⟨p, 0, none⟩ (.slice (some ⟨g1, 0, none⟩) ((pk L).length + 1) c1)) :=
    (((Kept.refl _ w).alloc _).trans (Kept.of_grown HK1.out) (fun i _ h => .inr (HV.out ▸ h))).setCell (p := ⟨p, 0, none⟩) (.inl (.inl rfl)) _
  have O2 : (w1.setCell ⟨p, 0, none⟩ (.slice (some ⟨g1, 0, none⟩) ((pk L).length + 1) c1)).ownsRow 0 5 1 (.slice (some ⟨g1, 0, none⟩) ((pk L).length + 1) c1) ((pk L).length + 1) (nums .u8 (pk L ++ [0])) := by
    rw [nums_append]
    exact (Kept.setCell (S := fun k => k = p) (Kept.refl _ w1) (p := ⟨p, 0, none⟩) (.inl rfl) _).own HO1.out (fun k hk => by simp [Value.ownBlock] at hk; omega)
  have S1 := HK1.out.size
  generalize w1.setCell ⟨p, 0, none⟩ (.slice (some ⟨g1, 0, none⟩) ((pk L).length + 1) c1) = w2 at *
  have HH2 := Lib.hid hh2
  have HK2 := Lib.hid K2
  have HO2 := Lib.hid O2
  obtain ⟨r0, r1, s0, s1, hp2⟩ := WR.parts hh2
  have hm : L.length / 8 < ((pk L).length + 1) * 1 := by have := HL.out; omega
  have r2 : w2.cell? ⟨g1, L.length / 8, none⟩ = some (.int .u8 0) := by
    rw [O2.cellAt _ hm]
    have e : L.length / 8 = (pk L).length := by have := HL.out; omega
    rw [e, nums_append]
    simp [nums]
  have s2 := O2.frozenAt (L.length / 8)
  have m0 : (L.length : Int) / 8 < ((pk L).length : Int) + 1 := by have := HL.out; omega
  have m1 : Int.tdiv (L.length : Int) 8 = (L.length : Int) / 8 := Int.tdiv_eq_ediv_of_nonneg (by omega)
  have m2 : Int.tmod (L.length : Int) 8 = (L.length : Int) % 8 := Int.tmod_eq_emod_of_nonneg (by omega)
  have m3 : IntKind.i64.wrap ((L.length : Int) / 8) = (L.length : Int) / 8 := IntWalk.i64_in _ (by omega)
  clear hh2 K2 O2 k0 k1 l0 l1 hp1 hc0 hc1 hf0 hf1 hm H1
  go_region
  go_wp2
  go_end0
  refine ⟨rfl, some g1, ?_, ?_, ?_⟩
  · refine (one_end L b p g1 _ c1 (pk L ++ [0]) w2 hb hL hg1 HH2.out HO2.out (set_full L b h8) _ ?_).drew
    have h := or_byte 0 b 0 (by omega) hb (by omega) (by omega) (by simp)
    rw [oct_full L h8, h8]
    simpa using h
  · exact (Kept.setCell (Kept.setCell HK2.out (p := ⟨g1, L.length / 8, none⟩) (by
      rcases HT1.out with h | h
      · rw [HV.out] at h; exact .inl (.inr h.symm)
      · simp [Value.ownBlock] at h; exact .inr (by show _ ≤ g1; omega)) _) (p := ⟨p, 1, none⟩) (.inl (.inl rfl)) _).drew
  · rcases HT1.out with h | h
    · rw [HV.out] at h; exact .inl h
    · simp [Value.ownBlock] at h; exact .inr ⟨g1, rfl, by omega⟩
set_option maxHeartbeats 4000000 in
theorem one_part (L : List Int) (b : Int) (p : Nat) (g : Option Nat) (w : World) (hb : b = 0 ∨ b = 1) (hw : WR 70 w p g L) (hn : L.length < 1000000) (h8 : ¬ L.length % 8 = 0) :
    Calls Try.prog 41 #[.pointer (some ⟨p, 0, none⟩), .int .u32 b] w fun e w' => e = .returned (.tuple #[]) ∧ ∃ g', WR 70 w' p g' (L ++ [b]) ∧
      Kept (fun k => k = p ∨ g = some k) w w' ∧ (g' = g ∨ ∃ k, g' = some k ∧ w.heap.size ≤ k) := by
  obtain ⟨hL, hgp, v, hv, hcell, hown⟩ := hw
  have hl : (pk L).length = L.length / 8 + 1 := by rw [pk_length]; omega
  obtain ⟨g1, c1, rfl⟩ := own_form hown (by omega)
  obtain rfl : g = some g1 := hv.symm
  have hg1 : g1 ≠ p := fun e => hgp (by rw [e])
  obtain ⟨r0, r1, s0, s1, hp⟩ := WR.parts hcell
  have r2 : w.cell? ⟨g1, L.length / 8, none⟩ = some (.int .u8 (oct L (L.length / 8))) := by
    rw [hown.cellAt _ (by omega)]
    have hd : L.length / 8 < (pk L).length := by omega
    have h := pk_get L (L.length / 8) (by omega)
    rw [List.getD_eq_getElem?_getD, List.getElem?_eq_getElem hd] at h
    simp only [Option.getD_some] at h
    simp [nums, List.getElem?_eq_getElem hd, h]
  have s2 := hown.frozenAt (L.length / 8)
  have hu := or_byte (oct L (L.length / 8)) b (L.length % 8) (by omega) hb (oct_bd hL _).1 (oct_bd hL _).2 (oct_mod L)
  have HC := Lib.hid hcell
  have HO := Lib.hid hown
  have HE := Lib.hid hu
  have n8 : ((L.length : Int) % 8 == 0) = false := beq_eq_false_iff_ne.2 (by omega)
  have m0 : (L.length : Int) / 8 < ((pk L).length : Int) := by omega
  have m1 : Int.tdiv (L.length : Int) 8 = (L.length : Int) / 8 := Int.tdiv_eq_ediv_of_nonneg (by omega)
  have m2 : Int.tmod (L.length : Int) 8 = (L.length : Int) % 8 := Int.tmod_eq_emod_of_nonneg (by omega)
  have m3 : IntKind.i64.wrap ((L.length : Int) / 8) = (L.length : Int) / 8 := IntWalk.i64_in _ (by omega)
  have m4 : IntKind.i64.wrap (7 - (L.length : Int) % 8) = 7 - (L.length : Int) % 8 := IntWalk.i64_in _ (by omega)
  have m5 : (0 : Int) ≤ 7 - (L.length : Int) % 8 := by omega
  have m6 : 7 - (L.length : Int) % 8 ≤ 8 := by omega
  clear hcell hown hv hgp hu hl
  go_enter Try.func41, Try.ntmps41
  go_wp2
  go_region
  go_wp2
  go_end0
  refine ⟨rfl, some g1, ?_, ?_, .inl rfl⟩
  · refine (one_end L b p g1 _ c1 (pk L) w hb hL hg1 HC.out HO.out (set_part L b h8) _ ?_).drew
    rw [byte_small b _ hb]
    exact HE.out
  · exact (Kept.setCell (Kept.setCell (Kept.refl _ w) (p := ⟨g1, L.length / 8, none⟩) (.inl (.inr rfl)) _) (p := ⟨p, 1, none⟩) (.inl (.inl rfl)) _).drew
set_option maxHeartbeats 4000000 in
theorem bit_full (L : List Int) (b : Int) (p : Nat) (g : Option Nat) (w : World) (hb : b = 0 ∨ b = 1) (hw : WR 74 w p g L) (hn : L.length < 1000000) (h8 : L.length % 8 = 0) :
    Calls Try.prog 46 #[.pointer (some ⟨p, 0, none⟩), .int .u8 b] w fun e w' => e = .returned (.tuple #[]) ∧ ∃ g', WR 74 w' p g' (L ++ [b]) ∧
      Kept (fun k => k = p ∨ g = some k) w w' ∧ (g' = g ∨ ∃ k, g' = some k ∧ w.heap.size ≤ k) := by
  obtain ⟨hL, hgp, v, hv, hcell, hown⟩ := hw
  obtain ⟨hc0, hc1, hf0, hf1, hp⟩ := WR.parts hcell
  have HC := Lib.hid hcell
  have HO := Lib.hid hown
  have HV := Lib.hid hv
  have HG := Lib.hid hgp
  have n8 : (L.length : Int) % 8 = 0 := by omega
  have HL : Hid ((pk L).length = L.length / 8) := by rw [pk_length]; show _ = _; omega
  clear hcell hown hv hgp
  go_enter Try.func46, Try.ntmps46
  go_wp2_with (first
    | (at_builtin
       refine wpList_app rfl (.tmp 14) (.tmp 15) 68 rfl 0 5 (.int .u8 0) 1 1 Try.underlying68 (by kernel_rfl) rfl (by omega) v (pk L).length (nums .u8 (pk L)) rfl (HO.out.alloc _) (some ⟨w.heap.size, 0, none⟩) 1 1 [.int .u8 0] rfl (Rd.one _ _ _) (by simp [Value.oneCell']) (by have := HL.out; simp only [maxLen]; omega) (by have := HL.out; omega) (Nat.zero_le _) ?_
       intro v1 w1 hown hg hat
       obtain ⟨g1, c1, rfl⟩ := own_form hown (by omega)
       have hh1 : w1.heap[p]? = some (.cells #[v, .int .i64 (L.length : Int)] 74 (0, 0)) := (hg.block p (by simp; omega) (by rw [HV.out]; exact Ne.symm HG.out)).trans ((Below.heap_alloc w _ p hp).trans HC.out)
       have hg1 : g1 ≠ p := by
         rcases hat with h | h
         · rw [HV.out] at h; intro e; apply HG.out; rw [← h, e]; rfl
         · simp [Value.ownBlock] at h; omega
       obtain ⟨k0, k1, l0, l1, hp1⟩ := WR.parts hh1
       have H1 := Lib.hid hh1
       have HO1 := Lib.hid hown
       have HT1 := Lib.hid hat
       have HK1 := Lib.hid hg
       clear hh1 hown hat hg))
  have hh2 : (w1.setCell ⟨p, 0, none⟩ (.slice (some ⟨g1, 0, none⟩) ((pk L).length + 1) c1)).heap[p]? = some (.cells #[.slice (some ⟨g1, 0, none⟩) ((pk L).length + 1) c1, .int .i64 (L.length : Int)] 74 (0, 0)) := by
    simp [World.setCell, Array.getElem?_modify, H1.out]
  have K2 : Kept (fun k => k = p ∨ g = some k) w (w1.setCell ⟨p, 0, none⟩ (.slice (some ⟨g1, 0, none⟩) ((pk L).length + 1) c1)) :=
    (((Kept.refl _ w).alloc _).trans (Kept.of_grown HK1.out) (fun i _ h => .inr (HV.out ▸ h))).setCell (p := ⟨p, 0, none⟩) (.inl (.inl rfl)) _
  have O2 : (w1.setCell ⟨p, 0, none⟩ (.slice (some ⟨g1, 0, none⟩) ((pk L).length + 1) c1)).ownsRow 0 5 1 (.slice (some ⟨g1, 0, none⟩) ((pk L).length + 1) c1) ((pk L).length + 1) (nums .u8 (pk L ++ [0])) := by
    rw [nums_append]
    exact (Kept.setCell (S := fun k => k = p) (Kept.refl _ w1) (p := ⟨p, 0, none⟩) (.inl rfl) _).own HO1.out (fun k hk => by simp [Value.ownBlock] at hk; omega)
  have S1 := HK1.out.size
  generalize w1.setCell ⟨p, 0, none⟩ (.slice (some ⟨g1, 0, none⟩) ((pk L).length + 1) c1) = w2 at *
  have HH2 := Lib.hid hh2
  have HK2 := Lib.hid K2
  have HO2 := Lib.hid O2
  obtain ⟨r0, r1, s0, s1, hp2⟩ := WR.parts hh2
  have hm : L.length / 8 < ((pk L).length + 1) * 1 := by have := HL.out; omega
  have r2 : w2.cell? ⟨g1, L.length / 8, none⟩ = some (.int .u8 0) := by
    rw [O2.cellAt _ hm]
    have e : L.length / 8 = (pk L).length := by have := HL.out; omega
    rw [e, nums_append]
    simp [nums]
  have s2 := O2.frozenAt (L.length / 8)
  have m0 : (L.length : Int) / 8 < ((pk L).length : Int) + 1 := by have := HL.out; omega
  have m1 : Int.tdiv (L.length : Int) 8 = (L.length : Int) / 8 := Int.tdiv_eq_ediv_of_nonneg (by omega)
  have m2 : Int.tmod (L.length : Int) 8 = (L.length : Int) % 8 := Int.tmod_eq_emod_of_nonneg (by omega)
  have m3 : IntKind.i64.wrap ((L.length : Int) / 8) = (L.length : Int) / 8 := IntWalk.i64_in _ (by omega)
  clear hh2 K2 O2 k0 k1 l0 l1 hp1 hc0 hc1 hf0 hf1 hm H1
  go_region
  go_wp2
  go_end0
  refine ⟨rfl, some g1, ?_, ?_, ?_⟩
  · refine (one_end L b p g1 _ c1 (pk L ++ [0]) w2 hb hL hg1 HH2.out HO2.out (set_full L b h8) _ ?_).drew
    have h := or_byte 0 b 0 (by omega) hb (by omega) (by omega) (by simp)
    rw [oct_full L h8, h8]
    simpa using h
  · exact (Kept.setCell (Kept.setCell HK2.out (p := ⟨g1, L.length / 8, none⟩) (by
      rcases HT1.out with h | h
      · rw [HV.out] at h; exact .inl (.inr h.symm)
      · simp [Value.ownBlock] at h; exact .inr (by show _ ≤ g1; omega)) _) (p := ⟨p, 1, none⟩) (.inl (.inl rfl)) _).drew
  · rcases HT1.out with h | h
    · rw [HV.out] at h; exact .inl h
    · simp [Value.ownBlock] at h; exact .inr ⟨g1, rfl, by omega⟩
set_option maxHeartbeats 4000000 in
theorem bit_part (L : List Int) (b : Int) (p : Nat) (g : Option Nat) (w : World) (hb : b = 0 ∨ b = 1) (hw : WR 74 w p g L) (hn : L.length < 1000000) (h8 : ¬ L.length % 8 = 0) :
    Calls Try.prog 46 #[.pointer (some ⟨p, 0, none⟩), .int .u8 b] w fun e w' => e = .returned (.tuple #[]) ∧ ∃ g', WR 74 w' p g' (L ++ [b]) ∧
      Kept (fun k => k = p ∨ g = some k) w w' ∧ (g' = g ∨ ∃ k, g' = some k ∧ w.heap.size ≤ k) := by
  obtain ⟨hL, hgp, v, hv, hcell, hown⟩ := hw
  have hl : (pk L).length = L.length / 8 + 1 := by rw [pk_length]; omega
  obtain ⟨g1, c1, rfl⟩ := own_form hown (by omega)
  obtain rfl : g = some g1 := hv.symm
  have hg1 : g1 ≠ p := fun e => hgp (by rw [e])
  obtain ⟨r0, r1, s0, s1, hp⟩ := WR.parts hcell
  have r2 : w.cell? ⟨g1, L.length / 8, none⟩ = some (.int .u8 (oct L (L.length / 8))) := by
    rw [hown.cellAt _ (by omega)]
    have hd : L.length / 8 < (pk L).length := by omega
    have h := pk_get L (L.length / 8) (by omega)
    rw [List.getD_eq_getElem?_getD, List.getElem?_eq_getElem hd] at h
    simp only [Option.getD_some] at h
    simp [nums, List.getElem?_eq_getElem hd, h]
  have s2 := hown.frozenAt (L.length / 8)
  have hu := or_byte (oct L (L.length / 8)) b (L.length % 8) (by omega) hb (oct_bd hL _).1 (oct_bd hL _).2 (oct_mod L)
  have HC := Lib.hid hcell
  have HO := Lib.hid hown
  have HE := Lib.hid hu
  have n8 : ((L.length : Int) % 8 == 0) = false := beq_eq_false_iff_ne.2 (by omega)
  have m0 : (L.length : Int) / 8 < ((pk L).length : Int) := by omega
  have m1 : Int.tdiv (L.length : Int) 8 = (L.length : Int) / 8 := Int.tdiv_eq_ediv_of_nonneg (by omega)
  have m2 : Int.tmod (L.length : Int) 8 = (L.length : Int) % 8 := Int.tmod_eq_emod_of_nonneg (by omega)
  have m3 : IntKind.i64.wrap ((L.length : Int) / 8) = (L.length : Int) / 8 := IntWalk.i64_in _ (by omega)
  have m4 : IntKind.i64.wrap (7 - (L.length : Int) % 8) = 7 - (L.length : Int) % 8 := IntWalk.i64_in _ (by omega)
  have m4' : IntKind.u64.wrap (7 - (L.length : Int) % 8) = 7 - (L.length : Int) % 8 := by rw [show ∀ n, IntKind.u64.wrap n = n % 18446744073709551616 from fun n => by simp [IntKind.wrap, IntKind.bits, IntKind.signed]]; omega
  have m5 : (0 : Int) ≤ 7 - (L.length : Int) % 8 := by omega
  have m6 : 7 - (L.length : Int) % 8 ≤ 8 := by omega
  clear hcell hown hv hgp hu hl
  go_enter Try.func46, Try.ntmps46
  go_wp2
  go_region
  go_wp2
  go_end0
  refine ⟨rfl, some g1, ?_, ?_, .inl rfl⟩
  · refine (one_end L b p g1 _ c1 (pk L) w hb hL hg1 HC.out HO.out (set_part L b h8) _ ?_).drew
    rw [byte_small b _ hb]
    exact HE.out
  · exact (Kept.setCell (Kept.setCell (Kept.refl _ w) (p := ⟨g1, L.length / 8, none⟩) (.inl (.inr rfl)) _) (p := ⟨p, 1, none⟩) (.inl (.inl rfl)) _).drew
theorem one_any (L : List Int) (b : Int) (p : Nat) (g : Option Nat) (w : World) (hb : b = 0 ∨ b = 1) (hw : WR 70 w p g L) (hn : L.length < 1000000) :
    Calls Try.prog 41 #[.pointer (some ⟨p, 0, none⟩), .int .u32 b] w fun e w' => e = .returned (.tuple #[]) ∧ ∃ g', WR 70 w' p g' (L ++ [b]) ∧
      Kept (fun k => k = p ∨ g = some k) w w' ∧ (g' = g ∨ ∃ k, g' = some k ∧ w.heap.size ≤ k) := by
  by_cases h8 : L.length % 8 = 0
  · exact one_full L b p g w hb hw hn h8
  · exact one_part L b p g w hb hw hn h8
theorem bit_any (L : List Int) (b : Int) (p : Nat) (g : Option Nat) (w : World) (hb : b = 0 ∨ b = 1) (hw : WR 74 w p g L) (hn : L.length < 1000000) :
    Calls Try.prog 46 #[.pointer (some ⟨p, 0, none⟩), .int .u8 b] w fun e w' => e = .returned (.tuple #[]) ∧ ∃ g', WR 74 w' p g' (L ++ [b]) ∧
      Kept (fun k => k = p ∨ g = some k) w w' ∧ (g' = g ∨ ∃ k, g' = some k ∧ w.heap.size ≤ k) := by
  by_cases h8 : L.length % 8 = 0
  · exact bit_full L b p g w hb hw hn h8
  · exact bit_part L b p g w hb hw hn h8
end Go.Proofs.Ytmedlplgeeeodaa.Bits
