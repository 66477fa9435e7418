/- What the reader of bits comes to: the program's and the reference's; no condition but the ranges in each. -/
import Derived.Test.YtmedlplgeeeodaaProg
import Derived.Test.YtmedlplgeeeodaaPlain
import Derived.Test.YtmedlplgeeeodaaHeap
import Derived.Lib.Hide
import Derived.ScopeJumps
namespace Go.Proofs.Ytmedlplgeeeodaa.Bits
open Go.RowKit Go.Proofs.Ytmedlplgeeeodaa.Plain Go.Proofs.Ytmedlplgeeeodaa.Heap

/-- The i-th bit of a text. -/
def bt (s : ByteArray) (i : Nat) : Int := (((s.data.toList.getD (i / 8) 0).toNat / 2 ^ (7 - i % 8) % 2 : Nat) : Int)
theorem bt_01 (s : ByteArray) (i : Nat) : bt s i = 0 ∨ bt s i = 1 := by unfold bt; omega
/-- n bits from a place on, as a number. -/
def val (s : ByteArray) (a : Nat) : Nat → Int
  | 0 => 0
  | n + 1 => val s a n * 2 + bt s (a + n)
theorem val_bd (s : ByteArray) (a n : Nat) : 0 ≤ val s a n ∧ val s a n < (2 : Int) ^ n := by
  induction n with
  | zero => simp [val]
  | succ n ih =>
    have h := bt_01 s (a + n)
    rw [Int.pow_succ]
    simp only [val]
    omega
theorem val_lt32 (s : ByteArray) (a n : Nat) (hn : n ≤ 32) : val s a n < 4294967296 := by
  have h := (val_bd s a n).2
  have h2 : ((2 ^ n : Nat) : Int) ≤ ((2 ^ 32 : Nat) : Int) := Int.ofNat_le.2 (Nat.pow_le_pow_right (by omega) hn)
  simp at h2
  omega
theorem val_add (s : ByteArray) (a n m : Nat) : val s a (n + m) = val s a n * 2 ^ m + val s (a + n) m := by
  induction m with
  | zero => simp [val]
  | succ m ih =>
    rw [← Nat.add_assoc]
    simp only [val]
    rw [ih, Int.pow_succ, Int.add_mul, ← Int.mul_assoc, Nat.add_assoc, Int.add_assoc]

/-- What Get tells: the value, where it stands then, whether it is bad then. -/
def gets (s : ByteArray) (a : Nat) (bad : Bool) (n : Int) : Int × Nat × Bool :=
  if bad then (0, a, true) else if n < 0 ∨ 32 < n ∨ 8 * (s.size : Int) - a < n then (0, a, true) else (val s a n.toNat, a + n.toNat, false)
/-- The reader at block p. -/
def RR (t : TypeId) (w : World) (p : Nat) (s : ByteArray) (a : Nat) (bad : Bool) : Prop :=
  w.heap[p]? = some (.cells #[.string s, .int .i64 (a : Int), .bool bad] t (0, 0))
theorem gets_bad (s : ByteArray) (a : Nat) (n : Int) : gets s a true n = (0, a, true) := rfl
set_option maxHeartbeats 1000000 in
theorem get_bad (s : ByteArray) (a p : Nat) (n : Int) (w : World) (hw : RR 77 w p s a true) :
    Calls Try.prog 31 #[.pointer (some ⟨p, 0, none⟩), .int .i64 n] w fun e w' => e = .returned (.int .u32 0) ∧ w = w' := by
  have hc : w.cell? ⟨p, 2, none⟩ = some (.bool true) := by simp [World.cell?, show w.heap[p]? = _ from hw]
  clear hw
  go_enter Try.func31, Try.ntmps31
  go_wp2
  go_step3
  go_wp2
  rw [Exit.noGoto_ret]
  go_ret
  exact ⟨rfl, rfl⟩
theorem RR.cells {t : TypeId} {w : World} {p : Nat} {s : ByteArray} {a : Nat} {bad : Bool} (h : RR t w p s a bad) :
    w.cell? ⟨p, 0, none⟩ = some (.string s) ∧ w.cell? ⟨p, 1, none⟩ = some (.int .i64 (a : Int)) ∧ w.cell? ⟨p, 2, none⟩ = some (.bool bad) ∧ (∀ i, w.frozen? ⟨p, i, none⟩ = false) ∧ p < w.heap.size := by
  unfold RR at h
  refine ⟨by simp [World.cell?, h], by simp [World.cell?, h], by simp [World.cell?, h], fun i => by simp [World.frozen?, h], (Array.getElem?_eq_some_iff.1 h).1⟩
theorem RR.setBad {t : TypeId} {w : World} {p : Nat} {s : ByteArray} {a : Nat} {bad : Bool} (h : RR t w p s a bad) (b : Bool) : RR t (w.setCell ⟨p, 2, none⟩ (.bool b)) p s a b := by
  unfold RR at h ⊢
  simp [World.setCell, Array.getElem?_modify, h]
theorem RR.setAt {t : TypeId} {w : World} {p : Nat} {s : ByteArray} {a : Nat} {bad : Bool} (h : RR t w p s a bad) (a' : Nat) : RR t (w.setCell ⟨p, 1, none⟩ (.int .i64 (a' : Int))) p s a' bad := by
  unfold RR at h ⊢
  simp [World.setCell, Array.getElem?_modify, h]
set_option maxHeartbeats 1000000 in
theorem get_no (s : ByteArray) (a p : Nat) (n : Int) (w : World) (hw : RR 77 w p s a false) (hn : n < 0 ∨ 32 < n ∨ 8 * (s.size : Int) - a < n) (hs : s.size ≤ 1099511627776) (ha : a ≤ 8 * s.size) :
    Calls Try.prog 31 #[.pointer (some ⟨p, 0, none⟩), .int .i64 n] w fun e w' => e = .returned (.int .u32 0) ∧ RR 77 w' p s a true ∧ Kept (fun k => k = p) w w' := by
  obtain ⟨hc0, hc1, hc2, hf, hp⟩ := hw.cells
  have hfb := hf 2
  have HW := Lib.hid hw
  have hn' : n < 0 ∨ (0 ≤ n ∧ 32 < n) ∨ (0 ≤ n ∧ n ≤ 32 ∧ 8 * (s.size : Int) - a < n) := by omega
  clear hw hf hn
  rcases hn' with h | ⟨h, h'⟩ | ⟨h, h', h''⟩
  · go_enter Try.func31, Try.ntmps31
    go_wp2
    go_step3
    go_wp2
    go_quiet (fail)
    go_wp2
    rw [Exit.noGoto_ret]
    go_ret
    exact ⟨rfl, HW.out.setBad true, Kept.setCell (S := fun k => k = p) ((Kept.refl _ w).drewN _) (p := ⟨p, 2, none⟩) (.inl rfl) _⟩
  · have d1 : decide (n < 0) = false := decide_eq_false (by omega)
    have d2 : decide (32 < n) = true := decide_eq_true h'
    clear h h'
    go_enter Try.func31, Try.ntmps31
    go_wp2
    go_step3
    go_wp2
    go_quiet (fail)
    go_wp2
    rw [Exit.noGoto_ret]
    go_ret
    exact ⟨rfl, HW.out.setBad true, Kept.setCell (S := fun k => k = p) ((Kept.refl _ w).drewN _) (p := ⟨p, 2, none⟩) (.inl rfl) _⟩
  · have d1 : decide (n < 0) = false := decide_eq_false (by omega)
    have d2 : decide (32 < n) = false := decide_eq_false (by omega)
    have e1 : IntKind.i64.wrap (8 * (s.size : Int)) = 8 * (s.size : Int) := IntWalk.i64_in _ (by omega)
    have e2 : IntKind.i64.wrap (8 * (s.size : Int) - (a : Int)) = 8 * (s.size : Int) - (a : Int) := IntWalk.i64_in _ (by omega)
    have d3 : decide (8 * (s.size : Int) - (a : Int) < n) = true := decide_eq_true h''
    clear h h' h''
    go_enter Try.func31, Try.ntmps31
    go_wp2
    go_step3
    go_wp2
    go_quiet (fail)
    go_wp2
    rw [Exit.noGoto_ret]
    go_ret
    exact ⟨rfl, HW.out.setBad true, Kept.setCell (S := fun k => k = p) ((Kept.refl _ w).drewN _) (p := ⟨p, 2, none⟩) (.inl rfl) _⟩
def byteOf (s : ByteArray) (i : Nat) : Nat := (s.data.toList.getD (i / 8) 0).toNat
theorem byteOf_lt (s : ByteArray) (i : Nat) : byteOf s i < 256 := (s.data.toList.getD (i / 8) 0).toNat_lt
theorem bt_of (s : ByteArray) (i : Nat) : bt s i = ((byteOf s i / 2 ^ (7 - i % 8) % 2 : Nat) : Int) := rfl
theorem idx_walk (s : ByteArray) (i : Nat) (h : i < 8 * s.size) (W : World) :
    (Instr.index 9 (.string s) (.int .i64 ((i : Int) / 8))).run Try.prog W = .ok (.int .u8 (byteOf s i : Int)) W := by
  have hi : 0 ≤ (i : Int) / 8 ∧ (i : Int) / 8 < (s.size : Int) := by omega
  have hn : ((i : Int) / 8).toNat = i / 8 := by omega
  rw [run_index_string W _ s _ _ Try.underlying9, dif_pos hi]
  congr 3
  simp only [hn]
  unfold byteOf
  congr 1
  rw [List.getD_eq_getElem?_getD, List.getElem?_eq_getElem (by rw [Array.length_toList]; show i / 8 < s.size; omega)]
  rfl
/-- The new bit, as the walk spells it. -/
theorem bit_walk (s : ByteArray) (i : Nat) : Go.bits .and .u8 ((byteOf s i : Int) / 2 ^ (7 - i % 8)) 1 = bt s i := by
  have h := byteOf_lt s i
  rw [bt_of]
  generalize byteOf s i = B at *
  have e : (B : Int) / 2 ^ (7 - i % 8) = ((B / 2 ^ (7 - i % 8) : Nat) : Int) := by simp
  have hb : B / 2 ^ (7 - i % 8) < 256 := Nat.lt_of_le_of_lt (Nat.div_le_self _ _) h
  rw [e]
  generalize B / 2 ^ (7 - i % 8) = q at *
  rw [u8_and _ _ (by omega) (by omega) (by omega) (by omega), Int.toNat_natCast]
  show ((q &&& 1 : Nat) : Int) = _
  rw [nat_mask1]
theorem bt_mod (s : ByteArray) (i : Nat) : bt s i % 4294967296 = bt s i := by have := bt_01 s i; omega
theorem or_walk (v b : Int) (hv : 0 ≤ v) (hv' : v < 2147483648) (hb : b = 0 ∨ b = 1) : Go.bits .or .u32 (IntKind.u32.wrap (v * 2)) b = v * 2 + b := by
  have e : IntKind.u32.wrap (v * 2) = v * 2 := by rw [IntKind.wrap_u32']; omega
  obtain ⟨V, rfl⟩ := Int.eq_ofNat_of_zero_le hv
  rw [e, u32_or _ _ (by omega) (by omega) (by omega) (by omega)]
  rcases hb with rfl | rfl
  · simp; omega
  · rw [show ((V : Int) * 2).toNat = V * 2 by omega, show (1 : Int).toNat = 1 from rfl, nat_join 1 _ _ (by omega) (by omega)]
    omega
def JG (w : World) (p : Nat) (s : ByteArray) (a n : Nat) (act : Act) (w' : World) : Prop :=
  ∃ k : Nat, k ≤ n ∧ act.defers = [] ∧ act.tmps.size = 81 ∧ act.tmps.getD 0 undef = .pointer (some ⟨p, 0, none⟩) ∧ act.tmps.getD 5 undef = .int .u32 (val s a k) ∧ act.tmps.getD 6 undef = .int .i64 ((a : Int) + (n : Int)) ∧
    RR 77 w' p s (a + k) false ∧ Kept (fun k => k = p) w w'
def muG (p a n : Nat) (_ : Act) (w : World) : Nat := a + n - (intOf ((w.cell? ⟨p, 1, none⟩).getD undef)).toNat
theorem range81 : List.range 81 = [0, 1, 2, 3, 4, 5, 6, 7, 8, 9, 10, 11, 12, 13, 14, 15, 16, 17, 18, 19, 20, 21, 22, 23, 24, 25, 26, 27, 28, 29, 30, 31, 32, 33, 34, 35, 36, 37, 38, 39, 40, 41, 42, 43, 44, 45, 46, 47, 48, 49, 50, 51, 52, 53, 54, 55, 56, 57, 58, 59, 60, 61, 62, 63, 64, 65, 66, 67, 68, 69, 70, 71, 72, 73, 74, 75, 76, 77, 78, 79, 80] := rfl
theorem or_walk' (v b : Int) (hv : 0 ≤ v) (hv' : v < 2147483648) (hb : b = 0 ∨ b = 1) : Go.bits .or .u32 (v * 2) b = v * 2 + b := by
  have h := or_walk v b hv hv' hb
  rwa [show IntKind.u32.wrap (v * 2) = v * 2 by rw [IntKind.wrap_u32']; omega] at h
theorem muG_lt {p a n : Nat} {act act' : Act} {w w' : World} {m : Nat} (h : w.cell? ⟨p, 1, none⟩ = some (.int .i64 (m : Int))) (h' : w'.cell? ⟨p, 1, none⟩ = some (.int .i64 ((m + 1 : Nat) : Int))) (hm : m < a + n) : muG p a n act' w' < muG p a n act w := by
  unfold muG
  rw [h, h']
  simp [intOf]
  omega
set_option maxHeartbeats 4000000 in
theorem get_yes (s : ByteArray) (a p n : Nat) (w : World) (hw : RR 77 w p s a false) (hn : n ≤ 32) (hn' : a + n ≤ 8 * s.size) (hs : s.size ≤ 1099511627776) :
    Calls Try.prog 31 #[.pointer (some ⟨p, 0, none⟩), .int .i64 (n : Int)] w fun e w' => e = .returned (.int .u32 (val s a n)) ∧ RR 77 w' p s (a + n) false ∧ Kept (fun k => k = p) w w' := by
  obtain ⟨hc0, hc1, hc2, hf, hp⟩ := hw.cells
  have hfa := hf 1
  have HW := Lib.hid hw
  have d1 : decide ((n : Int) < 0) = false := decide_eq_false (by omega)
  have d2 : decide (32 < (n : Int)) = false := decide_eq_false (by omega)
  have e1 : IntKind.i64.wrap (8 * (s.size : Int)) = 8 * (s.size : Int) := IntWalk.i64_in _ (by omega)
  have e2 : IntKind.i64.wrap (8 * (s.size : Int) - (a : Int)) = 8 * (s.size : Int) - (a : Int) := IntWalk.i64_in _ (by omega)
  have d3 : decide (8 * (s.size : Int) - (a : Int) < (n : Int)) = false := decide_eq_false (by omega)
  have m1 : Int.tdiv (a : Int) 8 = (a : Int) / 8 := Int.tdiv_eq_ediv_of_nonneg (by omega)
  have m2 : Int.tmod (a : Int) 8 = (a : Int) % 8 := Int.tmod_eq_emod_of_nonneg (by omega)
  have m3 : IntKind.i64.wrap ((a : Int) / 8) = (a : Int) / 8 := IntWalk.i64_in _ (by omega)
  have m4 : IntKind.i64.wrap (7 - (a : Int) % 8) = 7 - (a : Int) % 8 := IntWalk.i64_in _ (by omega)
  have m5 : (0 : Int) ≤ 7 - (a : Int) % 8 := by omega
  have m6 : 7 - (a : Int) % 8 ≤ 8 := by omega
  have m7 := bit_walk s a
  have m8 := bt_mod s a
  have m9 : Go.bits .or .u32 0 (bt s a) = bt s a := by
    have h := or_walk 0 (bt s a) (by omega) (by omega) (bt_01 s a)
    rw [Int.zero_mul, show IntKind.u32.wrap 0 = 0 from rfl, Int.zero_add] at h
    exact h
  clear hf hw
  go_enter Try.func31, Try.ntmps31
  go_wp2
  refine wp_scope_jumps 0 (JG w p s a n) (muG p a n) rfl ?_ ?_
  · go_wp2
    go_quiet (fail)
    go_wp2
    go_step3
    go_wp2
    · have hlt : a < 8 * s.size := by omega
      have hix := idx_walk s a hlt
      go_quiet (fail)
      go_wp2
      go_step3
      refine ⟨rfl, 1, by omega, rfl, rfl, rfl, ?_, rfl, ?_, ?_⟩
      · show Value.int .u32 (bt s a) = _
        simp [val]
      · exact HW.out.setAt (a + 1)
      · exact Kept.setCell (S := fun k => k = p) ((Kept.refl _ w).drewN _) (p := ⟨p, 1, none⟩) (.inl rfl) _
    · simp only [Exit.jump]
      go_ret
      obtain rfl : n = 0 := by omega
      exact ⟨rfl, HW.out, (Kept.refl _ w).drewN _⟩
  · clear m1 m2 m3 m4 m5 m6 m7 m8 m9 hc0 hc1 hc2 hfa d1 d2 e1 e2 d3
    rintro ⟨ts, ds⟩ w' ⟨k, hk, hd, hsz, t0, t5, t6, hR, hK⟩
    obtain rfl : ds = [] := hd
    obtain ⟨f, hf, hts⟩ := arr_fun ts 81 hsz
    have f0 : f 0 = .pointer (some ⟨p, 0, none⟩) := (hf 0 (by omega)).trans t0
    have f5 : f 5 = .int .u32 (val s a k) := (hf 5 (by omega)).trans t5
    have f6 : f 6 = .int .i64 ((a : Int) + (n : Int)) := (hf 6 (by omega)).trans t6
    rw [range81] at hts
    simp only [List.map_cons, List.map_nil, f0, f5, f6] at hts
    subst hts
    obtain ⟨hc0, hc1, hc2, hfz, hp'⟩ := hR.cells
    have hfa := hfz 1
    have HR := Lib.hid hR
    have HK := Lib.hid hK
    obtain ⟨m, hm⟩ : ∃ m, m = a + k := ⟨_, rfl⟩
    rw [← hm] at hc1
    have HM := Lib.hid hm
    have hmn : m ≤ a + n := by omega
    have m1 : Int.tdiv (m : Int) 8 = (m : Int) / 8 := Int.tdiv_eq_ediv_of_nonneg (by omega)
    have m2 : Int.tmod (m : Int) 8 = (m : Int) % 8 := Int.tmod_eq_emod_of_nonneg (by omega)
    have m3 : IntKind.i64.wrap ((m : Int) / 8) = (m : Int) / 8 := IntWalk.i64_in _ (by omega)
    have m4 : IntKind.i64.wrap (7 - (m : Int) % 8) = 7 - (m : Int) % 8 := IntWalk.i64_in _ (by omega)
    have m5 : (0 : Int) ≤ 7 - (m : Int) % 8 := by omega
    have m6 : 7 - (m : Int) % 8 ≤ 8 := by omega
    have m7 := bit_walk s m
    have m8 := bt_mod s m
    clear hf t0 t5 t6 hsz f0 f5 f6 hfz hR hK
    by_cases hlt : m < a + n
    · have hkn : k < n := by omega
      have HV : Hid (val s a (k + 1) = val s a k * 2 + bt s m) := by rw [hm]; rfl
      have v1 := (val_bd s a k).1
      have v2 : val s a k < 2147483648 := by
        have h := (val_bd s a k).2
        have h2 : ((2 ^ k : Nat) : Int) ≤ ((2 ^ 31 : Nat) : Int) := Int.ofNat_le.2 (Nat.pow_le_pow_right (by omega) (by omega))
        simp at h2
        omega
      have m9 := or_walk' (val s a k) (bt s m) v1 v2 (bt_01 s m)
      have hix := idx_walk s m (by omega)
      clear hm hkn
      generalize val s a k = v at *
      go_wp2
      go_quiet (fail)
      go_wp2
      go_step3
      have hR2 : RR 77 ((w'.drewN nq).setCell ⟨p, 1, none⟩ (.int .i64 ((m + 1 : Nat) : Int))) p s (m + 1) false := by
        have h := HR.out
        rw [← HM.out] at h
        exact RR.setAt (w := w'.drewN nq) h (m + 1)
      refine ⟨rfl, ⟨k + 1, by have := HM.out; omega, rfl, rfl, rfl, ?_, rfl, ?_, ?_⟩, ?_⟩
      · show Value.int .u32 (v * 2 + bt s m) = _
        rw [HV.out]
      · rw [show a + (k + 1) = m + 1 by have := HM.out; omega]
        exact hR2
      · exact Kept.setCell (S := fun k => k = p) (HK.out.drewN _) (p := ⟨p, 1, none⟩) (.inl rfl) _
      · exact muG_lt hc1 hR2.cells.2.1 hlt
    · have hkn : k = n := by have := HM.out; omega
      subst hkn
      go_wp2
      simp only [Exit.jump]
      go_ret
      exact ⟨rfl, HR.out, HK.out⟩
end Go.Proofs.Ytmedlplgeeeodaa.Bits
