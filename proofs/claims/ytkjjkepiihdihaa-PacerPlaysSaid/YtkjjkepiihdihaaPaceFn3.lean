/- What Set, first, Waiting, Age, Spare come to; no condition but the ranges in each. -/
import Derived.Test.YtkjjkepiihdihaaPaceFn2
import Derived.Test.YtkjjkepiihdihaaSatRef
namespace Go.Proofs.Ytkjjkepiihdihaa.Pace
open Go.RowKit Go.Proofs.Ytkjjkepiihdihaa.Plain Go.Proofs.Ytkjjkepiihdihaa.Heap Go.Proofs.Ytkjjkepiihdihaa.Rows

/-- The classes ahead of the k-th, one behind the other. -/
def upto (s : PS) : Nat → List W5
  | 0 => []
  | k + 1 => upto s k ++ s.q k
/-- The sum of the sizes. -/
def szs (l : List W5) : Int := (l.map fun x => x.2.2.2.1).sum
theorem szs_append (l m : List W5) : szs (l ++ m) = szs l + szs m := by simp [szs]
theorem szs_snoc (l : List W5) (i : Nat) (x : W5) (h : l[i]? = some x) : szs (l.take (i + 1)) = szs (l.take i) + x.2.2.2.1 := by
  obtain ⟨hi, rfl⟩ := List.getElem?_eq_some_iff.1 h
  rw [List.take_succ_eq_append_getElem hi, szs_append]
  simp [szs]
theorem szs_bd (l : List W5) (h : ∀ x ∈ l, 0 ≤ x.2.2.2.1 ∧ x.2.2.2.1 ≤ 1500) : 0 ≤ szs l ∧ szs l ≤ 1500 * (l.length : Int) := by
  induction l with
  | nil => simp [szs]
  | cons x l ih =>
    have h1 := ih fun y hy => h y (List.mem_cons_of_mem _ hy)
    have h2 := h x (List.mem_cons_self ..)
    have e : szs (x :: l) = x.2.2.2.1 + szs l := by simp [szs]
    rw [e, List.length_cons]
    omega
theorem upto_mem {s : PS} {x : W5} {k : Nat} (h : x ∈ upto s k) : ∃ c, c < k ∧ x ∈ s.q c := by
  induction k with
  | zero => cases h
  | succ k ih =>
    rcases List.mem_append.1 h with h | h
    · obtain ⟨c, h1, h2⟩ := ih h
      exact ⟨c, by omega, h2⟩
    · exact ⟨k, by omega, h⟩
theorem upto_bd {s : PS} (ok : okP s) {k : Nat} (hk : k ≤ 4) : ((upto s k).length : Int) ≤ 256 * k ∧ (0 ≤ szs (upto s k) ∧ szs (upto s k) ≤ 1500 * ((upto s k).length : Int)) := by
  refine ⟨?_, szs_bd _ fun x hx => ?_⟩
  · induction k with
    | zero => simp [upto]
    | succ k ih =>
      have h1 := ih (by omega)
      have h2 := ok.len k (by omega)
      have h3 := ok.queue1
      simp only [upto, List.length_append]
      omega
  · obtain ⟨c, h1, h2⟩ := upto_mem hx
    exact ⟨(ok.el c (by omega) x h2).2.1, (ok.el c (by omega) x h2).2.2.1⟩
/-- An element of a class, where it lies. -/
theorem PV.at {T : TypeId} {N : Nat → Prop} {w : World} {p : Nat} {v : Nat → Value} {s : PS} (h : PV T N w p v s) {k i : Nat} (hk : k < 4) {A : Option Addr} {n c : Nat} (hv : v k = .slice A n c) (hi : i < (s.q k).length) :
    ∃ g off x, A = some ⟨g, off, none⟩ ∧ g < w.heap.size ∧ (s.q k)[i]? = some x ∧ w.cell? ⟨g, off + i * 5, none⟩ = some (.int .i64 x.1) ∧ w.cell? ⟨g, off + i * 5 + 1, none⟩ = some (.int .i64 x.2.1) ∧ w.cell? ⟨g, off + i * 5 + 2, none⟩ = some (.int .i64 x.2.2.1) ∧
      w.cell? ⟨g, off + i * 5 + 3, none⟩ = some (.int .i64 x.2.2.2.1) ∧ w.cell? ⟨g, off + i * 5 + 4, none⟩ = some (.int .i64 x.2.2.2.2) := by
  have h1 := h.qs k hk
  rw [hv] at h1
  obtain ⟨A', c', e⟩ := h1.shape
  injection e with e1 e2 e3
  subst e2
  obtain ⟨g, off, hA, hg, hc⟩ := h1.rd.2 (by omega)
  obtain ⟨x, hx⟩ : ∃ x, (s.q k)[i]? = some x := ⟨_, List.getElem?_eq_getElem hi⟩
  obtain ⟨f0, f1, f2, f3, f4⟩ := flatW_get _ i x hx
  exact ⟨g, off, x, hA, hg, hx, hc _ _ f0, hc _ _ f1, hc _ _ f2, hc _ _ f3, hc _ _ f4⟩
theorem PV.val {T : TypeId} {N : Nat → Prop} {w : World} {p : Nat} {v : Nat → Value} {s : PS} (h : PV T N w p v s) {k : Nat} (hk : k < 4) : ∃ A c, v k = .slice A (s.q k).length c := (h.qs k hk).shape
theorem index_four {v : Nat → Value} {k : Nat} (hk : k < 4) {u : Value} (hu : v k = u) (w : World) : (Instr.index 61 (.agg #[v 0, v 1, v 2, v 3]) (.int .i64 (k : Int))).run Try.prog w = .ok u w := by
  subst hu
  have h4 : k = 0 ∨ k = 1 ∨ k = 2 ∨ k = 3 := by omega
  rcases h4 with rfl | rfl | rfl | rfl
  all_goals
    simp [Instr.index, go_sem]
/-- A number held between two. -/
def clampI (x lo hi : Int) : Int := if x < lo then lo else if x > hi then hi else x
theorem clampI_bd {x lo hi : Int} (h : lo ≤ hi) : lo ≤ clampI x lo hi ∧ clampI x lo hi ≤ hi := by unfold clampI; split <;> (try split) <;> omega
def setp (s : PS) (rate window now : Int) : PS := { goes s now with rate := clampI rate 0 17179869184, window := clampI window 0 1099511627776 }
theorem setp_ok {s : PS} (ok : okP s) (rate window now : Int) : okP (setp s rate window now) := by
  have h := goes_ok ok now
  have h1 := clampI_bd (x := rate) (show (0 : Int) ≤ 17179869184 by omega)
  have h2 := clampI_bd (x := window) (show (0 : Int) ≤ 1099511627776 by omega)
  exact ⟨h.burst0, h.burst1, h.credit0, h.credit1, h1.1, h1.2, h2.1, h2.2, h.now0, h.now1, h.queue0, h.queue1, h.len, h.el⟩
set_option maxHeartbeats 1000000 in
theorem set_any (N : Nat → Prop) (rate window now : Int) (p : Nat) (v : Nat → Value) (w : World) (s : PS) (h : PV 63 N w p v s) (ok : okP s) : Calls Try.prog 12 #[.pointer (some ⟨p, 0, none⟩), .int .i64 rate, .int .i64 window, .int .i64 now] w
    fun e w' => e = .returned (.tuple #[]) ∧ PV 63 N w' p v (setp s rate window now) ∧ Kept (fun g => g = p) w w' := by
  obtain ⟨a, ha⟩ : ∃ a, (if rate < 0 then 0 else if rate > 17179869184 then 17179869184 else rate) = a := ⟨_, rfl⟩
  obtain ⟨b, hb⟩ : ∃ b, (if window < 0 then 0 else if window > 1099511627776 then 1099511627776 else window) = b := ⟨_, rfl⟩
  have es : setp s rate window now = { goes s now with rate := a, window := b } := by rw [← ha, ← hb]; rfl
  have HA := Lib.hid ha
  have HB := Lib.hid hb
  have HE := Lib.hid es
  have HP := Lib.hid h
  have OK := Lib.hid ok
  clear ha hb es h ok
  go_enter Try.func12, Try.ntmps12
  go_wp2_with fail
  refine (goes_any N now p v w s HP.out OK.out).mono ?_
  rintro e w1 ⟨rfl, h1, hk1⟩
  obtain ⟨_, _, c2, c3, _, _, _, _, _, _, hf, hp⟩ := h1.cells
  have H1 := Lib.hid h1
  have HK1 := Lib.hid hk1
  clear h1 hk1
  go_wp2_with fail
  refine (clamp_is HA.out _).mono ?_
  rintro e w2 ⟨rfl, rfl⟩
  have h2 : PV 63 N (w1.setCell ⟨p, 2, none⟩ (.int .i64 a)) p v { goes s now with rate := a } := H1.out.set 2 _ rfl rfl
  have H2 := Lib.hid h2
  obtain ⟨_, _, d2, d3, _, _, _, _, _, _, df, dp⟩ := h2.cells
  have hk2 : Kept (fun g => g = p) w (w1.setCell ⟨p, 2, none⟩ (.int .i64 a)) := Kept.setCell (S := fun g => g = p) HK1.out (p := ⟨p, 2, none⟩) (.inl rfl) _
  have HK2 := Lib.hid hk2
  clear h2 hk2
  go_wp2_with fail
  refine (clamp_is HB.out _).mono ?_
  rintro e w3 ⟨rfl, rfl⟩
  go_wp2_with fail
  refine bodyPost_end (results_none rfl _ _ _) rfl ⟨rfl, ?_, Kept.setCell (S := fun g => g = p) HK2.out (p := ⟨p, 3, none⟩) (.inl rfl) _⟩
  rw [HE.out]
  exact H2.out.set 3 _ rfl rfl
theorem set_nil (rate window now : Int) (w : World) : Calls Try.prog 12 #[.pointer none, .int .i64 rate, .int .i64 window, .int .i64 now] w fun e w' => e = .returned (.tuple #[]) ∧ w = w' := by
  go_enter Try.func12, Try.ntmps12
  go_wp2
  refine bodyPost_ret (v := .tuple #[]) (by simp [results, Try.results12, go_sem]) rfl ⟨rfl, rfl⟩
theorem spare_nil (w : World) : Calls Try.prog 27 #[.pointer none] w fun e w' => e = .returned (.int .i64 0) ∧ w = w' := by
  go_enter Try.func27, Try.ntmps27
  go_wp2
  go_ret
  exact ⟨rfl, rfl⟩
theorem spare_any (N : Nat → Prop) (p : Nat) (v : Nat → Value) (w : World) (s : PS) (h : PV 63 N w p v s) (ok : okP s) : Calls Try.prog 27 #[.pointer (some ⟨p, 0, none⟩)] w
    fun e w' => e = .returned (.int .i64 (s.credit / 8000000)) ∧ w = w' := by
  obtain ⟨_, c1, _⟩ := h.cells
  have h0 := ok.credit0
  have h1 := ok.credit1
  have h2 := ok.burst1
  go_enter Try.func27, Try.ntmps27
  go_wp2
  go_ret
  exact ⟨rfl, rfl⟩
theorem waiting_nil (w : World) : Calls Try.prog 18 #[.pointer none] w fun e w' => e = .returned (.tuple #[.int .i64 0, .int .i64 0]) ∧ w = w' := by
  go_enter Try.func18, Try.ntmps18
  go_wp2
  go_ret2
  exact ⟨rfl, rfl⟩
theorem age_nil (now : Int) (w : World) : Calls Try.prog 25 #[.pointer none, .int .i64 now] w fun e w' => e = .returned (.int .i64 0) ∧ w = w' := by
  go_enter Try.func25, Try.ntmps25
  go_wp2
  go_ret
  exact ⟨rfl, rfl⟩
theorem poll_nil (now f : Int) (w : World) : Calls Try.prog 15 #[.pointer none, .int .i64 now, .int .i64 f] w fun e w' => e = .returned (.slice none 0 0) ∧ w = w' := by
  go_enter Try.func15, Try.ntmps15
  go_wp2
  go_ret
  exact ⟨rfl, rfl⟩
theorem enqueue_nil (a b c d now : Int) (w : World) : Calls Try.prog 14 #[.pointer none, .agg #[.int .i64 a, .int .i64 b, .int .i64 c, .int .i64 d], .int .i64 now] w fun e w' => e = .returned (.bool false) ∧ w.alloc (.cells #[.int .i64 a, .int .i64 b, .int .i64 c, .int .i64 d] 30) = w' := by
  go_enter Try.func14, Try.ntmps14
  go_wp2
  go_ret
  exact ⟨rfl, rfl⟩
theorem meas4 (n : Int) (k : Nat) (h : (k : Int) < n) : (n - (intOf (.int .i64 ((k : Int) + 1)))).toNat < (n - intOf (.int .i64 (k : Int))).toNat := by simp [intOf]; omega
set_option maxHeartbeats 2000000 in
theorem waiting_any (N : Nat → Prop) (p : Nat) (v : Nat → Value) (w : World) (s : PS) (h : PV 63 N w p v s) (ok : okP s) : Calls Try.prog 18 #[.pointer (some ⟨p, 0, none⟩)] w
    fun e w' => e = .returned (.tuple #[.int .i64 ((upto s 4).length : Int), .int .i64 (szs (upto s 4))]) ∧ Kept (fun _ => False) w w' := by
  obtain ⟨_, _, _, _, _, _, c6, c7, c8, c9, hf, hp⟩ := h.cells
  have HP := Lib.hid h
  have OK := Lib.hid ok
  clear h ok
  go_enter Try.func18, Try.ntmps18
  go_wp2_with fail
  go_loopw [2, 3, 14] (fun cv bv kv wx => ∃ k : Nat, k ≤ 4 ∧ kv = .int .i64 (k : Int) ∧ cv = .int .i64 ((upto s k).length : Int) ∧ bv = .int .i64 (szs (upto s k)) ∧ Kept (fun _ => False) w wx) (fun _ _ kv _ => (4 - intOf kv).toNat)
  case atStart => exact ⟨0, by omega, rfl, rfl, rfl, Kept.refl _ _⟩
  case round =>
    obtain ⟨k, hk, rfl, rfl, rfl, hw⟩ := hrel
    obtain ⟨b0, b1, b2⟩ := upto_bd OK.out hk
    have HW := Lib.hid hw
    clear hw
    by_cases hlt : (k : Int) < 4
    · have hk4 : k < 4 := by omega
      obtain ⟨A, c, hv⟩ := HP.out.val hk4
      have hix := index_four hk4 hv
      have hq := OK.out.len k hk4
      have hq1 := OK.out.queue1
      have HV := Lib.hid hv
      obtain ⟨L, hL⟩ : ∃ L, L = (s.q k).length := ⟨_, rfl⟩
      obtain ⟨C, hC⟩ : ∃ C, C = (upto s k).length := ⟨_, rfl⟩
      obtain ⟨B, hB⟩ : ∃ B, B = szs (upto s k) := ⟨_, rfl⟩
      rw [← hL] at hq hix
      rw [← hC] at b0 b2
      rw [← hB] at b1 b2
      rw [← hC, ← hB]
      have HL := Lib.hid hL
      have HC := Lib.hid hC
      have HB := Lib.hid hB
      clear hv hL hC hB
      go_wp2_with fail
      go_loopw [2, 3, 19] (fun cv bv iv wx => ∃ i : Nat, i ≤ L ∧ iv = .int .i64 (i : Int) ∧ cv = .int .i64 ((C : Int) + (i : Int)) ∧ bv = .int .i64 (B + szs ((s.q k).take i)) ∧ Kept (fun _ => False) w wx) (fun _ _ iv _ => ((L : Int) - intOf iv).toNat)
      case atStart => exact ⟨0, by omega, rfl, by simp, by simp [szs], HW.out⟩
      case round =>
        obtain ⟨i, hi, rfl, rfl, rfl, hw⟩ := hrel
        have HX := Lib.hid hw
        clear hw
        by_cases hil : (i : Int) < (L : Int)
        · have hi' : i < (s.q k).length := by rw [← HL.out]; omega
          obtain ⟨g, off, x, hA, hg, hx, x0, x1, x2, x3, x4⟩ := (HP.out.run HX.out).at hk4 HV.out hi'
          subst hA
          obtain ⟨e0, e1⟩ := szs_bd ((s.q k).take i) fun y hy => ⟨(OK.out.el k hk4 y (List.mem_of_mem_take hy)).2.1, (OK.out.el k hk4 y (List.mem_of_mem_take hy)).2.2.1⟩
          have e2 : ((s.q k).take i).length ≤ i := List.length_take_le _ _
          obtain ⟨_, z0, z1, _⟩ := OK.out.el k hk4 x (List.mem_of_getElem? hx)
          have HS := Lib.hid (szs_snoc _ _ _ hx)
          obtain ⟨x1', x2', x3', z, x5'⟩ := x
          simp only at x0 x1 x2 x3 x4 z0 z1
          obtain ⟨D, hD⟩ : ∃ D, D = szs ((s.q k).take i) := ⟨_, rfl⟩
          rw [← hD] at e0 e1
          rw [← hD]
          have HD := Lib.hid hD
          have HXc := Lib.hid hx
          clear hD hx
          go_wp2_with fail
          go_roundw
          case rel => exact ⟨i + 1, by omega, by go_num, by go_num, by rw [HS.out, ← HD.out]; go_num, HX.out.alloc _⟩
          case measure => exact meas4 L i hil
        · have e4 : i = L := by omega
          subst e4
          go_wp2_with fail
          go_roundw
          case rel =>
            have e1 : (upto s (k + 1)).length = C + i := by rw [HC.out, HL.out]; simp [upto]
            have e2 : szs (upto s (k + 1)) = B + szs ((s.q k).take i) := by rw [HB.out, HL.out, List.take_length]; simp [upto, szs_append]
            exact ⟨k + 1, by omega, by go_num, by rw [e1]; go_num, by rw [e2], HX.out⟩
          case measure => exact meas4 4 k hlt
    · go_wp2
      go_ret2
      have e4 : k = 4 := by omega
      subst e4
      exact ⟨rfl, HW.out⟩
theorem first_some (N : Nat → Prop) (p : Nat) (v : Nat → Value) (w : World) (s : PS) (h : PV 63 N w p v s) (c : Nat) (hc : c < 4) (he : ∀ d, d < c → (s.q d).length = 0) (hn : 0 < (s.q c).length) :
    Calls Try.prog 31 #[.pointer (some ⟨p, 0, none⟩)] w fun e w' => e = .returned (.int .i64 (c : Int)) ∧ w = w' := by
  obtain ⟨_, _, _, _, _, _, c6, c7, c8, c9, hf, hp⟩ := h.cells
  have HP := Lib.hid h
  have HE := Lib.hid he
  clear h he
  go_enter Try.func31, Try.ntmps31
  go_wp2_with fail
  go_loopw [9] (fun kv wx => ∃ k : Nat, k ≤ c ∧ kv = .int .i64 (k : Int) ∧ wx = w) (fun kv _ => (4 - intOf kv).toNat)
  case atStart => exact ⟨0, by omega, rfl, rfl⟩
  case round =>
    obtain ⟨k, hk, rfl, rfl⟩ := hrel
    have hk4 : k < 4 := by omega
    have hk4' : (k : Int) < 4 := by omega
    obtain ⟨A, cap, hv⟩ := HP.out.val hk4
    have hix := index_four hk4 hv
    obtain ⟨L, hL⟩ : ∃ L, L = (s.q k).length := ⟨_, rfl⟩
    rw [← hL] at hix
    by_cases hkc : k = c
    · subst hkc
      have hL0 : (0 : Int) < (L : Int) := by omega
      clear hL hv
      go_wp2
      go_ret
      exact ⟨rfl, rfl⟩
    · have hL0 : L = 0 := by rw [hL]; exact HE.out k (by omega)
      subst hL0
      clear hL hv
      go_wp2
      go_roundw
      case rel => exact ⟨k + 1, by omega, by go_num, trivial⟩
      case measure => exact meas4 4 k hk4'
theorem first_none (N : Nat → Prop) (p : Nat) (v : Nat → Value) (w : World) (s : PS) (h : PV 63 N w p v s) (he : ∀ d, d < 4 → (s.q d).length = 0) :
    Calls Try.prog 31 #[.pointer (some ⟨p, 0, none⟩)] w fun e w' => e = .returned (.int .i64 (-1)) ∧ w = w' := by
  obtain ⟨_, _, _, _, _, _, c6, c7, c8, c9, hf, hp⟩ := h.cells
  have HP := Lib.hid h
  have HE := Lib.hid he
  clear h he
  go_enter Try.func31, Try.ntmps31
  go_wp2_with fail
  go_loopw [9] (fun kv wx => ∃ k : Nat, k ≤ 4 ∧ kv = .int .i64 (k : Int) ∧ wx = w) (fun kv _ => (4 - intOf kv).toNat)
  case atStart => exact ⟨0, by omega, rfl, rfl⟩
  case round =>
    obtain ⟨k, hk, rfl, rfl⟩ := hrel
    by_cases hk4' : (k : Int) < 4
    · have hk4 : k < 4 := by omega
      obtain ⟨A, cap, hv⟩ := HP.out.val hk4
      rw [HE.out k hk4] at hv
      have hix := index_four hk4 hv
      clear hv
      go_wp2
      go_roundw
      case rel => exact ⟨k + 1, by omega, by go_num, trivial⟩
      case measure => exact meas4 4 k hk4'
    · go_wp2
      go_ret
      exact ⟨rfl, rfl⟩
/-- How long the one waits that waits longest. -/
def ages (t : Int) (l : List W5) : Int := l.foldl (fun a x => max a (t - x.2.2.2.2)) 0
theorem ages_snoc (t : Int) (l : List W5) (x : W5) : ages t (l ++ [x]) = max (ages t l) (t - x.2.2.2.2) := by simp [ages]
theorem sub_is {a b t : Int} (w : World) (ha : 0 ≤ b) (hb : b ≤ a) (h1 : a ≤ 1125899906842624) (ht : t = a - b) :
    Calls Try.prog 34 #[.int .i64 a, .int .i64 b] w fun e w' => e = .returned (.int .i64 t) ∧ Below w.heap.size w w' :=
  (Sat.sub_any a b w (by omega) (by omega) (by omega) (by omega)).mono fun e w' ⟨he, hw⟩ => ⟨by rw [he, Sat.clamp_id (by omega) (by omega), ht], hw⟩
set_option maxRecDepth 10000 in
set_option maxHeartbeats 2000000 in
theorem age_any (N : Nat → Prop) (now : Int) (p : Nat) (v : Nat → Value) (w : World) (s : PS) (h : PV 63 N w p v s) (ok : okP s) : Calls Try.prog 25 #[.pointer (some ⟨p, 0, none⟩), .int .i64 now] w
    fun e w' => e = .returned (.int .i64 (ages (clampT s now) (upto s 4))) ∧ Kept (fun _ => False) w w' := by
  obtain ⟨_, _, _, _, c4, _, _, _, _, _, hf, hp⟩ := h.cells
  obtain ⟨t0, t1⟩ := clampT_bd ok now
  have ect : s.now < 1125899906842624 ∨ ¬ s.now < 1125899906842624 := by omega
  have ec1 : s.now < 1125899906842624 → (if now < s.now then s.now else if now > 1125899906842624 then 1125899906842624 else now) = clampT s now := fun _ => rfl
  have ec2 : ¬ s.now < 1125899906842624 → (if now < s.now then s.now else if now > s.now then s.now else now) = clampT s now := fun h => by
    have := ok.now1
    unfold clampT
    split
    · rfl
    · split <;> split <;> omega
  obtain ⟨t, ht⟩ : ∃ t, t = clampT s now := ⟨_, rfl⟩
  rw [← ht] at t0 t1 ec1 ec2
  rw [← ht]
  have hn0 := ok.now0
  have HP := Lib.hid h
  have OK := Lib.hid ok
  have EC1 := Lib.hid ec1
  have EC2 := Lib.hid ec2
  have HT := Lib.hid ht
  clear h ok ec1 ec2 ht
  go_enter Try.func25, Try.ntmps25
  go_upto_region 4 with fail
  go_cut [1] (fun s1 wx => s1 = .int .i64 t ∧ wx = w.drew)
  case first =>
    rcases ect with h1 | h1
    · go_region_held3 (fun w' => w'.cell? ⟨p, 4, none⟩ = some (.int .i64 s.now)) (first | exact c4)
        (first
          | (go_at_call 30
             refine (clamp_is (EC1.out h1) _).mono ?_
             rintro e w1 ⟨rfl, rfl⟩))
      all_goals (go_wp2_with fail; go_meet; exact ⟨rfl, rfl⟩)
    · go_region_held3 (fun w' => w'.cell? ⟨p, 4, none⟩ = some (.int .i64 s.now)) (first | exact c4)
        (first
          | (go_at_call 30
             refine (clamp_is (EC2.out h1) _).mono ?_
             rintro e w1 ⟨rfl, rfl⟩))
      all_goals (go_wp2_with fail; go_meet; exact ⟨rfl, rfl⟩)
  case rest =>
  obtain ⟨rfl, hw⟩ := hcut
  rw [hw]
  clear hw c4 hf hp
  have HP := Lib.hid (HP.out.run (Kept.refl _ w).drew)
  have HWW := Lib.hid ((Kept.refl (fun _ => False) w).drew)
  generalize w.drew = W at *
  obtain ⟨_, _, _, _, c4, _, c6, c7, c8, c9, hf, hp⟩ := HP.out.cells
  clear c4
  go_wp2_with fail
  go_loopw [5, 27] (fun av kv wx => ∃ k : Nat, k ≤ 4 ∧ kv = .int .i64 (k : Int) ∧ av = .int .i64 (ages t (upto s k)) ∧ Kept (fun _ => False) W wx) (fun _ kv _ => (4 - intOf kv).toNat)
  case atStart => exact ⟨0, by omega, rfl, rfl, Kept.refl _ _⟩
  case round =>
    obtain ⟨k, hk, rfl, rfl, hw⟩ := hrel
    have HW := Lib.hid hw
    clear hw
    by_cases hlt : (k : Int) < 4
    · have hk4 : k < 4 := by omega
      obtain ⟨A, c, hv⟩ := HP.out.val hk4
      have hix := index_four hk4 hv
      have hq := OK.out.len k hk4
      have hq1 := OK.out.queue1
      have HV := Lib.hid hv
      obtain ⟨L, hL⟩ : ∃ L, L = (s.q k).length := ⟨_, rfl⟩
      rw [← hL] at hq hix
      have HL := Lib.hid hL
      clear hv hL
      go_wp2_with fail
      go_loopw [5, 32] (fun av iv wx => ∃ i : Nat, i ≤ L ∧ iv = .int .i64 (i : Int) ∧ av = .int .i64 (ages t (upto s k ++ (s.q k).take i)) ∧ Kept (fun _ => False) W wx) (fun _ iv _ => ((L : Int) - intOf iv).toNat)
      case atStart => exact ⟨0, by omega, rfl, by simp, HW.out⟩
      case round =>
        obtain ⟨i, hi, rfl, rfl, hw⟩ := hrel
        have HX := Lib.hid hw
        clear hw
        by_cases hil : (i : Int) < (L : Int)
        · have hi' : i < (s.q k).length := by rw [← HL.out]; omega
          obtain ⟨g, off, x, hA, hg, hx, x0, x1, x2, x3, x4⟩ := (HP.out.run HX.out).at hk4 HV.out hi'
          subst hA
          obtain ⟨_, _, _, z2, z3⟩ := OK.out.el k hk4 x (List.mem_of_getElem? hx)
          have HS := Lib.hid (show ages t (upto s k ++ (s.q k).take (i + 1)) = max (ages t (upto s k ++ (s.q k).take i)) (t - x.2.2.2.2) by
            obtain ⟨hi, rfl⟩ := List.getElem?_eq_some_iff.1 hx
            rw [List.take_succ_eq_append_getElem hi, ← List.append_assoc, ages_snoc])
          obtain ⟨x1', x2', x3', x4', z⟩ := x
          simp only at x0 x1 x2 x3 x4 z2 z3
          obtain ⟨D, hD⟩ : ∃ D, D = ages t (upto s k ++ (s.q k).take i) := ⟨_, rfl⟩
          rw [← hD]
          have HD := Lib.hid hD
          have HXc := Lib.hid hx
          obtain ⟨d, hd⟩ : ∃ d, d = t - z := ⟨_, rfl⟩
          have CS := Lib.hid (fun w => sub_is (a := t) (b := z) w (by omega) (by omega) (by omega) hd)
          have HDD := Lib.hid hd
          clear hD hx hd
          go_wp2_with fail
          refine (CS.out _).mono ?_
          rintro e w2 ⟨rfl, h2⟩
          have HK2 := Lib.hid (Kept.trans (S' := fun _ => False) (Kept.alloc HX.out _) (Kept.of_below h2) (fun _ _ h => h))
          clear h2
          go_wp2_with fail
          all_goals
            go_roundw
            case rel => exact ⟨i + 1, by omega, by go_num, by rw [HS.out, ← HD.out]; simp only [← HDD.out]; congr 1; omega, HK2.out⟩
            case measure => exact meas4 L i hil
        · have e4 : i = L := by omega
          subst e4
          go_wp2_with fail
          go_roundw
          case rel => exact ⟨k + 1, by omega, by go_num, by rw [HL.out, List.take_length]; rfl, HX.out⟩
          case measure => exact meas4 4 k hlt
    · go_wp2
      go_ret
      have e4 : k = 4 := by omega
      subst e4
      exact ⟨rfl, HWW.out.trans HW.out (fun _ _ h => h)⟩
end Go.Proofs.Ytkjjkepiihdihaa.Pace
