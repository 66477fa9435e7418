/- Which chunk the program lays next; no condition but the ranges in each. -/
import Derived.Test.YtmedlplgeeeodaaTwLay
namespace Go.Proofs.Ytmedlplgeeeodaa.Tw
open Go.RowKit Go.Proofs.Ytmedlplgeeeodaa.Plain Go.Proofs.Ytmedlplgeeeodaa.Heap Go.Proofs.Ytmedlplgeeeodaa.Open Go.Proofs.Ytmedlplgeeeodaa.Rows Go.Proofs.Ytmedlplgeeeodaa.Bits

section
variable {w0 w : World} {p b : Nat} {A : Option Addr} {c : Nat} {l : List Int} {E : Nat → Prop} {L : List Int}
theorem wide_any (h : LY w0 w p b A c l E L) (hL : L.length + 16 ≤ 524288) (hn : l.length ≤ 4096) (h0 : ∀ x ∈ l, 0 ≤ x ∧ x ≤ 2) :
    Calls Try.prog 45 #[.pointer (some ⟨b, 0, none⟩)] w fun e w' => e = .returned (.int .i64 ((min 14 l.length : Nat) : Int)) ∧ LY w0 w' p b A c l E (L ++ (bitsOf 1 1 ++ bitsOf 0 1 ++ rowB l 1 14)) := by
  have H := Lib.hid (row_any 14 1 h hL hn h0 (by omega) (by omega) (by omega) (by omega))
  clear h hL hn h0
  go_enter Try.func45, Try.ntmps45
  go_wp2_with fail
  refine (H.out).mono ?_
  rintro e W2 ⟨rfl, h1⟩
  have H1 := Lib.hid h1
  clear h1
  obtain ⟨m, hm⟩ : ∃ m, m = min 14 l.length := ⟨_, rfl⟩
  rw [← hm]
  have HMM := Lib.hid hm
  clear hm
  go_wp2_with fail
  go_ret
  exact ⟨by rw [← HMM.out]; rfl, H1.out⟩
theorem narrow_any (h : LY w0 w p b A c l E L) (hL : L.length + 16 ≤ 524288) (hn : l.length ≤ 4096) (h0 : ∀ x ∈ l, 0 ≤ x ∧ x ≤ 2) :
    Calls Try.prog 44 #[.pointer (some ⟨b, 0, none⟩)] w fun e w' => e = .returned (.int .i64 ((min 7 l.length : Nat) : Int)) ∧ LY w0 w' p b A c l E (L ++ (bitsOf 1 1 ++ bitsOf 1 1 ++ rowB l 2 7)) := by
  have H := Lib.hid (row_any 7 2 h hL hn h0 (by omega) (by omega) (by omega) (by omega))
  clear h hL hn h0
  go_enter Try.func44, Try.ntmps44
  go_wp2_with fail
  refine (H.out).mono ?_
  rintro e W2 ⟨rfl, h1⟩
  have H1 := Lib.hid h1
  clear h1
  obtain ⟨m, hm⟩ : ∃ m, m = min 7 l.length := ⟨_, rfl⟩
  rw [← hm]
  have HMM := Lib.hid hm
  clear hm
  go_wp2_with fail
  go_ret
  exact ⟨by rw [← HMM.out]; rfl, H1.out⟩
end
/-- Which function lays the next chunk. -/
def layF (l : List Int) : Nat := if 7 ≤ alk l ∨ alk l = l.length then 43 else if twoB l = true then 44 else 45
theorem lay_any {w0 w : World} {p b : Nat} {A : Option Addr} {c : Nat} {l : List Int} {E : Nat → Prop} {L : List Int} (h : LY w0 w p b A c l E L) (hL : L.length + 16 ≤ 524288) (hl : l ≠ []) (hn : l.length ≤ 4096) (h0 : ∀ x ∈ l, 0 ≤ x ∧ x ≤ 2) :
    Calls Try.prog (layF l) #[.pointer (some ⟨b, 0, none⟩)] w fun e w' => e = .returned (.int .i64 ((lay l).2 : Int)) ∧ LY w0 w' p b A c l E (L ++ (lay l).1) := by
  unfold layF
  by_cases h1 : 7 ≤ alk l ∨ alk l = l.length
  · rw [if_pos h1, lay_run h1]
    have hm : l.getD 0 0 ∈ l := by
      cases l with
      | nil => exact absurd rfl hl
      | cons x l => exact List.mem_cons_self ..
    exact run_any h hL hl hn (h0 _ hm).1 (h0 _ hm).2
  · rw [if_neg h1]
    by_cases h2 : twoB l = true
    · rw [if_pos h2, lay_two h1 h2]
      exact narrow_any h hL hn h0
    · rw [if_neg h2, lay_one h1 (by simpa using h2)]
      exact wide_any h hL hn h0
theorem two_hit {l : List Int} {k : Nat} (hk : k < 14) (hx : l[k]? = some 2) : twoB l = true := by
  unfold twoB
  rw [List.any_eq_true]
  exact ⟨2, List.mem_of_getElem? (i := k) (by rw [List.getElem?_take_of_lt hk]; exact hx), by decide⟩
def no2 (l : List Int) (k : Nat) : Prop := (l.take k).any (fun y => decide (y = 2)) = false
theorem no2_zero (l : List Int) : no2 l 0 := rfl
theorem no2_succ {l : List Int} {k : Nat} {x : Int} (h : no2 l k) (hx : l[k]? = some x) (h2 : ¬ x = 2) : no2 l (k + 1) := by
  unfold no2 at *
  obtain ⟨hl, rfl⟩ := List.getElem?_eq_some_iff.1 hx
  rw [List.take_succ_eq_append_getElem hl, List.any_append, h]
  simp [h2]
theorem no2_end {l : List Int} {k : Nat} (h : no2 l k) (hk : k = min 14 l.length) : twoB l = false := by
  unfold no2 at h
  unfold twoB
  rcases Nat.lt_or_ge 14 l.length with h1 | h1
  · rw [show k = 14 by omega] at h; exact h
  · rw [show k = l.length by omega, List.take_length] at h
    rw [List.take_of_length_le h1]
    exact h
set_option maxRecDepth 10000 in
set_option maxHeartbeats 4000000 in
theorem lays_any {w0 w : World} {p b : Nat} {A : Option Addr} {c : Nat} {l : List Int} {E : Nat → Prop} {L : List Int} (h : LY w0 w p b A c l E L) (hl : l ≠ []) (hn : l.length ≤ 4096) :
    Calls Try.prog 20 #[.pointer (some ⟨b, 0, none⟩)] w fun e w' => e = .returned (.func (.func (layF l)) #[.pointer (some ⟨b, 0, none⟩)] #[]) ∧ ∃ q, w' = w.drewN q := by
  obtain ⟨n, hnn⟩ : ∃ n, n = l.length := ⟨_, rfl⟩
  have hn0 : 0 < n := by rw [hnn]; exact List.length_pos_iff.2 hl
  have hz : (n : Int) ≤ 4096 := by omega
  have x1 := h.x1
  have hnc : (n : Int) ≤ (c : Int) := by have := h.cn; omega
  rw [← hnn] at x1
  have HR := Lib.hid (show Rd w 1 A n (nums .i64 l) by rw [hnn]; exact h.rw)
  obtain ⟨g, off, v0, e, hg, hv0, _, y0⟩ := int_at HR.out (k := 0) hn0
  subst e
  have HN := Lib.hid hnn
  obtain ⟨M, hM⟩ : ∃ M, M = alk l := ⟨_, rfl⟩
  have HM := Lib.hid hM
  have hMn : (M : Int) ≤ (n : Int) := by have := alk_le l; omega
  have hmf : ∀ (fn : Fn) (first cap : Array Value) (w : World), (Instr.makeFunc fn first cap).run Try.prog w = .ok (.func fn first cap) w := fun _ _ _ _ => rfl
  have hal : ∀ q, Calls Try.prog 42 #[.slice (some ⟨g, off, none⟩) n c] (w.drewN q) fun e w' => e = .returned (.int .i64 (M : Int)) ∧ ∃ m, w' = (w.drewN q).drewN m := fun q => by
    rw [hM]
    exact alike_any _ n c l _ (HR.out.kept ((Kept.refl (fun _ => False) w).drewN q) (fun _ _ _ => id)) (by omega)
  have HAL := Lib.hid hal
  clear h hl hn hnn hM hv0 hg y0 hal
  obtain ⟨K, hK⟩ : ∃ K, K = layF l := ⟨_, rfl⟩
  have HK := Lib.hid hK
  rw [← hK]
  clear hK
  go_enter Try.func20, Try.ntmps20
  rcases (show (7 ≤ (n : Int) ∧ 7 ≤ (M : Int)) ∨ (7 ≤ (n : Int) ∧ ¬ 7 ≤ (M : Int)) ∨ (¬ 7 ≤ (n : Int) ∧ (M : Int) = (n : Int)) ∨ (¬ 7 ≤ (n : Int) ∧ (M : Int) < (n : Int)) by omega) with ⟨a, b1⟩ | ⟨a, b1⟩ | ⟨a, b1⟩ | ⟨a, b1⟩
  · have HK2 := Lib.hid (show K = 43 by rw [HK.out]; unfold layF; rw [if_pos (by have := HM.out; have := HN.out; omega)])
    go_wp2_with fail
    go_quiet ((go_at_call 42; exact Calls.quiet_of (HAL.out _)))
    go_wp2_with fail
    go_ret
    exact ⟨by rw [HK2.out]; rfl, _, rfl⟩
  · have HNR := Lib.hid (show ¬ (7 ≤ alk l ∨ alk l = l.length) by have := HM.out; have := HN.out; omega)
    go_wp2_with fail
    go_quiet ((go_at_call 42; exact Calls.quiet_of (HAL.out _)))
    go_wp2_with fail
    obtain ⟨m, hm, hmn⟩ : ∃ m : Nat, m = min 14 n ∧ (m : Int) ≤ (n : Int) := ⟨_, rfl, by omega⟩
    have hm14 : (m : Int) ≤ 14 := by omega
    have HMM := Lib.hid hm
    have hmin : (14 ≤ (n : Int) ∧ m = 14) ∨ (¬ 14 ≤ (n : Int) ∧ m = n) := by omega
    clear hm
    have HRM := Lib.hid (show ∀ (q k : Nat), (k : Int) < (m : Int) → ∃ x, l[k]? = some x ∧ (w.drewN q).cell? ⟨g, off + k, none⟩ = some (.int .i64 x) from fun q k hk => by
      obtain ⟨g', off', x, e, _, hx, _, y⟩ := int_at HR.out (k := k) (by omega)
      injection e with e
      injection e with e1 e2
      subst e1 e2
      exact ⟨x, hx, y⟩)
    clear hmn
    rcases hmin with ⟨d, hm14e⟩ | ⟨d, hmne⟩
    · subst hm14e
      go_quiet (fail)
      go_wp2_with fail
      go_loopw [31] (fun iv wx => ∃ k q : Nat, (k : Int) ≤ 14 ∧ iv = .int .i64 (k : Int) ∧ no2 l k ∧ wx = w.drewN q) (fun iv _ => (14 - intOf iv).toNat)
      case atStart => exact ⟨0, _, by omega, rfl, no2_zero l, by first | rfl | rw [World.drewN_drewN]⟩
      case round =>
        obtain ⟨k, q, hk, rfl, h2, rfl⟩ := hrel
        have H2 := Lib.hid h2
        clear h2
        by_cases hkm : (k : Int) < 14
        · obtain ⟨x, hx, y⟩ := HRM.out q k hkm
          have HX := Lib.hid hx
          clear hx
          by_cases hx2 : x = 2
          · subst hx2
            have HK2 := Lib.hid (show K = 44 by rw [HK.out]; unfold layF; rw [if_neg HNR.out, if_pos (two_hit (by omega) HX.out)])
            go_wp2_with fail
            go_ret
            exact ⟨by rw [HK2.out]; rfl, _, rfl⟩
          · have HN2 := Lib.hid (no2_succ H2.out HX.out hx2)
            have hx2' : (x == 2) = false := by rw [beq_eq_false_iff_ne]; exact hx2
            clear hx2
            go_wp2_with fail
            go_roundw
            case rel => exact ⟨k + 1, q, by omega, by go_num, HN2.out, rfl⟩
            case measure => simp [intOf]; omega
        · have HK2 := Lib.hid (show K = 45 by
            rw [HK.out]; unfold layF; rw [if_neg HNR.out, if_neg (by rw [no2_end H2.out (by have := HMM.out; have := HN.out; omega)]; decide)])
          go_wp2_with fail
          go_ret
          exact ⟨by rw [HK2.out]; rfl, _, rfl⟩
    · subst hmne
      go_quiet (fail)
      go_wp2_with fail
      go_loopw [31] (fun iv wx => ∃ k q : Nat, (k : Int) ≤ (m : Int) ∧ iv = .int .i64 (k : Int) ∧ no2 l k ∧ wx = w.drewN q) (fun iv _ => ((m : Int) - intOf iv).toNat)
      case atStart => exact ⟨0, _, by omega, rfl, no2_zero l, by first | rfl | rw [World.drewN_drewN]⟩
      case round =>
        obtain ⟨k, q, hk, rfl, h2, rfl⟩ := hrel
        have H2 := Lib.hid h2
        clear h2
        by_cases hkm : (k : Int) < (m : Int)
        · obtain ⟨x, hx, y⟩ := HRM.out q k hkm
          have HX := Lib.hid hx
          clear hx
          by_cases hx2 : x = 2
          · subst hx2
            have HK2 := Lib.hid (show K = 44 by rw [HK.out]; unfold layF; rw [if_neg HNR.out, if_pos (two_hit (by omega) HX.out)])
            go_wp2_with fail
            go_ret
            exact ⟨by rw [HK2.out]; rfl, _, rfl⟩
          · have HN2 := Lib.hid (no2_succ H2.out HX.out hx2)
            have hx2' : (x == 2) = false := by rw [beq_eq_false_iff_ne]; exact hx2
            clear hx2
            go_wp2_with fail
            go_roundw
            case rel => exact ⟨k + 1, q, by omega, by go_num, HN2.out, rfl⟩
            case measure => simp [intOf]; omega
        · have HK2 := Lib.hid (show K = 45 by
            rw [HK.out]; unfold layF; rw [if_neg HNR.out, if_neg (by rw [no2_end H2.out (by have := HMM.out; have := HN.out; omega)]; decide)])
          go_wp2_with fail
          go_ret
          exact ⟨by rw [HK2.out]; rfl, _, rfl⟩
  · have HK2 := Lib.hid (show K = 43 by rw [HK.out]; unfold layF; rw [if_pos (by have := HM.out; have := HN.out; omega)])
    go_wp2_with fail
    go_quiet ((go_at_call 42; exact Calls.quiet_of (HAL.out _)))
    go_wp2_with fail
    go_ret
    exact ⟨by rw [HK2.out]; rfl, _, rfl⟩
  · have HNR := Lib.hid (show ¬ (7 ≤ alk l ∨ alk l = l.length) by have := HM.out; have := HN.out; omega)
    go_wp2_with fail
    go_quiet ((go_at_call 42; exact Calls.quiet_of (HAL.out _)))
    go_wp2_with fail
    obtain ⟨m, hm, hmn⟩ : ∃ m : Nat, m = min 14 n ∧ (m : Int) ≤ (n : Int) := ⟨_, rfl, by omega⟩
    have hm14 : (m : Int) ≤ 14 := by omega
    have HMM := Lib.hid hm
    have hmin : (14 ≤ (n : Int) ∧ m = 14) ∨ (¬ 14 ≤ (n : Int) ∧ m = n) := by omega
    clear hm
    have HRM := Lib.hid (show ∀ (q k : Nat), (k : Int) < (m : Int) → ∃ x, l[k]? = some x ∧ (w.drewN q).cell? ⟨g, off + k, none⟩ = some (.int .i64 x) from fun q k hk => by
      obtain ⟨g', off', x, e, _, hx, _, y⟩ := int_at HR.out (k := k) (by omega)
      injection e with e
      injection e with e1 e2
      subst e1 e2
      exact ⟨x, hx, y⟩)
    clear hmn
    rcases hmin with ⟨d, hm14e⟩ | ⟨d, hmne⟩
    · exfalso; omega
    · subst hmne
      go_quiet (fail)
      go_wp2_with fail
      go_loopw [31] (fun iv wx => ∃ k q : Nat, (k : Int) ≤ (m : Int) ∧ iv = .int .i64 (k : Int) ∧ no2 l k ∧ wx = w.drewN q) (fun iv _ => ((m : Int) - intOf iv).toNat)
      case atStart => exact ⟨0, _, by omega, rfl, no2_zero l, by first | rfl | rw [World.drewN_drewN]⟩
      case round =>
        obtain ⟨k, q, hk, rfl, h2, rfl⟩ := hrel
        have H2 := Lib.hid h2
        clear h2
        by_cases hkm : (k : Int) < (m : Int)
        · obtain ⟨x, hx, y⟩ := HRM.out q k hkm
          have HX := Lib.hid hx
          clear hx
          by_cases hx2 : x = 2
          · subst hx2
            have HK2 := Lib.hid (show K = 44 by rw [HK.out]; unfold layF; rw [if_neg HNR.out, if_pos (two_hit (by omega) HX.out)])
            go_wp2_with fail
            go_ret
            exact ⟨by rw [HK2.out]; rfl, _, rfl⟩
          · have HN2 := Lib.hid (no2_succ H2.out HX.out hx2)
            have hx2' : (x == 2) = false := by rw [beq_eq_false_iff_ne]; exact hx2
            clear hx2
            go_wp2_with fail
            go_roundw
            case rel => exact ⟨k + 1, q, by omega, by go_num, HN2.out, rfl⟩
            case measure => simp [intOf]; omega
        · have HK2 := Lib.hid (show K = 45 by
            rw [HK.out]; unfold layF; rw [if_neg HNR.out, if_neg (by rw [no2_end H2.out (by have := HMM.out; have := HN.out; omega)]; decide)])
          go_wp2_with fail
          go_ret
          exact ⟨by rw [HK2.out]; rfl, _, rfl⟩
end Go.Proofs.Ytmedlplgeeeodaa.Tw
