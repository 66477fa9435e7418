/- The laws BitsReads and BitsJoin; no condition but that the arguments are of their kinds. -/
import Derived.Test.YtlbpoenkdnampaaBitsLaw
import Derived.Deep.RegionHeld3
namespace Go.Proofs.Ytlbpoenkdnampaa.Bits
open Go.RowKit Go.Proofs.Ytlbpoenkdnampaa.Plain Go.Proofs.Ytlbpoenkdnampaa.Heap Go.Proofs.Ytlbpoenkdnampaa.Open

theorem RB.kept {S : Nat → Prop} {t : TypeId} {B : Nat} {w0 w w' : World} {p : Nat} {s : ByteArray} {x : Nat × Bool} (h : RB t B w0 w p s x) (hk : Kept S w w') (hB : ∀ i, S i → B ≤ i) (hp : ¬ S p) : RB t B w0 w' p s x :=
  ⟨h.1, Nat.le_trans h.2.1 hk.size, h.2.2.1.trans (hk.below h.2.1 hB), h.2.2.2.1, h.2.2.2.2.kept hk hp⟩
theorem RB.quiet {t : TypeId} {B : Nat} {w0 w : World} {p : Nat} {s : ByteArray} {x : Nat × Bool} (h : RB t B w0 w p s x) (q : Nat) : RB t B w0 (w.drewN q) p s x := ⟨h.1, h.2.1, below_drewN h.2.2.1 q, h.2.2.2.1, h.2.2.2.2⟩
/-- Two readers of the call's own. -/
def RP (t t' : TypeId) (B : Nat) (w0 w : World) (p q : Nat) (s : ByteArray) (x y : Nat × Bool) : Prop := RB t B w0 w p s x ∧ RB t' B w0 w q s y ∧ p ≠ q
theorem RP.quiet {t t' : TypeId} {B : Nat} {w0 w : World} {p q : Nat} {s : ByteArray} {x y : Nat × Bool} (h : RP t t' B w0 w p q s x y) (k : Nat) : RP t t' B w0 (w.drewN k) p q s x y := ⟨h.1.quiet k, h.2.1.quiet k, h.2.2⟩
theorem RB.drew {t : TypeId} {B : Nat} {w0 w : World} {p : Nat} {s : ByteArray} {x : Nat × Bool} (h : RB t B w0 w p s x) : RB t B w0 w.drew p s x := ⟨h.1, h.2.1, ⟨h.2.2.1.os, h.2.2.1.tape, h.2.2.1.output, h.2.2.1.size, h.2.2.1.block⟩, h.2.2.2.1, h.2.2.2.2⟩
theorem RP.drew {t t' : TypeId} {B : Nat} {w0 w : World} {p q : Nat} {s : ByteArray} {x y : Nat × Bool} (h : RP t t' B w0 w p q s x y) : RP t t' B w0 w.drew p q s x y := ⟨h.1.drew, h.2.1.drew, h.2.2⟩
theorem RP.swap {t t' : TypeId} {B : Nat} {w0 w : World} {p q : Nat} {s : ByteArray} {x y : Nat × Bool} (h : RP t t' B w0 w p q s x y) : RP t' t B w0 w q p s y x := ⟨h.2.1, h.1, fun e => h.2.2 e.symm⟩
theorem get_rp {t' : TypeId} (B : Nat) (w0 w : World) (s : ByteArray) (x y : Nat × Bool) (n : Int) (p q : Nat) (h : RP 48 t' B w0 w p q s x y) (hs : s.size ≤ 1099511627776) :
    Calls Try.prog 12 #[.pointer (some ⟨p, 0, none⟩), .int .i64 n] w fun e w' => e = .returned (.int .u32 (gets s x.1 x.2 n).1) ∧ RP 48 t' B w0 w' p q s (gets s x.1 x.2 n).2 y := by
  obtain ⟨h1, h2, h3⟩ := h
  exact (get_rb B w0 w s x n p h1 hs).mono fun e w' ⟨k1, k2, k3⟩ => ⟨k1, k2, h2.kept k3 (fun i hi => by rw [hi]; exact h1.1) (fun e => h3 e.symm), h3⟩
theorem ref_get_rp {t' : TypeId} (B : Nat) (w0 w : World) (s : ByteArray) (x y : Nat × Bool) (n : Int) (p q : Nat) (h : RP t' 50 B w0 w q p s y x) (hs : s.size ≤ 1099511627776) :
    Calls Try.prog 13 #[.pointer (some ⟨p, 0, none⟩), .int .i64 n] w fun e w' => e = .returned (.int .u32 (gets s x.1 x.2 n).1) ∧ RP t' 50 B w0 w' q p s y (gets s x.1 x.2 n).2 := by
  obtain ⟨h1, h2, h3⟩ := h
  obtain ⟨hp, hB, h0, hx, hw⟩ := h2
  exact (ref_get_any s x.1 p x.2 n w hw hs hx).mono fun e w' ⟨k1, k2, k3⟩ => ⟨k1, h1.kept k3 (fun i hi => by rw [hi]; exact hp) h3, ⟨hp, Nat.le_trans hB k3.size, h0.trans (k3.below hB (fun i hi => by rw [hi]; exact hp)), gets_at s x.1 x.2 n hx, k2⟩, h3⟩
theorem left_rp {t' : TypeId} (B : Nat) (w0 w : World) (s : ByteArray) (x y : Nat × Bool) (p q : Nat) (h : RP 48 t' B w0 w p q s x y) (hs : s.size ≤ 1099511627776) :
    Calls Try.prog 14 #[.pointer (some ⟨p, 0, none⟩)] w fun e w' => e = .returned (.int .i64 (left s x.1 x.2)) ∧ RP 48 t' B w0 w' p q s x y := by
  exact (left_rb B w0 w s x p h.1 hs).mono fun e w' ⟨k1, k2, k, k3⟩ => by subst k3; exact ⟨k1, h.quiet k⟩
theorem ref_left_rp {t' : TypeId} (B : Nat) (w0 w : World) (s : ByteArray) (x y : Nat × Bool) (p q : Nat) (h : RP t' 50 B w0 w q p s y x) (hs : s.size ≤ 1099511627776) :
    Calls Try.prog 15 #[.pointer (some ⟨p, 0, none⟩)] w fun e w' => e = .returned (.int .i64 (left s x.1 x.2)) ∧ RP t' 50 B w0 w' q p s y x := by
  exact (ref_left_any s x.1 p x.2 w h.2.1.2.2.2.2 hs h.2.1.2.2.2.1).mono fun e w' ⟨k1, k, k3⟩ => by subst k3; exact ⟨k1, h.quiet k⟩
theorem bad_rp {t' : TypeId} (B : Nat) (w0 w : World) (s : ByteArray) (x y : Nat × Bool) (p q : Nat) (h : RP 48 t' B w0 w p q s x y) :
    Calls Try.prog 16 #[.pointer (some ⟨p, 0, none⟩)] w fun e w' => e = .returned (.bool x.2) ∧ RP 48 t' B w0 w' p q s x y := by
  exact (bad_rb B w0 w s x p h.1).mono fun e w' ⟨k1, k2, k, k3⟩ => by subst k3; exact ⟨k1, h.quiet k⟩
theorem ref_bad_rp {t' : TypeId} (B : Nat) (w0 w : World) (s : ByteArray) (x y : Nat × Bool) (p q : Nat) (h : RP t' 50 B w0 w q p s y x) :
    Calls Try.prog 17 #[.pointer (some ⟨p, 0, none⟩)] w fun e w' => e = .returned (.bool x.2) ∧ RP t' 50 B w0 w' q p s y x := by
  exact (ref_bad_any s x.1 p x.2 w h.2.1.2.2.2.2).mono fun e w' ⟨k1, k, k3⟩ => by subst k3; exact ⟨k1, h.quiet k⟩
theorem RP.new (t t' : TypeId) (w w1 w2 : World) (s : ByteArray) (h1 : w1 = w.alloc (.cells #[.string s, .int .i64 0, .bool false] t)) (h2 : w2 = w1.alloc (.cells #[.string s, .int .i64 0, .bool false] t')) : RP t t' w.heap.size w w2 w.heap.size w1.heap.size s (0, false) (0, false) := by
  have e1 : w1.heap.size = w.heap.size + 1 := by subst h1; simp
  have b1 : Below w.heap.size w w1 := by subst h1; exact (Below.refl _ _).alloc (Nat.le_refl _) _
  have b2 : Below w.heap.size w w2 := by subst h2; exact b1.alloc (by omega) _
  have e2 : w2.heap.size = w.heap.size + 2 := by subst h2; simp; omega
  have r1 : RR t w1 w.heap.size s 0 false := by subst h1; exact RR.new t s w
  refine ⟨⟨Nat.le_refl _, by omega, b2, Nat.zero_le _, ?_⟩, ⟨by omega, by omega, b2, Nat.zero_le _, ?_⟩, by omega⟩
  · subst h2
    exact r1.kept ((Kept.refl (fun _ => False) w1).alloc _) id
  · subst h2
    exact RR.new t' s w1
theorem RP.done {t t' : TypeId} {B : Nat} {w0 w w' : World} {p q : Nat} {s : ByteArray} {x y : Nat × Bool} (h : RP t t' B w0 w p q s x y) (hb : Below w.heap.size w w') : Below B w0 w' := below_then h.1.2.2.1 h.1.2.1 hb
theorem RP.cell {t t' : TypeId} {B : Nat} {w0 w w' : World} {p q : Nat} {s : ByteArray} {x y x' y' : Nat × Bool} (h : RP t t' B w0 w' p q s x y) (k : RP t t' B w0 w p q s x' y') {b off : Nat} {u : Value} (hb : b < B) (hc : w.cell? ⟨b, off, none⟩ = some u) : w'.cell? ⟨b, off, none⟩ = some u :=
  (h.1.2.2.1.cell (p := ⟨b, off, none⟩) hb).trans ((k.1.2.2.1.cell (p := ⟨b, off, none⟩) hb).symm.trans hc)
/-- The place after so many asks. -/
def walk (s : ByteArray) (l : List Int) (k : Nat) : Nat × Bool := (l.take k).foldl (fun x n => (gets s x.1 x.2 n).2) (0, false)
theorem walk_succ (s : ByteArray) (l : List Int) (k : Nat) (h : k < l.length) : (gets s (walk s l k).1 (walk s l k).2 (l.getD k 0)).2 = walk s l (k + 1) := by
  unfold walk
  rw [List.take_succ_eq_append_getElem h, List.foldl_append, List.getD_eq_getElem?_getD, List.getElem?_eq_getElem h]
  rfl
theorem dec_of {a b : Int} (h : a = b) : decide (a = b) = true := decide_eq_true h
set_option maxHeartbeats 400000 in
theorem BitsReads_any (s : ByteArray) (A : Option Addr) (n c : Nat) (l : List Int) (w : World) (hr : RI w .i64 A n l) :
    Calls Try.prog 3 #[.string s, .slice A n c] w fun e w' => e = .returned (.bool true) ∧ Below w.heap.size w w' := by
  have HR := Lib.hid hr
  clear hr
  by_cases hs : 70000 < (s.size : Int)
  · go_enter Try.func3, Try.ntmps3
    go_wp2_with (first
      | (go_at_call 9; refine (wakes_any _).mono ?_; rintro e w1 ⟨rfl, hb⟩))
    go_ret
    exact ⟨rfl, hb⟩
  · have hS : s.size ≤ 1099511627776 := by omega
    go_enter Try.func3, Try.ntmps3
    go_wp2_with fail
    refine (read_any _ _).mono ?_
    rintro e w1 ⟨rfl, h1⟩
    have H1 := Lib.hid h1; clear h1
    go_wp2_with fail
    refine (ref_read_any _ _).mono ?_
    rintro e w2 ⟨rfl, h2⟩
    have H2 := Lib.hid (RP.new _ _ _ _ _ _ H1.out h2); clear h2 H1
    obtain ⟨p, hp⟩ : ∃ p, p = w.heap.size := ⟨_, rfl⟩
    obtain ⟨q, hq⟩ : ∃ q, q = w1.heap.size := ⟨_, rfl⟩
    have HP := Lib.hid hp
    rw [← hp, ← hq]
    rw [← hq] at H2
    have H3 := Lib.hid (show RP 48 50 w.heap.size w w2 p q s (0, false) (0, false) by rw [hp]; exact H2.out)
    clear H2 hp hq
    go_wp2
    go_loopw [7] (fun i wr => ∃ k : Nat, k ≤ n ∧ i = .int .i64 k ∧ RP 48 50 w.heap.size w wr p q s (walk s l k) (walk s l k)) (fun i _ => n - (intOf i).toNat)
    case atStart => exact ⟨0, Nat.zero_le _, rfl, H3.out⟩
    case round =>
      obtain ⟨k, hk, rfl, hrp⟩ := hrel
      have HQ := Lib.hid hrp
      clear hrp
      by_cases hlt : k < n
      · by_cases hlt3 : (k : Int) < 300
        · obtain ⟨b, off, rfl, hblt, hcell⟩ := HR.out.2.2 (by omega)
          have hc : wr.cell? ⟨b, off + k, none⟩ = some (.int .i64 (l.getD k 0)) := (HQ.out.1.2.2.1.cell (p := ⟨b, off + k, none⟩) hblt).trans (hcell k hlt)
          have HX := Lib.hid (walk_succ s l k (by rw [HR.out.1]; exact hlt))
          clear hcell
          generalize l.getD k 0 = x at *
          have HC := Lib.hid (HR.out.2.2 (by omega))
          have HB := Lib.hid hblt
          go_wp2
          go_region_held3 (fun w' => w'.cell? ⟨b, off + k, none⟩ = some (.int .i64 x)) (assumption)
            (first
              | (go_at_call 12; refine (get_rp _ _ _ _ _ _ x _ _ HQ.out.drew hS).mono ?_; rintro e w3 ⟨rfl, h3⟩; have H3 := Lib.hid h3; have hc3 := h3.cell HQ.out hblt hc; clear h3)
              | (go_at_call 13; refine (ref_get_rp _ _ _ _ _ _ x _ _ H3.out hS).mono ?_; rintro e w4 ⟨rfl, h4⟩; rw [HX.out] at h4; have H4 := Lib.hid h4; have hc4 := h4.cell HQ.out hblt hc; clear h4)
              | (go_at_call 14; refine (left_rp _ _ _ _ _ _ _ _ H4.out hS).mono ?_; rintro e w5 ⟨rfl, h5⟩; have H5 := Lib.hid h5; have hc5 := h5.cell HQ.out hblt hc; clear h5)
              | (go_at_call 15; refine (ref_left_rp _ _ _ _ _ _ _ _ H5.out hS).mono ?_; rintro e w6 ⟨rfl, h6⟩; have H6 := Lib.hid h6; have hc6 := h6.cell HQ.out hblt hc; clear h6)
              | (go_at_call 16; refine (bad_rp _ _ _ _ _ _ _ _ H6.out).mono ?_; rintro e w7 ⟨rfl, h7⟩; have H7 := Lib.hid h7; have hc7 := h7.cell HQ.out hblt hc; clear h7)
              | (go_at_call 17; refine (ref_bad_rp _ _ _ _ _ _ _ _ H7.out).mono ?_; rintro e w8 ⟨rfl, h8⟩; have H8 := Lib.hid h8; have hc8 := h8.cell HQ.out hblt hc; clear h8))
          go_wp2
          go_roundw
          case rel => exact ⟨k + 1, by omega, by go_num, H8.out⟩
          case measure => simp [intOf]; omega
        · go_wp2_with fail
          refine (wakes_any _).mono ?_
          rintro e w3 ⟨rfl, hb⟩
          go_wp2
          go_ret
          exact ⟨rfl, HQ.out.done hb⟩
      · go_wp2_with fail
        refine (wakes_any _).mono ?_
        rintro e w3 ⟨rfl, hb⟩
        go_wp2
        go_ret
        exact ⟨rfl, HQ.out.done hb⟩
theorem mod_walk (a : Int) (k : Nat) (h : 0 < k) (h' : k ≤ 64) : ∃ n : Nat, n < k ∧ wrap64 ((IntKind.u64.wrap a).tmod (k : Int)) = (n : Int) := by
  have e : ∀ n, IntKind.u64.wrap n = n % 18446744073709551616 := fun n => by simp [IntKind.wrap, IntKind.bits, IntKind.signed]
  rw [e]
  have h0 : 0 ≤ a % 18446744073709551616 := by omega
  generalize a % 18446744073709551616 = x at *
  rw [Int.tmod_eq_emod_of_nonneg h0]
  have h1 := Int.emod_nonneg x (show (k : Int) ≠ 0 by omega)
  have h2 := Int.emod_lt_of_pos x (show (0 : Int) < (k : Int) by omega)
  obtain ⟨n, hn⟩ := Int.eq_ofNat_of_zero_le h1
  exact ⟨n, by omega, by rw [hn]; exact w64 (by omega) (by omega)⟩
theorem join_walk (s : ByteArray) (n m : Nat) (hn : n ≤ 16) (hm : m ≤ 15) : Go.bits .or .u32 (val s 0 n * 2 ^ m % 4294967296) (val s n m) = val s 0 (n + m) := by
  have h := val_add s 0 n m
  rw [Nat.zero_add] at h
  have a1 := val_bd s 0 n
  have a2 := val_bd s n m
  have a3 := (val_bd s 0 (n + m)).2
  have p1 : ((2 ^ (n + m) : Nat) : Int) ≤ ((2 ^ 31 : Nat) : Int) := Int.ofNat_le.2 (Nat.pow_le_pow_right (by omega) (by omega))
  have p2 : ((2 ^ m : Nat) : Int) ≤ ((2 ^ 15 : Nat) : Int) := Int.ofNat_le.2 (Nat.pow_le_pow_right (by omega) (by omega))
  have p3 : 0 ≤ val s 0 n * 2 ^ m := Int.mul_nonneg a1.1 (by omega)
  simp at p1 p2
  rw [h] at a3 ⊢
  have e : val s 0 n * 2 ^ m % 4294967296 = val s 0 n * 2 ^ m := by omega
  rw [e, u32_or _ _ (by omega) (by omega) (by omega) (by omega)]
  obtain ⟨X, hX⟩ := Int.eq_ofNat_of_zero_le a1.1
  obtain ⟨Y, hY⟩ := Int.eq_ofNat_of_zero_le a2.1
  have h2 := a2.2
  rw [hX, hY] at *
  have hc : (X : Int) * 2 ^ m = ((X * 2 ^ m : Nat) : Int) := by simp
  have h3 : Y < 2 ^ m := by
    have h4 : (Y : Int) < ((2 ^ m : Nat) : Int) := by simpa using h2
    omega
  rw [hc, Int.toNat_natCast, Int.toNat_natCast, nat_join m _ _ (Nat.mul_mod_left _ _) h3]
  simp
set_option maxHeartbeats 400000 in
theorem BitsJoin_any (s : ByteArray) (a b : Int) (w : World) :
    Calls Try.prog 5 #[.string s, .int .i64 a, .int .i64 b] w fun e w' => e = .returned (.bool true) ∧ Below w.heap.size w w' := by
  by_cases hs : 70000 < (s.size : Int)
  · go_enter Try.func5, Try.ntmps5
    go_wp2_with (first
      | (go_at_call 9; refine (wakes_any _).mono ?_; rintro e w1 ⟨rfl, hb⟩))
    go_ret
    exact ⟨rfl, hb⟩
  · have hS : s.size ≤ 1099511627776 := by omega
    go_enter Try.func5, Try.ntmps5
    have HA := Lib.hid (mod_walk a 17 (by omega) (by omega))
    have HB := Lib.hid (mod_walk b 16 (by omega) (by omega))
    obtain ⟨n, hn, ea⟩ := HA.out
    obtain ⟨m, hm, eb⟩ := HB.out
    have ea : wrap64 ((IntKind.u64.wrap a).tmod 17) = (n : Int) := ea
    have eb : wrap64 ((IntKind.u64.wrap b).tmod 16) = (m : Int) := eb
    have en : wrap64 ((n : Int) + (m : Int)) = (n : Int) + (m : Int) := w64 (by omega) (by omega)
    have es : wrap64 (8 * (s.size : Int)) = 8 * (s.size : Int) := w64 (by omega) (by omega)
    clear HA HB
    go_wp2_with fail
    refine (read_any _ _).mono ?_
    rintro e w1 ⟨rfl, h1⟩
    have H1 := Lib.hid h1; clear h1
    go_wp2_with fail
    refine (read_any _ _).mono ?_
    rintro e w2 ⟨rfl, h2⟩
    have H2 := Lib.hid (RP.new _ _ _ _ _ _ H1.out h2); clear h2 H1
    obtain ⟨p, hp⟩ : ∃ p, p = w.heap.size := ⟨_, rfl⟩
    obtain ⟨q, hq⟩ : ∃ q, q = w1.heap.size := ⟨_, rfl⟩
    rw [← hp, ← hq]
    rw [← hq] at H2
    have H3 := Lib.hid (show RP 48 48 w.heap.size w w2 p q s (0, false) (0, false) by rw [hp]; exact H2.out)
    clear H2 hp hq
    go_wp2_with fail
    by_cases hz : 8 * (s.size : Int) < (n : Int) + (m : Int)
    · have E0 : gets s 0 false ((n : Int) + (m : Int)) = (0, 0, true) := gets_no (by omega)
      have HE := Lib.hid E0
      clear E0
      refine (get_rp _ _ _ _ _ _ n _ _ H3.out hS).mono ?_
      rintro e w3 ⟨rfl, h3⟩
      have H4 := Lib.hid h3; clear h3
      go_wp2_with fail
      refine (get_rp _ _ _ _ _ _ m _ _ H4.out hS).mono ?_
      rintro e w4 ⟨rfl, h4⟩
      have H5 := Lib.hid h4.swap; clear h4
      generalize (gets s (0, false).1 (0, false).2 ↑n).1 = xv at *
      generalize (gets s (gets s (0, false).1 (0, false).2 ↑n).2.1 (gets s (0, false).1 (0, false).2 ↑n).2.2 ↑m).1 = yv at *
      go_wp2_with fail
      refine (get_rp _ _ _ _ _ _ ((n : Int) + m) _ _ H5.out hS).mono ?_
      rintro e w5 ⟨rfl, h5⟩
      rw [HE.out] at h5 ⊢
      have H6 := Lib.hid h5; clear h5
      go_wp2_with fail
      refine (bad_rp _ _ _ _ _ _ _ _ H6.out).mono ?_
      rintro e w6 ⟨rfl, h6⟩
      have H7 := Lib.hid h6; clear h6
      go_wp2_with fail
      refine (wakes_any _).mono ?_
      rintro e w7 ⟨rfl, hb⟩
      go_wp2
      go_ret
      exact ⟨rfl, H7.out.done hb⟩
    · have E1 : gets s 0 false (n : Int) = (val s 0 n, n, false) := by rw [gets_yes (by omega) (by omega), Nat.zero_add]
      have E2 : gets s n false (m : Int) = (val s n m, n + m, false) := gets_yes (by omega) (by omega)
      have E3 : gets s 0 false ((n : Int) + (m : Int)) = (val s 0 (n + m), n + m, false) := by
        rw [show (n : Int) + (m : Int) = ((n + m : Nat) : Int) by omega, gets_yes (by omega) (by omega), Nat.zero_add]
      have F1 := Lib.hid E1
      have F2 := Lib.hid E2
      have F3 := Lib.hid E3
      have F4 := Lib.hid (join_walk s n m (by omega) (by omega))
      clear E1 E2 E3
      refine (get_rp _ _ _ _ _ _ n _ _ H3.out hS).mono ?_
      rintro e w3 ⟨rfl, h3⟩
      rw [F1.out] at h3 ⊢
      have H4 := Lib.hid h3; clear h3
      go_wp2_with fail
      refine (get_rp _ _ _ _ _ _ m _ _ H4.out hS).mono ?_
      rintro e w4 ⟨rfl, h4⟩
      rw [F2.out] at h4 ⊢
      have H5 := Lib.hid h4.swap; clear h4
      generalize val s 0 n = xv at *
      generalize val s n m = yv at *
      generalize val s 0 (n + m) = zv at *
      go_wp2_with fail
      refine (get_rp _ _ _ _ _ _ ((n : Int) + m) _ _ H5.out hS).mono ?_
      rintro e w5 ⟨rfl, h5⟩
      rw [F3.out] at h5 ⊢
      have H6 := Lib.hid h5.swap; clear h5
      have f4 := F4.out
      go_wp2_with fail
      refine (left_rp _ _ _ _ _ _ _ _ H6.out hS).mono ?_
      rintro e w6 ⟨rfl, h6⟩
      have H7 := Lib.hid h6.swap; clear h6
      go_wp2_with fail
      refine (left_rp _ _ _ _ _ _ _ _ H7.out hS).mono ?_
      rintro e w7 ⟨rfl, h7⟩
      have H8 := Lib.hid h7; clear h7
      go_wp2_with fail
      refine (wakes_any _).mono ?_
      rintro e w8 ⟨rfl, hb⟩
      go_wp2
      go_ret
      exact ⟨rfl, H8.out.done hb⟩
theorem BitsReads_row (s : ByteArray) (A : Option Addr) (n c : Nat) (l : List Int) (w : World) (_ : s.size ≤ maxLen) (h : Els 1 (rInt .i64) w A n l) :
    Calls Try.prog 3 #[.string s, .slice A n c] w fun e w' => e = .returned (.bool true) ∧ Below w.heap.size w w' := BitsReads_any s A n c l w h.ints.1
theorem BitsJoin_row (s : ByteArray) (a b : Int) (w : World) (_ : s.size ≤ maxLen) (_ : (Lit.int .i64 a).wf = true) (_ : (Lit.int .i64 b).wf = true) :
    Calls Try.prog 5 #[.string s, .int .i64 a, .int .i64 b] w fun e w' => e = .returned (.bool true) ∧ Below w.heap.size w w' := BitsJoin_any s a b w
end Go.Proofs.Ytlbpoenkdnampaa.Bits
