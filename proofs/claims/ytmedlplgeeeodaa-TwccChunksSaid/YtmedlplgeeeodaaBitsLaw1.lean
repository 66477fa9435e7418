/- The laws BitsReads and BitsJoin; no condition but that the arguments are of their kinds. -/
import Derived.Test.YtmedlplgeeeodaaBitsLaw
import Derived.Deep.RegionHeld3
namespace Go.Proofs.Ytmedlplgeeeodaa.Bits
open Go.RowKit Go.Proofs.Ytmedlplgeeeodaa.Plain Go.Proofs.Ytmedlplgeeeodaa.Heap Go.Proofs.Ytmedlplgeeeodaa.Open

theorem RB.kept {S : Nat → Prop} {t : TypeId} {B : Nat} {w0 w w' : World} {p : Nat} {s : ByteArray} {x : Nat × Bool} (h : RB t B w0 w p s x) (hk : Kept S w w') (hB : ∀ i, S i → B ≤ i) (hp : ¬ S p) : RB t B w0 w' p s x :=
  ⟨h.1, Nat.le_trans h.2.1 hk.size, h.2.2.1.trans (hk.below h.2.1 hB), h.2.2.2.1, h.2.2.2.2.kept hk hp⟩
theorem RB.quiet {t : TypeId} {B : Nat} {w0 w : World} {p : Nat} {s : ByteArray} {x : Nat × Bool} (h : RB t B w0 w p s x) (q : Nat) : RB t B w0 (w.drewN q) p s x := ⟨h.1, h.2.1, below_drewN h.2.2.1 q, h.2.2.2.1, h.2.2.2.2⟩
/-- Two readers of the call's own. -/
def RP (t t' : TypeId) (B : Nat) (w0 w : World) (p q : Nat) (s : ByteArray) (x y : Nat × Bool) : Prop := RB t B w0 w p s x ∧ RB t' B w0 w q s y ∧ p ≠ q
theorem RP.quiet {t t' : TypeId} {B : Nat} {w0 w : World} {p q : Nat} {s : ByteArray} {x y : Nat × Bool} (h : RP t t' B w0 w p q s x y) (k : Nat) : RP t t' B w0 (w.drewN k) p q s x y := ⟨h.1.quiet k, h.2.1.quiet k, h.2.2⟩
theorem RB.drew {t : TypeId} {B : Nat} {w0 w : World} {p : Nat} {s : ByteArray} {x : Nat × Bool} (h : RB t B w0 w p s x) : RB t B w0 w.drew p s x := ⟨h.1, h.2.1, ⟨h.2.2.1.os, h.2.2.1.tape, h.2.2.1.output, h.2.2.1.size, h.2.2.1.block⟩, h.2.2.2.1, h.2.2.2.2⟩
theorem RP.drew {t t' : TypeId} {B : Nat} {w0 w : World} {p q : Nat} {s : ByteArray} {x y : Nat × Bool} (h : RP t t' B w0 w p q s x y) : RP t t' B w0 w.drew p q s x y := ⟨h.1.drew, h.2.1.drew, h.2.2⟩
theorem RP.swap {t t' : TypeId} {B : Nat} {w0 w : World} {p q : Nat} {s : ByteArray} {x y : Nat × Bool} (h : RP t t' B w0 w p q s x y) : RP t' t B w0 w q p s y x := ⟨h.2.1, h.1, fun e => h.2.2 e.symm⟩
theorem get_rp {t' : TypeId} (B : Nat) (w0 w : World) (s : ByteArray) (x y : Nat × Bool) (n : Int) (p q : Nat) (h : RP 77 t' B w0 w p q s x y) (hs : s.size ≤ 1099511627776) :
    Calls Try.prog 31 #[.pointer (some ⟨p, 0, none⟩), .int .i64 n] w fun e w' => e = .returned (.int .u32 (gets s x.1 x.2 n).1) ∧ RP 77 t' B w0 w' p q s (gets s x.1 x.2 n).2 y := by
  obtain ⟨h1, h2, h3⟩ := h
  exact (get_rb B w0 w s x n p h1 hs).mono fun e w' ⟨k1, k2, k3⟩ => ⟨k1, k2, h2.kept k3 (fun i hi => by rw [hi]; exact h1.1) (fun e => h3 e.symm), h3⟩
theorem ref_get_rp {t' : TypeId} (B : Nat) (w0 w : World) (s : ByteArray) (x y : Nat × Bool) (n : Int) (p q : Nat) (h : RP t' 79 B w0 w q p s y x) (hs : s.size ≤ 1099511627776) :
    Calls Try.prog 37 #[.pointer (some ⟨p, 0, none⟩), .int .i64 n] w fun e w' => e = .returned (.int .u32 (gets s x.1 x.2 n).1) ∧ RP t' 79 B w0 w' q p s y (gets s x.1 x.2 n).2 := by
  obtain ⟨h1, h2, h3⟩ := h
  obtain ⟨hp, hB, h0, hx, hw⟩ := h2
  exact (ref_get_any s x.1 p x.2 n w hw hs hx).mono fun e w' ⟨k1, k2, k3⟩ => ⟨k1, h1.kept k3 (fun i hi => by rw [hi]; exact hp) h3, ⟨hp, Nat.le_trans hB k3.size, h0.trans (k3.below hB (fun i hi => by rw [hi]; exact hp)), gets_at s x.1 x.2 n hx, k2⟩, h3⟩
theorem left_rp {t' : TypeId} (B : Nat) (w0 w : World) (s : ByteArray) (x y : Nat × Bool) (p q : Nat) (h : RP 77 t' B w0 w p q s x y) (hs : s.size ≤ 1099511627776) :
    Calls Try.prog 35 #[.pointer (some ⟨p, 0, none⟩)] w fun e w' => e = .returned (.int .i64 (left s x.1 x.2)) ∧ RP 77 t' B w0 w' p q s x y := by
  exact (left_rb B w0 w s x p h.1 hs).mono fun e w' ⟨k1, k2, k, k3⟩ => by subst k3; exact ⟨k1, h.quiet k⟩
theorem ref_left_rp {t' : TypeId} (B : Nat) (w0 w : World) (s : ByteArray) (x y : Nat × Bool) (p q : Nat) (h : RP t' 79 B w0 w q p s y x) (hs : s.size ≤ 1099511627776) :
    Calls Try.prog 39 #[.pointer (some ⟨p, 0, none⟩)] w fun e w' => e = .returned (.int .i64 (left s x.1 x.2)) ∧ RP t' 79 B w0 w' q p s y x := by
  exact (ref_left_any s x.1 p x.2 w h.2.1.2.2.2.2 hs h.2.1.2.2.2.1).mono fun e w' ⟨k1, k, k3⟩ => by subst k3; exact ⟨k1, h.quiet k⟩
theorem bad_rp {t' : TypeId} (B : Nat) (w0 w : World) (s : ByteArray) (x y : Nat × Bool) (p q : Nat) (h : RP 77 t' B w0 w p q s x y) :
    Calls Try.prog 34 #[.pointer (some ⟨p, 0, none⟩)] w fun e w' => e = .returned (.bool x.2) ∧ RP 77 t' B w0 w' p q s x y := by
  exact (bad_rb B w0 w s x p h.1).mono fun e w' ⟨k1, k2, k, k3⟩ => by subst k3; exact ⟨k1, h.quiet k⟩
theorem RP.new (t t' : TypeId) (w w1 w2 : World) (s : ByteArray) (h1 : w1 = w.alloc (.cells #[.string s, .int .i64 0, .bool false] t)) (h2 : w2 = w1.alloc (.cells #[.string s, .int .i64 0, .bool false] t')) : RP t t' w.heap.size w w2 w.heap.size w1.heap.size s (0, false) (0, false) := by
  have e1 : w1.heap.size = w.heap.size + 1 := by subst h1; simp
  have b1 : Below w.heap.size w w1 := by subst h1; exact (Below.refl _ _).alloc (Nat.le_refl _) _
  have b2 : Below w.heap.size w w2 := by subst h2; exact b1.alloc (by omega) _
  have e2 : w2.heap.size = w.heap.size + 2 := by subst h2; simp; omega
  have r1 : RR t w1 w.heap.size s 0 false := by subst h1; exact RR.new t s w
  refine ⟨⟨Nat.le_refl _, by omega, b2, Nat.zero_le _, ?_⟩, ⟨by omega, by omega, b2, Nat.zero_le _, ?_⟩, by omega⟩
  · subst h2
    exact r1.kept ((Kept.refl (fun _ => False) w1).alloc _) id
  · subst h2
    exact RR.new t' s w1
theorem RP.done {t t' : TypeId} {B : Nat} {w0 w w' : World} {p q : Nat} {s : ByteArray} {x y : Nat × Bool} (h : RP t t' B w0 w p q s x y) (hb : Below w.heap.size w w') : Below B w0 w' := below_then h.1.2.2.1 h.1.2.1 hb
theorem RP.cell {t t' : TypeId} {B : Nat} {w0 w w' : World} {p q : Nat} {s : ByteArray} {x y x' y' : Nat × Bool} (h : RP t t' B w0 w' p q s x y) (k : RP t t' B w0 w p q s x' y') {b off : Nat} {u : Value} (hb : b < B) (hc : w.cell? ⟨b, off, none⟩ = some u) : w'.cell? ⟨b, off, none⟩ = some u :=
  (h.1.2.2.1.cell (p := ⟨b, off, none⟩) hb).trans ((k.1.2.2.1.cell (p := ⟨b, off, none⟩) hb).symm.trans hc)
/-- The place after so many asks. -/
def walk (s : ByteArray) (l : List Int) (k : Nat) : Nat × Bool := (l.take k).foldl (fun x n => (gets s x.1 x.2 n).2) (0, false)
theorem walk_succ (s : ByteArray) (l : List Int) (k : Nat) (h : k < l.length) : (gets s (walk s l k).1 (walk s l k).2 (l.getD k 0)).2 = walk s l (k + 1) := by
  unfold walk
  rw [List.take_succ_eq_append_getElem h, List.foldl_append, List.getD_eq_getElem?_getD, List.getElem?_eq_getElem h]
  rfl
theorem dec_of {a b : Int} (h : a = b) : decide (a = b) = true := decide_eq_true h
theorem mod_walk (a : Int) (k : Nat) (h : 0 < k) (h' : k ≤ 64) : ∃ n : Nat, n < k ∧ wrap64 ((IntKind.u64.wrap a).tmod (k : Int)) = (n : Int) := by
  have e : ∀ n, IntKind.u64.wrap n = n % 18446744073709551616 := fun n => by simp [IntKind.wrap, IntKind.bits, IntKind.signed]
  rw [e]
  have h0 : 0 ≤ a % 18446744073709551616 := by omega
  generalize a % 18446744073709551616 = x at *
  rw [Int.tmod_eq_emod_of_nonneg h0]
  have h1 := Int.emod_nonneg x (show (k : Int) ≠ 0 by omega)
  have h2 := Int.emod_lt_of_pos x (show (0 : Int) < (k : Int) by omega)
  obtain ⟨n, hn⟩ := Int.eq_ofNat_of_zero_le h1
  exact ⟨n, by omega, by rw [hn]; exact w64 (by omega) (by omega)⟩
theorem join_walk (s : ByteArray) (n m : Nat) (hn : n ≤ 16) (hm : m ≤ 15) : Go.bits .or .u32 (val s 0 n * 2 ^ m % 4294967296) (val s n m) = val s 0 (n + m) := by
  have h := val_add s 0 n m
  rw [Nat.zero_add] at h
  have a1 := val_bd s 0 n
  have a2 := val_bd s n m
  have a3 := (val_bd s 0 (n + m)).2
  have p1 : ((2 ^ (n + m) : Nat) : Int) ≤ ((2 ^ 31 : Nat) : Int) := Int.ofNat_le.2 (Nat.pow_le_pow_right (by omega) (by omega))
  have p2 : ((2 ^ m : Nat) : Int) ≤ ((2 ^ 15 : Nat) : Int) := Int.ofNat_le.2 (Nat.pow_le_pow_right (by omega) (by omega))
  have p3 : 0 ≤ val s 0 n * 2 ^ m := Int.mul_nonneg a1.1 (by omega)
  simp at p1 p2
  rw [h] at a3 ⊢
  have e : val s 0 n * 2 ^ m % 4294967296 = val s 0 n * 2 ^ m := by omega
  rw [e, u32_or _ _ (by omega) (by omega) (by omega) (by omega)]
  obtain ⟨X, hX⟩ := Int.eq_ofNat_of_zero_le a1.1
  obtain ⟨Y, hY⟩ := Int.eq_ofNat_of_zero_le a2.1
  have h2 := a2.2
  rw [hX, hY] at *
  have hc : (X : Int) * 2 ^ m = ((X * 2 ^ m : Nat) : Int) := by simp
  have h3 : Y < 2 ^ m := by
    have h4 : (Y : Int) < ((2 ^ m : Nat) : Int) := by simpa using h2
    omega
  rw [hc, Int.toNat_natCast, Int.toNat_natCast, nat_join m _ _ (Nat.mul_mod_left _ _) h3]
  simp
end Go.Proofs.Ytmedlplgeeeodaa.Bits
