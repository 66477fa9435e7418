/- What the reference's base comes to; no condition but the ranges in each. -/
import Derived.Test.YtlidofldkomdbaaBaseLaw4
namespace Go.Proofs.Ytlidofldkomdbaa.Base
open Go.RowKit Go.Proofs.Ytlidofldkomdbaa.Plain Go.Proofs.Ytlidofldkomdbaa.Heap Go.Proofs.Ytlidofldkomdbaa.Open

structure RS where
  width : Int
  rows : Int
  l : List (Int × Int)
  newest : Int
  some : Bool
  queue : Int
def flat (l : List (Int × Int)) : List Value := l.flatMap fun x => [.int .i64 x.1, .int .i64 x.2]
theorem flat_length (l : List (Int × Int)) : (flat l).length = l.length * 2 := by
  induction l with
  | nil => rfl
  | cons x l ih =>
    have e : flat (x :: l) = [.int .i64 x.1, .int .i64 x.2] ++ flat l := rfl
    rw [e, List.length_append, ih]
    simp
    omega
theorem flat_get (l : List (Int × Int)) (i : Nat) (x : Int × Int) (h : l[i]? = some x) : (flat l)[i * 2]? = some (.int .i64 x.1) ∧ (flat l)[i * 2 + 1]? = some (.int .i64 x.2) := by
  induction l generalizing i with
  | nil => simp at h
  | cons y l ih =>
    have e : flat (y :: l) = .int .i64 y.1 :: .int .i64 y.2 :: flat l := rfl
    rw [e]
    cases i with
    | zero =>
      simp at h
      subst h
      exact ⟨rfl, rfl⟩
    | succ i =>
      simp at h
      have := ih i h
      rw [show (i + 1) * 2 = i * 2 + 1 + 1 by omega, show i * 2 + 1 + 1 + 1 = (i * 2 + 1) + 1 + 1 by omega]
      simp only [List.getElem?_cons_succ]
      exact this
theorem flat_append (l m : List (Int × Int)) : flat (l ++ m) = flat l ++ flat m := by simp [flat]
theorem flat_one (l : List (Int × Int)) : ∀ u ∈ flat l, u.oneCell' = true := by
  intro u hu
  simp only [flat, List.mem_flatMap] at hu
  obtain ⟨x, _, hx⟩ := hu
  simp at hx
  rcases hx with rfl | rfl <;> rfl
/-- The reference's base at block q: its slice is v. -/
def QR (w : World) (q : Nat) (r : RS) (v : Value) : Prop :=
  w.heap[q]? = some (.cells #[.int .i64 r.width, .int .i64 r.rows, v, .int .i64 r.newest, .bool r.some, .int .i64 r.queue] 55 (0, 0))
theorem QR.cells {w : World} {q : Nat} {r : RS} {v : Value} (h : QR w q r v) :
    w.cell? ⟨q, 0, none⟩ = some (.int .i64 r.width) ∧ w.cell? ⟨q, 1, none⟩ = some (.int .i64 r.rows) ∧ w.cell? ⟨q, 2, none⟩ = some v ∧ w.cell? ⟨q, 3, none⟩ = some (.int .i64 r.newest) ∧ w.cell? ⟨q, 4, none⟩ = some (.bool r.some) ∧ w.cell? ⟨q, 5, none⟩ = some (.int .i64 r.queue) ∧ (∀ i, w.frozen? ⟨q, i, none⟩ = false) ∧ q < w.heap.size := by
  unfold QR at h
  exact ⟨by simp [World.cell?, h], by simp [World.cell?, h], by simp [World.cell?, h], by simp [World.cell?, h], by simp [World.cell?, h], by simp [World.cell?, h], fun i => by simp [World.frozen?, h], (Array.getElem?_eq_some_iff.1 h).1⟩
theorem QR.kept {w w' : World} {q : Nat} {r : RS} {v : Value} {S : Nat → Prop} (h : QR w q r v) (hk : Kept S w w') (hq : ¬ S q) : QR w' q r v := (hk.block q h.cells.2.2.2.2.2.2.2 hq).trans h
/-- The least so far. -/
def rmin (l : List (Int × Int)) (x0 : Int) : Nat → Int
  | 0 => x0
  | k + 1 => mn (rmin l x0 k) (l.getD k (0, 0)).2
def rleast (l : List (Int × Int)) : Int × Bool := if l.length = 0 then (0, false) else (rmin l (l.getD 0 (0, 0)).2 l.length, true)
set_option maxHeartbeats 400000 in
theorem ref_queue (q : Nat) (w : World) (r : RS) (v : Value) (h : QR w q r v) : Calls Try.prog 17 #[.pointer (some ⟨q, 0, none⟩)] w fun e w' => e = .returned (.int .i64 r.queue) ∧ w = w' := by
  obtain ⟨c0, c1, c2, c3, c4, c5, hf, hp⟩ := h.cells
  clear h hf
  go_enter Try.func17, Try.ntmps17
  go_wp2
  go_ret
  exact ⟨rfl, rfl⟩
attribute [local go_sem high] run_mx run_mn in
set_option maxHeartbeats 400000 in
theorem held_any (v lo hi : Int) (w : World) (h : lo ≤ hi) : Calls Try.prog 21 #[.int .i64 v, .int .i64 lo, .int .i64 hi] w fun e w' => e = .returned (.int .i64 (hold v lo hi)) ∧ w = w' := by
  have e : mx lo (mn v hi) = hold v lo hi := by unfold mx mn hold; split <;> split <;> (try split) <;> omega
  go_enter Try.func21, Try.ntmps21
  go_wp2
  go_ret
  exact ⟨rfl, rfl⟩
attribute [local go_sem high] run_mx run_mn in
set_option maxHeartbeats 1000000 in
theorem ref_least (q : Nat) (w : World) (r : RS) (A : Option Addr) (n c : Nat) (h : QR w q r (.slice A n c)) (hn : r.l.length = n) (hr : Rd w 2 A n (flat r.l)) (hm : n ≤ 1000000) : Calls Try.prog 15 #[.pointer (some ⟨q, 0, none⟩)] w
    fun e w' => e = .returned (.tuple #[.int .i64 (rleast r.l).1, .bool (rleast r.l).2]) ∧ ∃ k, w' = w.drewN k := by
  obtain ⟨c0, c1, c2, c3, c4, c5, hf, hp⟩ := h.cells
  clear h hf
  rcases Nat.eq_zero_or_pos n with rfl | hpos
  · have e : rleast r.l = (0, false) := by unfold rleast; rw [if_pos hn]
    rw [e]
    go_enter Try.func15, Try.ntmps15
    go_wp2
    refine bodyPost_ret (v := .tuple #[.int .i64 0, .bool false]) (by simp [results, Try.results15, go_sem]) rfl ⟨rfl, ?_⟩
    first | exact ⟨0, rfl⟩ | exact ⟨_, rfl⟩
  · have e : rleast r.l = (rmin r.l (r.l.getD 0 (0, 0)).2 n, true) := by unfold rleast; rw [if_neg (by omega), hn]
    rw [e]
    obtain ⟨b, off, rfl, hb, hc⟩ := hr.2 hpos
    have hcell : ∀ j, j < n → w.cell? ⟨b, off + j * 2 + 1, none⟩ = some (.int .i64 (r.l.getD j (0, 0)).2) := fun j hj => by
      have hx : r.l[j]? = some (r.l.getD j (0, 0)) := by rw [List.getD_eq_getElem?_getD, List.getElem?_eq_getElem (by omega)]; rfl
      have := hc _ _ (flat_get r.l j _ hx).2
      rw [show off + j * 2 + 1 = off + (j * 2 + 1) by omega]
      exact this
    have x0 := hcell 0 hpos
    rw [Nat.zero_mul, Nat.add_zero] at x0
    have HC := Lib.hid hcell
    have hn0 : ((n : Int) == 0) = false := by simp; omega
    have hpi : (0 : Int) < (n : Int) := by omega
    have HN := Lib.hid hn
    clear hcell hc hr e hn
    go_enter Try.func15, Try.ntmps15
    go_wp2
    go_loopw [4, 5] (fun nv iv wr => ∃ (k d : Nat), k ≤ n ∧ iv = .int .i64 (k : Int) ∧ nv = .int .i64 (rmin r.l (r.l.getD 0 (0, 0)).2 k) ∧ wr = w.drewN d) (fun _ iv _ => n - (intOf iv).toNat)
    case atStart => exact ⟨0, 0, by omega, rfl, rfl, rfl⟩
    case round =>
      obtain ⟨k, d, hk, rfl, rfl, rfl⟩ := hrel
      by_cases hlt : k < n
      · have y0 := HC.out k hlt
        have hs : rmin r.l (r.l.getD 0 (0, 0)).2 (k + 1) = mn (rmin r.l (r.l.getD 0 (0, 0)).2 k) (r.l.getD k (0, 0)).2 := rfl
        have HS := Lib.hid hs
        clear hs
        generalize rmin r.l (r.l.getD 0 (0, 0)).2 k = z at *
        generalize (r.l.getD k (0, 0)).2 = y at *
        have k0 : (0 : Int) ≤ (k : Int) := by omega
        have k1 : (k : Int) < (n : Int) := by omega
        go_wp2
        go_roundw
        case rel => exact ⟨k + 1, _, hlt, by go_num, by rw [HS.out], rfl⟩
        case measure => simp [intOf]; omega
      · obtain rfl : k = n := by omega
        go_wp2
        refine bodyPost_ret (v := .tuple #[.int .i64 (rmin r.l (r.l.getD 0 (0, 0)).2 k), .bool true]) (by simp [results, Try.results15, go_sem]) rfl ⟨rfl, _, rfl⟩
end Go.Proofs.Ytlidofldkomdbaa.Base
