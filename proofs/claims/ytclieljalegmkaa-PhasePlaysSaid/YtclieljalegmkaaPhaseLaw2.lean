/- PhaseTurns: what it comes to; no condition but what numbers there are. -/
import Derived.Test.YtclieljalegmkaaPhaseLaw
namespace Go.Proofs.Ytclieljalegmkaa.Phase
open Go.RowKit Go.Proofs.Ytclieljalegmkaa.Plain Go.Proofs.Ytclieljalegmkaa.Heap Go.Proofs.Ytclieljalegmkaa.Float Go.Proofs.Ytclieljalegmkaa.Open

theorem rot_add (m k : Int) (i j : Nat) : rot (rot m k i).1 (rot m k i).2 j = rot m k (i + j) := by
  induction j with
  | zero => rfl
  | succ j ih =>
    show (-(rot (rot m k i).1 (rot m k i).2 j).2, (rot (rot m k i).1 (rot m k i).2 j).1) = (-(rot m k (i + j)).2, (rot m k (i + j)).1)
    rw [ih]
theorem rot_four (m k : Int) (n : Nat) : rot m k (n + 4) = rot m k n := by
  rw [← rot_add]
  simp [rot]
theorem rot_mod (m k : Int) (n : Nat) : rot m k (n % 4) = rot m k n := by
  have h : ∀ q r, rot m k (r + 4 * q) = rot m k r := by
    intro q
    induction q with
    | zero => intro r; rfl
    | succ q ih =>
      intro r
      rw [show r + 4 * (q + 1) = (r + 4 * q) + 4 by omega, rot_four, ih]
  have := h (n / 4) (n % 4)
  rw [show n % 4 + 4 * (n / 4) = n by omega] at this
  exact this.symm
theorem rot_sum (m k a b : Int) : rot (rot m k (a % 4).toNat).1 (rot m k (a % 4).toNat).2 (b % 4).toNat = rot m k ((a + b) % 4).toNat := by
  rw [rot_add, ← rot_mod m k ((a % 4).toNat + (b % 4).toNat)]
  congr 1
  omega
theorem two_of {w : World} {cs : Array Value} {zs : List Int} (h : rAr 2 1 (rInt .i32) w cs.toList zs) : ∃ a b, cs = #[.int .i32 a, .int .i32 b] ∧ (Lit.int .i32 a).wf = true ∧ (Lit.int .i32 b).wf = true := by
  obtain ⟨h1, h2, h3⟩ := h
  have hs : cs.size = 2 := by simpa using h1
  have each : ∀ i, i < 2 → ∃ a, cs[i]? = some (.int .i32 a) ∧ (Lit.int .i32 a).wf = true := by
    intro i hi
    obtain ⟨x, hx⟩ : ∃ x, zs[i]? = some x := ⟨_, List.getElem?_eq_getElem (by omega)⟩
    obtain ⟨he, hw⟩ := h3 i x hx
    refine ⟨x, ?_, hw⟩
    have h0 : ((cs.toList.drop (i * 1)).take 1)[0]? = some (.int .i32 x) := by rw [he]; rfl
    rw [List.getElem?_take_of_lt (by omega), List.getElem?_drop] at h0
    simpa using h0
  obtain ⟨a, ha, wa⟩ := each 0 (by omega)
  obtain ⟨b, hb, wb⟩ := each 1 (by omega)
  refine ⟨a, b, ?_, wa, wb⟩
  apply Array.ext_getElem?
  intro i
  match i with
  | 0 => simpa using ha
  | 1 => simpa using hb
  | i + 2 => rw [Array.getElem?_eq_none (by omega)]; simp
set_option maxHeartbeats 400000 in
theorem mod_any (k n : Int) (w : World) (h0 : 1 ≤ n) (h1 : n ≤ 4611686018427387904) : Calls Try.prog 14 #[.int .i64 k, .int .i64 n] w fun e w' => e = .returned (.int .i64 (k % n)) ∧ w = w' := by
  have hb := tmod_bd k (m := n) (by omega)
  have e0 : (n == 0) = false := by simp; omega
  have w1 : wrap64 (Int.tmod k n) = Int.tmod k n := w64 (by omega) (by omega)
  have w2 : wrap64 (Int.tmod k n + n) = Int.tmod k n + n := w64 (by omega) (by omega)
  have hm := modp (n := k) (m := n) (by omega)
  have hb2 := Int.emod_nonneg k (show n ≠ 0 by omega)
  have hb3 := Int.emod_lt_of_pos k (show 0 < n by omega)
  have w3 : wrap64 (Int.tmod (Int.tmod k n + n) n) = k % n := by rw [hm]; exact w64 (by omega) (by omega)
  go_enter Try.func14, Try.ntmps14
  go_wp2
  go_ret
  exact ⟨rfl, rfl⟩
set_option maxRecDepth 10000 in
set_option maxHeartbeats 1000000 in
theorem PhaseTurns_any (cs : Array Value) (zs : List Int) (n m : Int) (w : World) (h : rAr 2 1 (rInt .i32) w cs.toList zs) (_ : (Lit.int .i64 n).wf = true) (_ : (Lit.int .i64 m).wf = true) :
    Calls Try.prog 4 #[.agg cs, .int .i64 n, .int .i64 m] w fun e w' => e = .returned (.bool true) ∧ Below w.heap.size w w' := by
  obtain ⟨re, im, rfl, wr, wi⟩ := two_of h
  clear h
  have br := wf_i32 wr
  have bi := wf_i32 wi
  clear wr wi
  obtain ⟨a, ha⟩ : ∃ a, n.tmod 1000 = a := ⟨_, rfl⟩
  obtain ⟨b, hb⟩ : ∃ b, m.tmod 1000 = b := ⟨_, rfl⟩
  have ba := tmod_bd n (m := 1000) (by omega)
  have bb := tmod_bd m (m := 1000) (by omega)
  rw [ha] at ba
  rw [hb] at bb
  have ta : wrap64 a = a := w64 (by omega) (by omega)
  have tb : wrap64 b = b := w64 (by omega) (by omega)
  have tab : wrap64 (a + b) = a + b := w64 (by omega) (by omega)
  have tr : wrap64 re = re := w64 (by omega) (by omega)
  have ti : wrap64 im = im := w64 (by omega) (by omega)
  obtain ⟨zr, er⟩ : ∃ z, floatOfInt .f64 re = z := ⟨_, rfl⟩
  obtain ⟨zi, ei⟩ : ∃ z, floatOfInt .f64 im = z := ⟨_, rfl⟩
  have FR := Lib.hid (show FI zr re by rw [← er]; exact FI.of_int _ (by omega))
  have FM := Lib.hid (show FI zi im by rw [← ei]; exact FI.of_int _ (by omega))
  go_enter Try.func4, Try.ntmps4
  go_wp2_with fail
  go_quiet (fail)
  go_wp2_with fail
  generalize hW : World.drewN _ _ = W0
  have HK := Lib.hid (show Below w.heap.size w W0 by rw [← hW]; exact below_drewN ((Below.refl _ _).alloc (Nat.le_refl _) _) _)
  clear hW
  refine (turn_any zr zi re im a _ FR.out FM.out (by omega) (by omega)).mono ?_
  rintro e w2 ⟨⟨x1, y1, rfl, f1, f2⟩, q, rfl⟩
  have F1 := Lib.hid f1
  have F2 := Lib.hid f2
  clear f1 f2
  have r0 := Int.emod_nonneg a (show (4 : Int) ≠ 0 by omega)
  have r1 := Int.emod_lt_of_pos a (show (0 : Int) < 4 by omega)
  obtain ⟨R, hR⟩ : ∃ R, a % 4 = R := ⟨_, rfl⟩
  rw [hR] at r0 r1
  have HR := Lib.hid hR
  clear hR
  go_wp2_with fail
  go_loopw [13, 14, 15] (fun xv yv iv wr => ∃ (j q : Nat), (j : Int) ≤ R ∧ iv = .int .i64 j ∧ xv = .int .i64 (rot re im j).1 ∧ yv = .int .i64 (rot re im j).2 ∧ wr = W0.drewN q) (fun _ _ iv _ => 4 - (intOf iv).toNat)
  case atStart => exact ⟨0, q, by omega, rfl, rfl, rfl, rfl⟩
  case round =>
    obtain ⟨j, q1, hj, rfl, rfl, rfl, rfl⟩ := hrel
    have hb := rot_bd re im 2147483648 (by omega) (by omega) j
    by_cases hlt : (j : Int) < R
    · have hs : rot re im (j + 1) = (-(rot re im j).2, (rot re im j).1) := rfl
      have HS := Lib.hid hs
      clear hs
      generalize hu : (rot re im j).1 = u at *
      generalize hv : (rot re im j).2 = v at *
      have tn : wrap64 (-v) = -v := w64 (by omega) (by omega)
      go_wp2_with (first | (go_at_call 14; refine (mod_any a 4 _ (by decide) (by decide)).mono ?_; rintro e w3 ⟨rfl, rfl⟩; rw [HR.out]))
      go_roundw
      case rel => exact ⟨j + 1, _, by omega, by go_num, by rw [HS.out], by rw [HS.out], rfl⟩
      case measure => simp [intOf]; omega
    · have hjR : j = (a % 4).toNat := by have := HR.out; omega
      have G1 := F1.out
      have G2 := F2.out
      rw [← hjR] at G1 G2
      obtain ⟨zx, ezx⟩ : ∃ z, floatOfInt .f64 (rot re im j).1 = z := ⟨_, rfl⟩
      obtain ⟨zy, ezy⟩ : ∃ z, floatOfInt .f64 (rot re im j).2 = z := ⟨_, rfl⟩
      have e1 := eq_word G1 (show FI zx (rot re im j).1 by rw [← ezx]; exact FI.of_int _ (by omega)) rfl
      have e2 := eq_word G2 (show FI zy (rot re im j).2 by rw [← ezy]; exact FI.of_int _ (by omega)) rfl
      clear G1 G2 hjR
      go_wp2_with (first | (go_at_call 14; refine (mod_any a 4 _ (by decide) (by decide)).mono ?_; rintro e w3 ⟨rfl, rfl⟩; rw [HR.out]))
      refine (turn_any zr zi re im a _ FR.out FM.out (by omega) (by omega)).mono ?_
      rintro e w3 ⟨⟨x2, y2, rfl, f3, f4⟩, q2, rfl⟩
      have hb2 := rot_bd re im 2147483648 (by omega) (by omega) (a % 4).toNat
      have F3 := Lib.hid f3
      have F4 := Lib.hid f4
      clear f3 f4
      go_wp2_with fail
      refine (turn_any x2 y2 _ _ b _ F3.out F4.out (by omega) (by omega)).mono ?_
      rintro e w3 ⟨⟨x3, y3, rfl, f5, f6⟩, q3, rfl⟩
      rw [rot_sum] at f5 f6
      have F5 := Lib.hid f5
      have F6 := Lib.hid f6
      clear f5 f6 hb2
      go_wp2_with fail
      refine (turn_any zr zi re im (a + b) _ FR.out FM.out (by omega) (by omega)).mono ?_
      rintro e w3 ⟨⟨x4, y4, rfl, f7, f8⟩, q4, rfl⟩
      have o1 := eq_pair (eq_word F5.out f7 rfl) (eq_word F6.out f8 rfl)
      clear f7 f8
      go_wp2_with fail
      refine (turn_any zr zi re im 4 _ FR.out FM.out (by omega) (by omega)).mono ?_
      rintro e w3 ⟨⟨x5, y5, rfl, f9, f10⟩, q5, rfl⟩
      have o2 := eq_pair (eq_word (show FI x5 re from f9) FR.out rfl) (eq_word (show FI y5 im from f10) FM.out rfl)
      clear f9 f10
      go_wp2_with fail
      refine (turn_any zr zi re im 0 _ FR.out FM.out (by omega) (by omega)).mono ?_
      rintro e w3 ⟨⟨x6, y6, rfl, f11, f12⟩, q6, rfl⟩
      have o3 := eq_pair (eq_word (show FI x6 re from f11) FR.out rfl) (eq_word (show FI y6 im from f12) FM.out rfl)
      clear f11 f12
      go_wp2_with fail
      refine (wakes_any _).mono ?_
      rintro e w3 ⟨rfl, h3⟩
      have H3 := Lib.hid h3
      clear h3
      go_wp2
      go_ret
      refine ⟨rfl, below_then (below_drewN HK.out _) ?_ H3.out⟩
      have := HK.out.size
      simpa using this
end Go.Proofs.Ytclieljalegmkaa.Phase
