/- PhaseAll: what it comes to; no condition but what numbers there are. -/
import Derived.Test.YtclieljalegmkaaPhasePow
namespace Go.Proofs.Ytclieljalegmkaa.Phase
open Go.RowKit Go.Proofs.Ytclieljalegmkaa.Plain Go.Proofs.Ytclieljalegmkaa.Heap Go.Proofs.Ytclieljalegmkaa.Float Go.Proofs.Ytclieljalegmkaa.Open

/-- The samples of the call's own, from block B on. -/
def PB (B : Nat) (w0 w : World) (p : Nat) (L : List Int) : Prop := B ≤ p ∧ B ≤ w.heap.size ∧ Below B w0 w ∧ PR w B p L
theorem PR.kept {S : Nat → Prop} {w w' : World} {B p : Nat} {L : List Int} (h : PR w B p L) (hk : Kept S w w') (hS : ∀ g, B ≤ g → ¬ S g) (hp : B ≤ p) : PR w' B p L := by
  obtain ⟨v, hb, hs⟩ := h
  exact ⟨v, (hk.block p (Array.getElem?_eq_some_iff.1 hb).1 (hS p hp)).trans hb, hs.kept hk (fun g hg => hS g (hs.at hg))⟩
theorem PB.run {B : Nat} {w0 w w' : World} {p : Nat} {L : List Int} (h : PB B w0 w p L) (hb : Below w.heap.size w w') : PB B w0 w' p L :=
  ⟨h.1, Nat.le_trans h.2.1 hb.size, below_then h.2.2.1 h.2.1 hb, h.2.2.2.kept (Kept.of_below (S := fun _ => False) hb) (fun _ _ h => h) h.1⟩
theorem add_pb (B : Nat) (w0 w : World) (p : Nat) (L : List Int) (x : Int) (h : PB B w0 w p L) (hl : L.length ≤ 64) : Calls Try.prog 16 #[.pointer (some ⟨p, 0, none⟩), .int .i64 x] w
    fun e w' => e = .returned (.tuple #[]) ∧ PB B w0 w' p (pstep L x) :=
  (add_walk B p L x w h.2.2.2 h.2.1 h.1 hl).mono fun _ _ ⟨h1, h2, h3⟩ => ⟨h1, h.1, Nat.le_trans h.2.1 h3.size, h.2.2.1.trans (h3.below h.2.1 (fun _ h => h)), h2⟩
theorem powers_pb (B : Nat) (w0 w : World) (p : Nat) (L : List Int) (h : PB B w0 w p L) (hl : L.length ≤ 64) : Calls Try.prog 17 #[.pointer (some ⟨p, 0, none⟩)] w
    fun e w' => e = .returned (.tuple #[.int .i64 (powers L).1, .int .i64 (powers L).2.1, .int .i64 (powers L).2.2]) ∧ PB B w0 w' p L := by
  rcases Nat.lt_or_ge L.length 4 with h4 | h4
  · exact (powers_few B p L w h.2.2.2 h4).mono fun _ _ ⟨h1, h2⟩ => ⟨h1, h.run h2⟩
  · exact (powers_many B p L w h.2.2.2 h4 hl).mono fun _ _ ⟨h1, h2⟩ => ⟨h1, h.run h2⟩
theorem new_pb (w : World) : Calls Try.prog 15 #[] w fun e w' => e = .returned (.pointer (some ⟨w.heap.size, 0, none⟩)) ∧ PB w.heap.size w w' w.heap.size [] :=
  (new_any w).mono fun _ _ ⟨h1, h2⟩ => by
    subst h2
    exact ⟨h1, Nat.le_refl _, by simp, (Below.refl _ _).alloc (Nat.le_refl _) _, _, heap_alloc_new w _, .inl ⟨rfl, rfl⟩⟩
theorem pstep_small {L : List Int} {x : Int} (h : L.length < 64) (h0 : -33554432 ≤ x) (h1 : x ≤ 33554432) : pstep L x = L ++ [x] := by
  have e : hold x = x := by unfold hold; rw [if_neg (by omega), if_neg (by omega)]
  unfold pstep
  rw [e, if_neg (by simp; omega)]
theorem hold_id {x : Int} (h0 : -33554432 ≤ x) (h1 : x ≤ 33554432) : hold x = x := by unfold hold; rw [if_neg (by omega), if_neg (by omega)]
theorem quad (a b c d : Int) : (a + b + c + d) * (a + b + c + d) + 2 * ((a - c) * (a - c) + (b - d) * (b - d)) + (a - b + c - d) * (a - b + c - d) = 4 * (a * a + b * b + c * c + d * d) := by grind
theorem powers_four (a b c d : Int) (ha : hold a = a) (hb : hold b = b) (hc : hold c = c) (hd : hold d = d) : powers [a, b, c, d] = ((a + b + c + d) * (a + b + c + d), (a - c) * (a - c) + (b - d) * (b - d), (a - b + c - d) * (a - b + c - d)) := by
  have e : acc [a, b, c, d] 1 = (a + b + c + d, a - c, b - d, a - b + c - d) := by simp [acc, add4, ha, hb, hc, hd]
  simp [powers, e]
theorem four32_of {w : World} {cs : Array Value} {zs : List Int} (h : rAr 4 1 (rInt .i32) w cs.toList zs) : ∃ a b c d, cs = #[.int .i32 a, .int .i32 b, .int .i32 c, .int .i32 d] ∧ (Lit.int .i32 a).wf = true ∧ (Lit.int .i32 b).wf = true ∧ (Lit.int .i32 c).wf = true ∧ (Lit.int .i32 d).wf = true := by
  obtain ⟨h1, h2, h3⟩ := h
  have hs : cs.size = 4 := by simpa using h1
  have each : ∀ i, i < 4 → ∃ a, cs[i]? = some (.int .i32 a) ∧ (Lit.int .i32 a).wf = true := by
    intro i hi
    obtain ⟨x, hx⟩ : ∃ x, zs[i]? = some x := ⟨_, List.getElem?_eq_getElem (by omega)⟩
    obtain ⟨he, hw⟩ := h3 i x hx
    refine ⟨x, ?_, hw⟩
    have h0 : ((cs.toList.drop (i * 1)).take 1)[0]? = some (.int .i32 x) := by rw [he]; rfl
    rw [List.getElem?_take_of_lt (by omega), List.getElem?_drop] at h0
    simpa using h0
  obtain ⟨a, ha, wa⟩ := each 0 (by omega)
  obtain ⟨b, hb, wb⟩ := each 1 (by omega)
  obtain ⟨c, hc, wc⟩ := each 2 (by omega)
  obtain ⟨d, hd, wd⟩ := each 3 (by omega)
  refine ⟨a, b, c, d, ?_, wa, wb, wc, wd⟩
  apply Array.ext_getElem?
  intro i
  match i with
  | 0 => simpa using ha
  | 1 => simpa using hb
  | 2 => simpa using hc
  | 3 => simpa using hd
  | i + 4 => rw [Array.getElem?_eq_none (by omega)]; simp
theorem sq25 {a : Int} (h0 : -33554432 < a) (h1 : a < 33554432) : 0 ≤ a * a ∧ a * a ≤ 1125899906842624 := by
  have := sq_bd (a := a) (b := 33554432) (by omega) (by omega)
  omega
set_option maxRecDepth 10000 in
set_option maxHeartbeats 1000000 in
theorem PhaseAll_any (cs : Array Value) (zs : List Int) (w : World) (h : rAr 4 1 (rInt .i32) w cs.toList zs) : Calls Try.prog 5 #[.agg cs] w fun e w' => e = .returned (.bool true) ∧ Below w.heap.size w w' := by
  obtain ⟨a, b, c, d, rfl, wa, wb, wc, wd⟩ := four32_of h
  clear h
  have ra := wf_i32 wa
  have tia : wrap64 a = a := w64 (by omega) (by omega)
  have ma := tmod_bd a (m := 33554432) (by omega)
  obtain ⟨A, ea⟩ : ∃ q, a.tmod 33554432 = q := ⟨_, rfl⟩
  rw [ea] at ma
  have ta : wrap64 A = A := w64 (by omega) (by omega)
  have sa := sq25 ma.1 ma.2
  have ha := hold_id (x := A) (by omega) (by omega)
  obtain ⟨AA, qa⟩ : ∃ q, A * A = q := ⟨_, rfl⟩
  rw [qa] at sa
  have ka : wrap64 AA = AA := w64 (by omega) (by omega)
  have rb := wf_i32 wb
  have tib : wrap64 b = b := w64 (by omega) (by omega)
  have mb := tmod_bd b (m := 33554432) (by omega)
  obtain ⟨B, eb⟩ : ∃ q, b.tmod 33554432 = q := ⟨_, rfl⟩
  rw [eb] at mb
  have tb : wrap64 B = B := w64 (by omega) (by omega)
  have sb := sq25 mb.1 mb.2
  have hb := hold_id (x := B) (by omega) (by omega)
  obtain ⟨BB, qb⟩ : ∃ q, B * B = q := ⟨_, rfl⟩
  rw [qb] at sb
  have kb : wrap64 BB = BB := w64 (by omega) (by omega)
  have rc := wf_i32 wc
  have tic : wrap64 c = c := w64 (by omega) (by omega)
  have mc := tmod_bd c (m := 33554432) (by omega)
  obtain ⟨C, ec⟩ : ∃ q, c.tmod 33554432 = q := ⟨_, rfl⟩
  rw [ec] at mc
  have tc : wrap64 C = C := w64 (by omega) (by omega)
  have sc := sq25 mc.1 mc.2
  have hc := hold_id (x := C) (by omega) (by omega)
  obtain ⟨CC, qc⟩ : ∃ q, C * C = q := ⟨_, rfl⟩
  rw [qc] at sc
  have kc : wrap64 CC = CC := w64 (by omega) (by omega)
  have rd := wf_i32 wd
  have tid : wrap64 d = d := w64 (by omega) (by omega)
  have md := tmod_bd d (m := 33554432) (by omega)
  obtain ⟨D, ed⟩ : ∃ q, d.tmod 33554432 = q := ⟨_, rfl⟩
  rw [ed] at md
  have td : wrap64 D = D := w64 (by omega) (by omega)
  have sd := sq25 md.1 md.2
  have hd := hold_id (x := D) (by omega) (by omega)
  obtain ⟨DD, qd⟩ : ∃ q, D * D = q := ⟨_, rfl⟩
  rw [qd] at sd
  have kd : wrap64 DD = DD := w64 (by omega) (by omega)
  have hq := quad A B C D
  rw [qa, qb, qc, qd] at hq
  have hpf := powers_four A B C D ha hb hc hd
  have hpb := powers_bd [A, B, C, D]
  rw [hpf] at hpb
  obtain ⟨P1, hP1⟩ : ∃ q, (A + B + C + D) * (A + B + C + D) = q := ⟨_, rfl⟩
  obtain ⟨P2, hP2⟩ : ∃ q, (A - C) * (A - C) + (B - D) * (B - D) = q := ⟨_, rfl⟩
  obtain ⟨P3, hP3⟩ : ∃ q, (A - B + C - D) * (A - B + C - D) = q := ⟨_, rfl⟩
  rw [hP1, hP2, hP3] at hpf hpb hq
  simp only at hpb
  have HPF := Lib.hid hpf
  have z1 : wrap64 (AA + BB) = AA + BB := w64 (by omega) (by omega)
  have z2 : wrap64 (AA + BB + CC) = AA + BB + CC := w64 (by omega) (by omega)
  have z3 : wrap64 (AA + BB + CC + DD) = AA + BB + CC + DD := w64 (by omega) (by omega)
  have z4 : wrap64 (4 * (AA + BB + CC + DD)) = 4 * (AA + BB + CC + DD) := w64 (by omega) (by omega)
  have z5 : wrap64 (2 * P2) = 2 * P2 := w64 (by omega) (by omega)
  have z6 : wrap64 (P1 + 2 * P2) = P1 + 2 * P2 := w64 (by omega) (by omega)
  have z7 : wrap64 (P1 + 2 * P2 + P3) = 4 * (AA + BB + CC + DD) := by rw [hq]; exact w64 (by omega) (by omega)
  clear hq hpb hpf hP1 hP2 hP3
  have sA : pstep [] A = [A] := pstep_small (by simp) (by omega) (by omega)
  have sB : pstep [A] B = [A, B] := pstep_small (by simp) (by omega) (by omega)
  have sC : pstep [A, B] C = [A, B, C] := pstep_small (by simp) (by omega) (by omega)
  have sD : pstep [A, B, C] D = [A, B, C, D] := pstep_small (by simp) (by omega) (by omega)
  have SA := Lib.hid sA
  have SB := Lib.hid sB
  have SC := Lib.hid sC
  have SD := Lib.hid sD
  clear sA sB sC sD wa wb wc wd
  go_enter Try.func5, Try.ntmps5
  go_wp2_with fail
  refine (new_pb _).mono ?_
  rintro e w1 ⟨rfl, h1⟩
  generalize hW : w.alloc _ = W0 at *
  have hS0 : W0.heap.size = w.heap.size + 1 := by rw [← hW]; simp
  have HB0 := Lib.hid (show Below w.heap.size w W0 by rw [← hW]; exact (Below.refl _ _).alloc (Nat.le_refl _) _)
  have HX := Lib.hid (show W0.heap[w.heap.size]? = some (.cells #[.int .i32 a, .int .i32 b, .int .i32 c, .int .i32 d] 36 (0, 0)) by rw [← hW]; exact heap_alloc_new w _)
  clear hW
  obtain ⟨p, hp⟩ : ∃ p, p = W0.heap.size := ⟨_, rfl⟩
  have H1 := Lib.hid (show PB W0.heap.size W0 w1 p [] by rw [hp]; exact h1)
  rw [← hp]
  clear h1 hp
  go_wp2
  go_loopw [4, 5] (fun sv iv wr => ∃ j : Nat, j ≤ 4 ∧ iv = .int .i64 j ∧ sv = .int .i64 ((if 0 < j then AA else 0) + (if 1 < j then BB else 0) + (if 2 < j then CC else 0) + (if 3 < j then DD else 0)) ∧ PB W0.heap.size W0 wr p ([A, B, C, D].take j)) (fun _ iv _ => 4 - (intOf iv).toNat)
  case atStart => exact ⟨0, by omega, rfl, rfl, H1.out⟩
  case round =>
    obtain ⟨j, hj, rfl, rfl, hb1⟩ := hrel
    have hX := (hb1.2.2.1.block w.heap.size (by omega)).trans HX.out
    have x0 : wr.cell? ⟨w.heap.size, 0, none⟩ = some (.int .i32 a) := by simp [World.cell?, hX]
    have x1 : wr.cell? ⟨w.heap.size, 1, none⟩ = some (.int .i32 b) := by simp [World.cell?, hX]
    have x2 : wr.cell? ⟨w.heap.size, 2, none⟩ = some (.int .i32 c) := by simp [World.cell?, hX]
    have x3 : wr.cell? ⟨w.heap.size, 3, none⟩ = some (.int .i32 d) := by simp [World.cell?, hX]
    rcases (by omega : j = 0 ∨ j = 1 ∨ j = 2 ∨ j = 3 ∨ j = 4) with rfl | rfl | rfl | rfl | rfl
    · have HB1 := Lib.hid (show PB W0.heap.size W0 wr p [] from hb1)
      clear hX hb1
      go_wp2_with fail
      refine (add_pb _ _ _ _ _ A HB1.out (by simp)).mono ?_
      rintro e w2 ⟨rfl, h2⟩
      rw [SA.out] at h2
      have H2 := Lib.hid h2
      clear h2 x0 x1 x2 x3
      go_wp2
      go_roundw
      case rel => exact ⟨1, by omega, by go_num, by simp, H2.out⟩
      case measure => simp [intOf]
    · have HB1 := Lib.hid (show PB W0.heap.size W0 wr p [A] from hb1)
      clear hX hb1
      go_wp2_with fail
      refine (add_pb _ _ _ _ _ B HB1.out (by simp)).mono ?_
      rintro e w2 ⟨rfl, h2⟩
      rw [SB.out] at h2
      have H2 := Lib.hid h2
      clear h2 x0 x1 x2 x3
      go_wp2
      go_roundw
      case rel => exact ⟨2, by omega, by go_num, by simp, H2.out⟩
      case measure => simp [intOf]
    · have HB1 := Lib.hid (show PB W0.heap.size W0 wr p [A, B] from hb1)
      clear hX hb1
      go_wp2_with fail
      refine (add_pb _ _ _ _ _ C HB1.out (by simp)).mono ?_
      rintro e w2 ⟨rfl, h2⟩
      rw [SC.out] at h2
      have H2 := Lib.hid h2
      clear h2 x0 x1 x2 x3
      go_wp2
      go_roundw
      case rel => exact ⟨3, by omega, by go_num, by simp, H2.out⟩
      case measure => simp [intOf]
    · have HB1 := Lib.hid (show PB W0.heap.size W0 wr p [A, B, C] from hb1)
      clear hX hb1
      go_wp2_with fail
      refine (add_pb _ _ _ _ _ D HB1.out (by simp)).mono ?_
      rintro e w2 ⟨rfl, h2⟩
      rw [SD.out] at h2
      have H2 := Lib.hid h2
      clear h2 x0 x1 x2 x3
      go_wp2
      go_roundw
      case rel => exact ⟨4, by omega, by go_num, by simp, H2.out⟩
      case measure => simp [intOf]
    · have HB1 := Lib.hid (show PB W0.heap.size W0 wr p [A, B, C, D] from hb1)
      clear hX hb1 x0 x1 x2 x3
      go_wp2_with fail
      refine (powers_pb _ _ _ _ _ HB1.out (by simp)).mono ?_
      rintro e w2 ⟨rfl, h2⟩
      rw [HPF.out]
      have H2 := Lib.hid h2
      clear h2
      go_wp2_with fail
      refine (wakes_any _).mono ?_
      rintro e w3 ⟨rfl, h3⟩
      have H3 := Lib.hid h3
      clear h3
      go_wp2
      go_ret
      exact ⟨rfl, below_then (HB0.out.trans (H2.out.2.2.1.mono (by omega))) (by have := H2.out.2.1; omega) H3.out⟩
end Go.Proofs.Ytclieljalegmkaa.Phase
