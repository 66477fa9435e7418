/- What base's Add comes to; no condition but the ranges in each. -/
import Derived.Test.YtlidofldkomdbaaBaseFn
namespace Go.Proofs.Ytlidofldkomdbaa.Base
open Go.RowKit Go.Proofs.Ytlidofldkomdbaa.Plain Go.Proofs.Ytlidofldkomdbaa.Heap

theorem cell_other (w : World) (p i j : Nat) (v : Value) (h : j ≠ i) : (w.setCell ⟨p, i, none⟩ v).cell? ⟨p, j, none⟩ = w.cell? ⟨p, j, none⟩ :=
  World.cell?_setCell_other _ _ _ _ (by intro e; injection e with _ e2 _; omega)
theorem block_set {w : World} {p : Nat} {t : TypeId} (h : ∃ cs : Array Value, w.heap[p]? = some (.cells cs t (0, 0))) (i : Nat) (v : Value) : ∃ cs : Array Value, (w.setCell ⟨p, i, none⟩ v).heap[p]? = some (.cells cs t (0, 0)) := by
  obtain ⟨cs, hc⟩ := h
  exact ⟨cs.setIfInBounds i v, by simp [World.setCell, Array.getElem?_modify, hc]⟩
section
variable {w : World} {p : Nat} {s : BS}
theorem BR.setQueue (h : BR w p s) (q : Int) : BR (w.setCell ⟨p, 196, none⟩ (.int .i64 q)) p { s with queue := q } :=
  ⟨block_set h.block _ _, (cell_other _ _ _ _ _ (by omega)).trans h.width, (cell_other _ _ _ _ _ (by omega)).trans h.rows, fun i hi => (cell_other _ _ _ _ _ (by omega)).trans (h.number i hi), fun i hi => (cell_other _ _ _ _ _ (by omega)).trans (h.least i hi), fun i hi => (cell_other _ _ _ _ _ (by omega)).trans (h.isrow i hi),
    (cell_other _ _ _ _ _ (by omega)).trans h.newest, (cell_other _ _ _ _ _ (by omega)).trans h.any, World.cell?_setCell_same _ _ _ h.queue⟩
theorem BR.setAny (h : BR w p s) (q : Bool) : BR (w.setCell ⟨p, 195, none⟩ (.bool q)) p { s with any := q } :=
  ⟨block_set h.block _ _, (cell_other _ _ _ _ _ (by omega)).trans h.width, (cell_other _ _ _ _ _ (by omega)).trans h.rows, fun i hi => (cell_other _ _ _ _ _ (by omega)).trans (h.number i hi), fun i hi => (cell_other _ _ _ _ _ (by omega)).trans (h.least i hi), fun i hi => (cell_other _ _ _ _ _ (by omega)).trans (h.isrow i hi),
    (cell_other _ _ _ _ _ (by omega)).trans h.newest, World.cell?_setCell_same _ _ _ h.any, (cell_other _ _ _ _ _ (by omega)).trans h.queue⟩
theorem BR.setNewest (h : BR w p s) (q : Int) : BR (w.setCell ⟨p, 194, none⟩ (.int .i64 q)) p { s with newest := q } :=
  ⟨block_set h.block _ _, (cell_other _ _ _ _ _ (by omega)).trans h.width, (cell_other _ _ _ _ _ (by omega)).trans h.rows, fun i hi => (cell_other _ _ _ _ _ (by omega)).trans (h.number i hi), fun i hi => (cell_other _ _ _ _ _ (by omega)).trans (h.least i hi), fun i hi => (cell_other _ _ _ _ _ (by omega)).trans (h.isrow i hi),
    World.cell?_setCell_same _ _ _ h.newest, (cell_other _ _ _ _ _ (by omega)).trans h.any, (cell_other _ _ _ _ _ (by omega)).trans h.queue⟩
/-- A row put in its place. -/
def putRow (s : BS) (j : Nat) (r : Row3) : BS := { s with ring := fun i => if i = j then r else s.ring i }
theorem BR.setNumber (h : BR w p s) (j : Nat) (q : Int) (hj : j < 64) : BR (w.setCell ⟨p, 2 + j * 3, none⟩ (.int .i64 q)) p (putRow s j (q, (s.ring j).2)) := by
  refine ⟨block_set h.block _ _, (cell_other _ _ _ _ _ (by omega)).trans h.width, (cell_other _ _ _ _ _ (by omega)).trans h.rows, fun i hi => ?_, fun i hi => (cell_other _ _ _ _ _ (by omega)).trans ((h.least i hi).trans ?_), fun i hi => (cell_other _ _ _ _ _ (by omega)).trans ((h.isrow i hi).trans ?_),
    (cell_other _ _ _ _ _ (by omega)).trans h.newest, (cell_other _ _ _ _ _ (by omega)).trans h.any, (cell_other _ _ _ _ _ (by omega)).trans h.queue⟩
  · by_cases e : i = j
    · subst e
      simp only [putRow, if_pos]
      exact World.cell?_setCell_same _ _ _ (h.number i hi)
    · simp only [putRow, if_neg e]
      exact (cell_other _ _ _ _ _ (by omega)).trans (h.number i hi)
  · by_cases e : i = j
    · subst e; simp [putRow]
    · simp [putRow, e]
  · by_cases e : i = j
    · subst e; simp [putRow]
    · simp [putRow, e]
theorem BR.setLeast (h : BR w p s) (j : Nat) (q : Int) (hj : j < 64) : BR (w.setCell ⟨p, 2 + j * 3 + 1, none⟩ (.int .i64 q)) p (putRow s j ((s.ring j).1, q, (s.ring j).2.2)) := by
  refine ⟨block_set h.block _ _, (cell_other _ _ _ _ _ (by omega)).trans h.width, (cell_other _ _ _ _ _ (by omega)).trans h.rows, fun i hi => (cell_other _ _ _ _ _ (by omega)).trans ((h.number i hi).trans ?_), fun i hi => ?_, fun i hi => (cell_other _ _ _ _ _ (by omega)).trans ((h.isrow i hi).trans ?_),
    (cell_other _ _ _ _ _ (by omega)).trans h.newest, (cell_other _ _ _ _ _ (by omega)).trans h.any, (cell_other _ _ _ _ _ (by omega)).trans h.queue⟩
  · by_cases e : i = j
    · subst e; simp [putRow]
    · simp [putRow, e]
  · by_cases e : i = j
    · subst e
      simp only [putRow, if_pos]
      exact World.cell?_setCell_same _ _ _ (h.least i hi)
    · simp only [putRow, if_neg e]
      exact (cell_other _ _ _ _ _ (by omega)).trans (h.least i hi)
  · by_cases e : i = j
    · subst e; simp [putRow]
    · simp [putRow, e]
theorem BR.setIs (h : BR w p s) (j : Nat) (q : Bool) (hj : j < 64) : BR (w.setCell ⟨p, 2 + j * 3 + 2, none⟩ (.bool q)) p (putRow s j ((s.ring j).1, (s.ring j).2.1, q)) := by
  refine ⟨block_set h.block _ _, (cell_other _ _ _ _ _ (by omega)).trans h.width, (cell_other _ _ _ _ _ (by omega)).trans h.rows, fun i hi => (cell_other _ _ _ _ _ (by omega)).trans ((h.number i hi).trans ?_), fun i hi => (cell_other _ _ _ _ _ (by omega)).trans ((h.least i hi).trans ?_), fun i hi => ?_,
    (cell_other _ _ _ _ _ (by omega)).trans h.newest, (cell_other _ _ _ _ _ (by omega)).trans h.any, (cell_other _ _ _ _ _ (by omega)).trans h.queue⟩
  · by_cases e : i = j
    · subst e; simp [putRow]
    · simp [putRow, e]
  · by_cases e : i = j
    · subst e; simp [putRow]
    · simp [putRow, e]
  · by_cases e : i = j
    · subst e
      simp only [putRow, if_pos]
      exact World.cell?_setCell_same _ _ _ (h.isrow i hi)
    · simp only [putRow, if_neg e]
      exact (cell_other _ _ _ _ _ (by omega)).trans (h.isrow i hi)
end
/-- A number held between. -/
def hold (a lo hi : Int) : Int := if a < lo then lo else if a > hi then hi else a
set_option maxRecDepth 10000 in
set_option maxHeartbeats 1000000 in
theorem add_old (at_ delay : Int) (p : Nat) (w : World) (s : BS) (h : BR w p s) (R : Nat) (hR : s.rows = (R : Int)) (hR1 : 1 ≤ R) (hR2 : R ≤ 64) (hw : 1 ≤ s.width) (hn0 : 0 ≤ s.newest) (hn1 : s.newest ≤ 1125899906842624) (n : Int) (hn : hold at_ 0 1125899906842624 / s.width = n)
    (ha : s.any = true) (hle : n ≤ s.newest - s.rows) : Calls Try.prog 10 #[.pointer (some ⟨p, 0, none⟩), .int .i64 at_, .int .i64 delay] w
    fun e w' => e = .returned (.int .i64 0) ∧ BR w' p { s with queue := 0 } ∧ Kept (fun k => k = p) w w' := by
  have h0 : 0 ≤ hold at_ 0 1125899906842624 ∧ hold at_ 0 1125899906842624 ≤ 1125899906842624 := by unfold hold; split <;> (try split) <;> omega
  have hd : Int.tdiv (hold at_ 0 1125899906842624) s.width = n := by rw [Int.tdiv_eq_ediv_of_nonneg h0.1]; exact hn
  have hnb : 0 ≤ n ∧ n ≤ 1125899906842624 := by
    rw [← hn]
    exact ⟨Int.ediv_nonneg h0.1 (by omega), Int.le_trans (Int.ediv_le_self _ h0.1) h0.2⟩
  have hwz : (s.width == 0) = false := by simp; omega
  have hsub : wrap64 (s.newest - s.rows) = s.newest - s.rows := w64 (by omega) (by omega)
  have hsub2 : IntKind.i64.wrap (s.newest - s.rows) = s.newest - s.rows := IntWalk.i64_in _ (by omega)
  have hlt : ¬ s.newest < n := by omega
  have x0 := h.width
  have x1 := h.rows
  have x2 := h.newest
  have x3 := h.any
  have x4 := h.queue
  have x5 := h.frozen 196
  have hp := h.lt
  rw [ha] at x3
  have H := Lib.hid h
  have H0 := Lib.hid h0
  clear h h0 hn
  go_enter Try.func10, Try.ntmps10
  go_wp2_with fail
  refine (Sat.clamp_any _ _ _ _).mono ?_
  rintro e w1 ⟨rfl, rfl⟩
  rw [show (if at_ < 0 then 0 else if at_ > 1125899906842624 then 1125899906842624 else at_) = hold at_ 0 1125899906842624 from rfl]
  generalize hold at_ 0 1125899906842624 = A at *
  go_wp2_with fail
  refine (Sat.clamp_any _ _ _ _).mono ?_
  rintro e w1 ⟨rfl, rfl⟩
  rw [show (if delay < -1125899906842624 then -1125899906842624 else if delay > 1125899906842624 then 1125899906842624 else delay) = hold delay (-1125899906842624) 1125899906842624 from rfl]
  generalize hold delay (-1125899906842624) 1125899906842624 = D at *
  have hnw : wrap64 n = n := w64 (by omega) (by omega)
  have H2 := Lib.hid (H.out.setQueue 0)
  have y1 := H2.out.rows
  have y2 := H2.out.newest
  have d1 : decide (n ≤ s.newest - s.rows) = true := decide_eq_true hle
  go_wp2_with fail
  go_quiet (fail)
  go_wp2_with fail
  go_ret
  exact ⟨rfl, H2.out.drewN _, ((Kept.refl (fun k => k = p) w).setCell (p := ⟨p, 196, none⟩) (.inl rfl) _).drewN _⟩
/-- A sample's row is the newest one, or not. -/
def up (s : BS) (n : Int) : BS := if s.any = false ∨ s.newest < n then { s with newest := n, any := true, queue := 0 } else { s with queue := 0 }
def rowOf (r : Row3) (n D : Int) : Row3 := if r.1 ≠ n ∨ r.2.2 = false then (n, mn D D, true) else (r.1, mn r.2.1 D, r.2.2)
theorem put_put (s : BS) (j : Nat) (r r' : Row3) : putRow (putRow s j r) j r' = putRow s j r' := by
  unfold putRow
  congr 1
  funext i
  by_cases e : i = j
  · simp [e]
  · simp [e]
theorem put_ring (s : BS) (j : Nat) (r : Row3) : (putRow s j r).ring j = r := by simp [putRow]
/-- A row laid anew, in three stores. -/
theorem BR.fresh {w : World} {p : Nat} {s : BS} (h : BR w p s) (j : Nat) (hj : j < 64) (n D : Int) : BR (((w.setCell ⟨p, 2 + j * 3, none⟩ (.int .i64 n)).setCell ⟨p, 2 + j * 3 + 1, none⟩ (.int .i64 D)).setCell ⟨p, 2 + j * 3 + 2, none⟩ (.bool true)) p (putRow s j (n, D, true)) := by
  have h3 := ((h.setNumber j n hj).setLeast j D hj).setIs j true hj
  rw [put_ring, put_put, put_put, put_ring] at h3
  exact h3
theorem BR.lower {w : World} {p : Nat} {s : BS} (h : BR w p s) (j : Nat) (hj : j < 64) (a b D : Int) (c : Bool) (hr : s.ring j = (a, b, c)) : BR (w.setCell ⟨p, 2 + j * 3 + 1, none⟩ (.int .i64 D)) p (putRow s j (a, D, c)) := by
  have h3 := h.setLeast j D hj
  rw [hr] at h3
  exact h3
attribute [local go_sem high] run_mx run_mn in
set_option maxRecDepth 10000 in
set_option maxHeartbeats 2000000 in
theorem add_new (at_ delay : Int) (p : Nat) (w : World) (s : BS) (h : BR w p s) (R : Nat) (hR : s.rows = (R : Int)) (hR1 : 1 ≤ R) (hR2 : R ≤ 64) (hw : 1 ≤ s.width) (hn0 : 0 ≤ s.newest) (hn1 : s.newest ≤ 1125899906842624) (n D : Int) (hn : hold at_ 0 1125899906842624 / s.width = n)
    (hD : hold delay (-1125899906842624) 1125899906842624 = D) (j : Nat) (hj : n % s.rows = (j : Int)) (s3 : BS) (hs3 : s3 = putRow (up s n) j (rowOf ((up s n).ring j) n D)) (hL : -1125899906842624 ≤ (lst s3 R).1 ∧ (lst s3 R).1 ≤ 1125899906842624)
    (hle : ¬ n ≤ (up s n).newest - s.rows) : Calls Try.prog 10 #[.pointer (some ⟨p, 0, none⟩), .int .i64 at_, .int .i64 delay] w
    fun e w' => e = .returned (.int .i64 (D - (lst s3 R).1)) ∧ BR w' p { s3 with queue := D - (lst s3 R).1 } ∧ Kept (fun k => k = p) w w' := by
  have h0 : 0 ≤ hold at_ 0 1125899906842624 ∧ hold at_ 0 1125899906842624 ≤ 1125899906842624 := by unfold hold; split <;> (try split) <;> omega
  have hDb : -1125899906842624 ≤ D ∧ D ≤ 1125899906842624 := by rw [← hD]; unfold hold; split <;> (try split) <;> omega
  have hd : Int.tdiv (hold at_ 0 1125899906842624) s.width = n := by rw [Int.tdiv_eq_ediv_of_nonneg h0.1]; exact hn
  have hnb : 0 ≤ n ∧ n ≤ 1125899906842624 := by
    rw [← hn]
    exact ⟨Int.ediv_nonneg h0.1 (by omega), Int.le_trans (Int.ediv_le_self _ h0.1) h0.2⟩
  have hwz : (s.width == 0) = false := by simp; omega
  have hjR : j < R := by
    have := Int.emod_lt_of_pos n (show 0 < s.rows by omega)
    omega
  have hU : (s.any = false ∧ up s n = { s with newest := n, any := true, queue := 0 }) ∨ (s.any = true ∧ s.newest < n ∧ up s n = { s with newest := n, any := true, queue := 0 }) ∨ (s.any = true ∧ ¬ s.newest < n ∧ up s n = { s with queue := 0 }) := by
    rcases Bool.eq_false_or_eq_true s.any with ha | ha
    · by_cases hl : s.newest < n
      · exact .inr (.inl ⟨ha, hl, by unfold up; rw [if_pos (.inr hl)]⟩)
      · exact .inr (.inr ⟨ha, hl, by unfold up; rw [if_neg (by rw [ha]; simp; omega)]⟩)
    · exact .inl ⟨ha, by unfold up; rw [if_pos (.inl ha)]⟩
  have x0 := h.width
  have x1 := h.rows
  have x2 := h.newest
  have x3 := h.any
  have x4 := h.queue
  have x5 := h.frozen 196
  have x6 := h.frozen 195
  have x7 := h.frozen 194
  have hp := h.lt
  have HL := Lib.hid hL
  have HS3 := Lib.hid hs3
  have HLE := Lib.hid hle
  have HJ := Lib.hid hj
  clear hL hs3 hle hj hn
  have hnw : wrap64 n = n := w64 (by omega) (by omega)
  have H := Lib.hid h
  have HD := Lib.hid hD
  clear h hD h0
  rcases hU with ⟨hu, hup⟩ | ⟨hu, hu2, hup⟩ | ⟨hu, hu2, hup⟩
  all_goals
    have HUP := Lib.hid hup
    clear hup
    rw [hu] at x3
    go_enter Try.func10, Try.ntmps10
    go_wp2_with fail
    refine (Sat.clamp_any _ _ _ _).mono ?_
    rintro e w1 ⟨rfl, rfl⟩
    rw [show (if at_ < 0 then 0 else if at_ > 1125899906842624 then 1125899906842624 else at_) = hold at_ 0 1125899906842624 from rfl]
    generalize hold at_ 0 1125899906842624 = A at *
    go_wp2_with fail
    refine (Sat.clamp_any _ _ _ _).mono ?_
    rintro e w1 ⟨rfl, rfl⟩
    rw [show (if delay < -1125899906842624 then -1125899906842624 else if delay > 1125899906842624 then 1125899906842624 else delay) = hold delay (-1125899906842624) 1125899906842624 from rfl, HD.out]
    go_wp2_with fail
    generalize hW : World.setCell _ ⟨p, 196, none⟩ (.int .i64 0) = W1
    have hB : BR W1 p (up s n) := by
      rw [HUP.out, ← hW]
      first | exact H.out.setQueue 0 | exact ((H.out.setAny true).setNewest n).setQueue 0 | exact ((H.out.setNewest n).setAny true).setQueue 0 | exact ((H.out.setAny true).drew.setNewest n).setQueue 0 | exact ((H.out.setAny true).setNewest n).drew.setQueue 0 | exact ((H.out.drew.setAny true).setNewest n).setQueue 0
    have hK : Kept (fun k => k = p) w W1 := by
      rw [← hW]
      first
        | exact (Kept.refl (fun k => k = p) w).setCell (p := ⟨p, 196, none⟩) (.inl rfl) _
        | exact (((Kept.refl (fun k => k = p) w).setCell (p := ⟨p, 195, none⟩) (.inl rfl) _).setCell (p := ⟨p, 194, none⟩) (.inl rfl) _).setCell (p := ⟨p, 196, none⟩) (.inl rfl) _
        | exact (((Kept.refl (fun k => k = p) w).drew.setCell (p := ⟨p, 195, none⟩) (.inl rfl) _).setCell (p := ⟨p, 194, none⟩) (.inl rfl) _).setCell (p := ⟨p, 196, none⟩) (.inl rfl) _
    have hs1 : (up s n).rows = s.rows ∧ 0 ≤ (up s n).newest ∧ (up s n).newest ≤ 1125899906842624 := by
      rw [HUP.out]
      exact ⟨rfl, by first | exact hnb.1 | exact hn0, by first | exact hnb.2 | exact hn1⟩
    have hle := HLE.out
    have hs3 := HS3.out
    clear HUP HLE HS3 hW x0 x1 x2 x3 x4 x5 x6 x7
    generalize up s n = s1 at *
    rw [← hs1.1] at hle hR
    have hj := HJ.out
    rw [← hs1.1] at hj
    rw [hR] at hj hle
    have y1 := hB.rows
    rw [hR] at y1
    have y2 := hB.newest
    have hp1 := hB.lt
    have d1 : decide (n ≤ s1.newest - (R : Int)) = false := decide_eq_false (by omega)
    have hsub : IntKind.i64.wrap (s1.newest - (R : Int)) = s1.newest - (R : Int) := IntWalk.i64_in _ (by omega)
    have hRz : ((R : Int) == 0) = false := by simp; omega
    have hmod : IntKind.i64.wrap (Int.tmod n (R : Int)) = (j : Int) := by rw [Int.tmod_eq_emod_of_nonneg hnb.1, hj]; exact IntWalk.i64_in _ (by omega)
    have hs := ring_slice p R hR1 hR2
    have z0 := hB.number j (by omega)
    have z1 := hB.least j (by omega)
    have z2 := hB.isrow j (by omega)
    have g0 := hB.frozen (2 + j * 3)
    have g1 := hB.frozen (2 + j * 3 + 1)
    have g2 := hB.frozen (2 + j * 3 + 2)
    have hj0 : (0 : Int) ≤ (j : Int) := by omega
    have hjR' : (j : Int) < (R : Int) := by omega
    have hrow : ∃ r0 r1 r2, s1.ring j = (r0, r1, r2) := ⟨_, _, _, rfl⟩
    obtain ⟨r0, r1, r2, hrow⟩ := hrow
    rw [hrow] at z0 z1 z2 hs3
    have HR := Lib.hid hrow
    have HB := Lib.hid hB
    have HK := Lib.hid hK
    clear hB hK hrow
    have hcase : r0 ≠ n ∨ (r0 = n ∧ r2 = false) ∨ (r0 = n ∧ r2 = true) := by
      by_cases h : r0 = n
      · cases r2
        · exact .inr (.inl ⟨h, rfl⟩)
        · exact .inr (.inr ⟨h, rfl⟩)
      · exact .inl h
    have HR3 := Lib.hid (show s3.rows = (R : Int) ∧ IntKind.i64.wrap (s3.newest - s3.rows) = s3.newest - s3.rows by
      rw [hs3]
      exact ⟨hR, IntWalk.i64_in _ (by show _ ≤ s1.newest - s1.rows ∧ s1.newest - s1.rows ≤ _; omega)⟩)
    rcases hcase with hc | ⟨rfl, rfl⟩ | ⟨rfl, rfl⟩
    · have hs4 : s3 = putRow (putRow s1 j (n, D, true)) j (n, mn D D, true) := by
        rw [hs3, put_put]
        unfold rowOf
        rw [if_pos (.inl hc)]
      have HS3 := Lib.hid hs4
      have hcb : (r0 == n) = false := by simpa using hc
      clear hs3 hs4
      go_quiet (fail)
      go_wp2_with fail
      go_region
      go_wp2_with fail
      refine (least_any p _ s3 (by rw [HS3.out]; exact (((HB.out.drewN _).fresh j (by omega) n D).lower j (by omega) n D (mn D D) true (put_ring _ _ _))) R HR3.out.1 hR1 hR2 HR3.out.2).mono ?_
      rintro e w5 ⟨rfl, h5⟩
      have hb5 := (show BR _ p s3 by rw [HS3.out]; exact (((HB.out.drewN _).fresh j (by omega) n D).lower j (by omega) n D (mn D D) true (put_ring _ _ _))).kept (Kept.of_below (S := fun _ => False) h5) id
      have hk5 := (((HK.out.drewN _).setCell (p := ⟨p, 2 + j * 3, none⟩) (.inl rfl) _ |>.setCell (p := ⟨p, 2 + j * 3 + 1, none⟩) (.inl rfl) _ |>.setCell (p := ⟨p, 2 + j * 3 + 2, none⟩) (.inl rfl) _ |>.setCell (p := ⟨p, 2 + j * 3 + 1, none⟩) (.inl rfl) _) : Kept (fun k => k = p) w _).trans (Kept.of_below (S := fun k => k = p) h5) (fun _ _ h => h)
      have q0 := hb5.queue
      have q1 := hb5.frozen 196
      have hsubq : IntKind.i64.wrap (D - (lst s3 R).1) = D - (lst s3 R).1 := IntWalk.i64_in _ (by have := HL.out; omega)
      have HB5 := Lib.hid hb5
      have HK5 := Lib.hid hk5
      clear hb5 hk5 h5
      go_wp2_with fail
      go_ret
      refine ⟨rfl, ?_, ?_⟩
      · first | exact HB5.out.setQueue _ | exact (HB5.out.drewN _).setQueue _ | exact (HB5.out.setQueue _).drewN _ | exact HB5.out.drew.setQueue _
      · first | exact HK5.out.setCell (p := ⟨p, 196, none⟩) (.inl rfl) _ | exact (HK5.out.drewN _).setCell (p := ⟨p, 196, none⟩) (.inl rfl) _ | exact (HK5.out.setCell (p := ⟨p, 196, none⟩) (.inl rfl) _).drewN _ | exact HK5.out.drew.setCell (p := ⟨p, 196, none⟩) (.inl rfl) _
    · have hs4 : s3 = putRow (putRow s1 j (r0, D, true)) j (r0, mn D D, true) := by
        rw [hs3, put_put]
        unfold rowOf
        rw [if_pos (.inr rfl)]
      have HS3 := Lib.hid hs4
      have hcb : (r0 == r0) = true := by simp
      clear hs3 hs4
      go_quiet (fail)
      go_wp2_with fail
      go_region
      go_wp2_with fail
      refine (least_any p _ s3 (by rw [HS3.out]; exact (((HB.out.drewN _).fresh j (by omega) r0 D).lower j (by omega) r0 D (mn D D) true (put_ring _ _ _))) R HR3.out.1 hR1 hR2 HR3.out.2).mono ?_
      rintro e w5 ⟨rfl, h5⟩
      have hb5 := (show BR _ p s3 by rw [HS3.out]; exact (((HB.out.drewN _).fresh j (by omega) r0 D).lower j (by omega) r0 D (mn D D) true (put_ring _ _ _))).kept (Kept.of_below (S := fun _ => False) h5) id
      have hk5 := (((HK.out.drewN _).setCell (p := ⟨p, 2 + j * 3, none⟩) (.inl rfl) _ |>.setCell (p := ⟨p, 2 + j * 3 + 1, none⟩) (.inl rfl) _ |>.setCell (p := ⟨p, 2 + j * 3 + 2, none⟩) (.inl rfl) _ |>.setCell (p := ⟨p, 2 + j * 3 + 1, none⟩) (.inl rfl) _) : Kept (fun k => k = p) w _).trans (Kept.of_below (S := fun k => k = p) h5) (fun _ _ h => h)
      have q0 := hb5.queue
      have q1 := hb5.frozen 196
      have hsubq : IntKind.i64.wrap (D - (lst s3 R).1) = D - (lst s3 R).1 := IntWalk.i64_in _ (by have := HL.out; omega)
      have HB5 := Lib.hid hb5
      have HK5 := Lib.hid hk5
      clear hb5 hk5 h5
      go_wp2_with fail
      go_ret
      refine ⟨rfl, ?_, ?_⟩
      · first | exact HB5.out.setQueue _ | exact (HB5.out.drewN _).setQueue _ | exact (HB5.out.setQueue _).drewN _ | exact HB5.out.drew.setQueue _
      · first | exact HK5.out.setCell (p := ⟨p, 196, none⟩) (.inl rfl) _ | exact (HK5.out.drewN _).setCell (p := ⟨p, 196, none⟩) (.inl rfl) _ | exact (HK5.out.setCell (p := ⟨p, 196, none⟩) (.inl rfl) _).drewN _ | exact HK5.out.drew.setCell (p := ⟨p, 196, none⟩) (.inl rfl) _
    · have hs4 : s3 = putRow s1 j (r0, mn r1 D, true) := by
        rw [hs3]
        unfold rowOf
        rw [if_neg (by simp)]
      have HS3 := Lib.hid hs4
      have hcb : (r0 == r0) = true := by simp
      clear hs3 hs4
      go_quiet (fail)
      go_wp2_with fail
      go_region
      go_wp2_with fail
      refine (least_any p _ s3 (by rw [HS3.out]; exact ((HB.out.drewN _).lower j (by omega) r0 r1 (mn r1 D) true HR.out)) R HR3.out.1 hR1 hR2 HR3.out.2).mono ?_
      rintro e w5 ⟨rfl, h5⟩
      have hb5 := (show BR _ p s3 by rw [HS3.out]; exact ((HB.out.drewN _).lower j (by omega) r0 r1 (mn r1 D) true HR.out)).kept (Kept.of_below (S := fun _ => False) h5) id
      have hk5 := (((HK.out.drewN _).setCell (p := ⟨p, 2 + j * 3 + 1, none⟩) (.inl rfl) _) : Kept (fun k => k = p) w _).trans (Kept.of_below (S := fun k => k = p) h5) (fun _ _ h => h)
      have q0 := hb5.queue
      have q1 := hb5.frozen 196
      have hsubq : IntKind.i64.wrap (D - (lst s3 R).1) = D - (lst s3 R).1 := IntWalk.i64_in _ (by have := HL.out; omega)
      have HB5 := Lib.hid hb5
      have HK5 := Lib.hid hk5
      clear hb5 hk5 h5
      go_wp2_with fail
      go_ret
      refine ⟨rfl, ?_, ?_⟩
      · first | exact HB5.out.setQueue _ | exact (HB5.out.drewN _).setQueue _ | exact (HB5.out.setQueue _).drewN _ | exact HB5.out.drew.setQueue _
      · first | exact HK5.out.setCell (p := ⟨p, 196, none⟩) (.inl rfl) _ | exact (HK5.out.drewN _).setCell (p := ⟨p, 196, none⟩) (.inl rfl) _ | exact (HK5.out.setCell (p := ⟨p, 196, none⟩) (.inl rfl) _).drewN _ | exact HK5.out.drew.setCell (p := ⟨p, 196, none⟩) (.inl rfl) _
end Go.Proofs.Ytlidofldkomdbaa.Base
