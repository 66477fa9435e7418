/- Two histories side by side; lists that read alike; no condition but the ranges in each. -/
import Derived.Test.YtfemmbipglpalaaHistRef4
import Derived.Test.YtfemmbipglpalaaHistLaw1
namespace Go.Proofs.Ytfemmbipglpalaa.History
open Go.RowKit Go.Proofs.Ytfemmbipglpalaa.Plain Go.Proofs.Ytfemmbipglpalaa.Heap Go.Proofs.Ytfemmbipglpalaa.Maps Go.Proofs.Ytfemmbipglpalaa.Rows Go.Proofs.Ytfemmbipglpalaa.Open


theorem measJ (n : Int) (k : Nat) (h : (k : Int) < n) : (n - (intOf (.int .i64 ((k : Int) + 1)))).toNat < (n - intOf (.int .i64 (k : Int))).toNat := by simp [intOf]; omega
theorem two_newA (w : World) (x y : Obj) : ((w.alloc x).alloc y).drew.heap[w.heap.size]? = some x := (Below.heap_alloc (w.alloc x) y w.heap.size (by simp)).trans (heap_alloc_new w x)
theorem two_newB (w : World) (x y : Obj) : ((w.alloc x).alloc y).drew.heap[w.heap.size + 1]? = some y := by
  have := heap_alloc_new (w.alloc x) y
  simpa [drew_heap] using this
theorem sent_at {w : World} {A : Option Addr} {n : Nat} {l : List E3} (h : Rd w 3 A n (flat3 l)) {i : Nat} {x : E3} (hx : l[i]? = some x) (hi : i < n) :
    ∃ g off, A = some ⟨g, off, none⟩ ∧ w.cell? ⟨g, off + i * 3, none⟩ = some (.int .i64 x.1) ∧ w.cell? ⟨g, off + i * 3 + 1, none⟩ = some (.int .i64 x.2.1) ∧ w.cell? ⟨g, off + i * 3 + 2, none⟩ = some (.int .i64 x.2.2) := by
  obtain ⟨g, off, hA, hg, hc⟩ := h.2 (by omega)
  obtain ⟨f0, f1, f2⟩ := flat3_at _ i x hx
  exact ⟨g, off, hA, hc _ _ f0, hc _ _ f1, hc _ _ f2⟩
set_option maxHeartbeats 2000000 in
theorem sents_same (A B : Option Addr) (n c d : Nat) (l : List E3) (w : World) (hr : Rd w 3 A n (flat3 l)) (hs : Rd w 3 B n (flat3 l)) (hn : (n : Int) ≤ 1024) :
    Calls Try.prog 23 #[.slice A n c, .slice B n d] w fun e w' => e = .returned (.bool true) ∧ Kept (fun _ => False) w w' := by
  have hl : l.length = n := by have h1 := hr.1; rw [flat3_len] at h1; omega
  have HR := Lib.hid hr
  have HS := Lib.hid hs
  have HL := Lib.hid hl
  clear hr hs hl
  go_enter Try.func23, Try.ntmps23
  go_wp2_with fail
  go_loopw [5] (fun i wr => ∃ k : Nat, (k : Int) ≤ (n : Int) ∧ i = .int .i64 (k : Int) ∧ Kept (fun _ => False) w wr) (fun i _ => ((n : Int) - intOf i).toNat)
  case atStart => exact ⟨0, by omega, rfl, Kept.refl _ _⟩
  case round =>
    obtain ⟨k, hk, rfl, hw⟩ := hrel
    have HW := Lib.hid hw
    clear hw
    by_cases hlt : (k : Int) < (n : Int)
    · obtain ⟨x, hx⟩ : ∃ x, l[k]? = some x := ⟨_, List.getElem?_eq_getElem (by rw [HL.out]; omega)⟩
      obtain ⟨g, off, rfl, x0, x1, x2⟩ := sent_at (HR.out.kept HW.out (fun _ _ _ => id)) hx (by omega)
      obtain ⟨g', off', rfl, y0, y1, y2⟩ := sent_at (HS.out.kept HW.out (fun _ _ _ => id)) hx (by omega)
      clear hx
      go_wp2_with fail
      go_quiet (fail)
      go_wp2
      go_roundw
      case rel => exact ⟨k + 1, by omega, by go_num, HW.out.drewN _⟩
      case measure => exact measJ n k hlt
    · go_wp2
      go_ret
      exact ⟨rfl, HW.out⟩
theorem flat6_at (l : List A6) (i : Nat) (x : A6) (h : l[i]? = some x) : (flat6 l)[i * 6]? = some (.int .i64 x.1.1) ∧ (flat6 l)[i * 6 + 1]? = some (.int .i64 x.1.2.1) ∧ (flat6 l)[i * 6 + 2]? = some (.int .i64 x.1.2.2) ∧ (flat6 l)[i * 6 + 3]? = some (.int .i64 x.2.1) ∧ (flat6 l)[i * 6 + 4]? = some (.bool x.2.2.1) ∧ (flat6 l)[i * 6 + 5]? = some (.bool x.2.2.2) := by
  induction l generalizing i with
  | nil => simp at h
  | cons y l ih =>
    have e : flat6 (y :: l) = .int .i64 y.1.1 :: .int .i64 y.1.2.1 :: .int .i64 y.1.2.2 :: .int .i64 y.2.1 :: .bool y.2.2.1 :: .bool y.2.2.2 :: flat6 l := rfl
    rw [e]
    cases i with
    | zero =>
      simp at h
      subst h
      exact ⟨rfl, rfl, rfl, rfl, rfl, rfl⟩
    | succ i =>
      simp at h
      have := ih i h
      rw [show (i + 1) * 6 = i * 6 + 1 + 1 + 1 + 1 + 1 + 1 by omega, show i * 6 + 1 + 1 + 1 + 1 + 1 + 1 + 1 = (i * 6 + 1) + 1 + 1 + 1 + 1 + 1 + 1 by omega, show i * 6 + 1 + 1 + 1 + 1 + 1 + 1 + 2 = (i * 6 + 2) + 1 + 1 + 1 + 1 + 1 + 1 by omega, show i * 6 + 1 + 1 + 1 + 1 + 1 + 1 + 3 = (i * 6 + 3) + 1 + 1 + 1 + 1 + 1 + 1 by omega, show i * 6 + 1 + 1 + 1 + 1 + 1 + 1 + 4 = (i * 6 + 4) + 1 + 1 + 1 + 1 + 1 + 1 by omega, show i * 6 + 1 + 1 + 1 + 1 + 1 + 1 + 5 = (i * 6 + 5) + 1 + 1 + 1 + 1 + 1 + 1 by omega]
      simp only [List.getElem?_cons_succ]
      exact this
set_option maxHeartbeats 4000000 in
theorem ackeds_same (A B : Option Addr) (n c d : Nat) (l : List A6) (w : World) (hr : Rd w 6 A n (flat6 l)) (hs : Rd w 6 B n (flat6 l)) (hn : (n : Int) ≤ 1024) :
    Calls Try.prog 22 #[.slice A n c, .slice B n d] w fun e w' => e = .returned (.bool true) ∧ Kept (fun _ => False) w w' := by
  have hl : l.length = n := by have h1 := hr.1; rw [flat6_len] at h1; omega
  have HR := Lib.hid hr
  have HS := Lib.hid hs
  have HL := Lib.hid hl
  clear hr hs hl
  go_enter Try.func22, Try.ntmps22
  go_wp2_with fail
  go_loopw [5] (fun i wr => ∃ k : Nat, (k : Int) ≤ (n : Int) ∧ i = .int .i64 (k : Int) ∧ Kept (fun _ => False) w wr) (fun i _ => ((n : Int) - intOf i).toNat)
  case atStart => exact ⟨0, by omega, rfl, Kept.refl _ _⟩
  case round =>
    obtain ⟨k, hk, rfl, hw⟩ := hrel
    have HW := Lib.hid hw
    clear hw
    by_cases hlt : (k : Int) < (n : Int)
    · obtain ⟨x, hx⟩ : ∃ x, l[k]? = some x := ⟨_, List.getElem?_eq_getElem (by rw [HL.out]; omega)⟩
      obtain ⟨f0, f1, f2, f3, f4, f5⟩ := flat6_at _ k x hx
      obtain ⟨g, off, rfl, hg, xc⟩ := (HR.out.kept HW.out (fun _ _ _ => id)).2 (by omega)
      obtain ⟨g', off', rfl, hg', yc⟩ := (HS.out.kept HW.out (fun _ _ _ => id)).2 (by omega)
      have x0 := xc _ _ f0
      have x1 := xc _ _ f1
      have x2 := xc _ _ f2
      have x3 := xc _ _ f3
      have x4 := xc _ _ f4
      have x5 := xc _ _ f5
      have y0 := yc _ _ f0
      have y1 := yc _ _ f1
      have y2 := yc _ _ f2
      have y3 := yc _ _ f3
      have y4 := yc _ _ f4
      have y5 := yc _ _ f5
      rw [← Nat.add_assoc] at x1 x2 x3 x4 x5 y1 y2 y3 y4 y5
      clear hx xc yc f0 f1 f2 f3 f4 f5
      obtain ⟨⟨a0, a1, a2⟩, a3, a4, a5⟩ := x
      simp only at x0 x1 x2 x3 x4 x5 y0 y1 y2 y3 y4 y5
      go_upto_region 6 with fail
      go_cut [6, 7] (fun s6 s7 wx => ∃ qa qb, s6 = .pointer (some ⟨qa, 0, none⟩) ∧ s7 = .pointer (some ⟨qb, 0, none⟩) ∧ wx.heap[qa]? = some (.cells #[.int .i64 a0, .int .i64 a1, .int .i64 a2, .int .i64 a3, .bool a4, .bool a5] 40 (0, 0)) ∧ wx.heap[qb]? = some (.cells #[.int .i64 a0, .int .i64 a1, .int .i64 a2, .int .i64 a3, .bool a4, .bool a5] 40 (0, 0)) ∧ Kept (fun _ => False) wr wx)
      case first =>
        go_region
        all_goals
          go_wp2_with fail
          go_meet
          exact ⟨_, _, rfl, rfl, by first | exact two_newA _ _ _ | exact two_newB _ _ _, by first | exact two_newA _ _ _ | exact two_newB _ _ _, (((Kept.refl _ wr).alloc _).alloc _).drew⟩
      case rest =>
      obtain ⟨qa, qb, rfl, rfl, hqa, hqb, hkq⟩ := hcut
      rename World => X
      have p0 : X.cell? ⟨qa, 0, none⟩ = some (.int .i64 a0) := by simp [World.cell?, hqa]
      have p1 : X.cell? ⟨qa, 1, none⟩ = some (.int .i64 a1) := by simp [World.cell?, hqa]
      have p2 : X.cell? ⟨qa, 2, none⟩ = some (.int .i64 a2) := by simp [World.cell?, hqa]
      have p3 : X.cell? ⟨qa, 3, none⟩ = some (.int .i64 a3) := by simp [World.cell?, hqa]
      have p4 : X.cell? ⟨qa, 4, none⟩ = some (.bool a4) := by simp [World.cell?, hqa]
      have p5 : X.cell? ⟨qa, 5, none⟩ = some (.bool a5) := by simp [World.cell?, hqa]
      have r0 : X.cell? ⟨qb, 0, none⟩ = some (.int .i64 a0) := by simp [World.cell?, hqb]
      have r1 : X.cell? ⟨qb, 1, none⟩ = some (.int .i64 a1) := by simp [World.cell?, hqb]
      have r2 : X.cell? ⟨qb, 2, none⟩ = some (.int .i64 a2) := by simp [World.cell?, hqb]
      have r3 : X.cell? ⟨qb, 3, none⟩ = some (.int .i64 a3) := by simp [World.cell?, hqb]
      have r4 : X.cell? ⟨qb, 4, none⟩ = some (.bool a4) := by simp [World.cell?, hqb]
      have r5 : X.cell? ⟨qb, 5, none⟩ = some (.bool a5) := by simp [World.cell?, hqb]
      have HKX := Lib.hid (HW.out.trans hkq (fun _ _ h => h))
      clear hqa hqb hkq x0 x1 x2 x3 x4 x5 y0 y1 y2 y3 y4 y5
      go_wp2_with fail
      go_roundw
      case rel => exact ⟨k + 1, by omega, by go_num, HKX.out⟩
      case measure => exact measJ n k hlt
    · go_wp2
      go_ret
      exact ⟨rfl, HW.out⟩
theorem info_rep : (Try.prog.info? 51).map (fun i => (i.zero, i.size, i.bytes)) = some (some (.agg #[.int .i64 0, .bool false, .int .i64 0, .bool false, .bool false]), 5, 32) := by kernel_rfl
theorem flat5_one (l : List R5) : ∀ u ∈ flat5 l, u.oneCell' = true := by
  intro u hu
  simp only [flat5, List.mem_flatMap] at hu
  obtain ⟨x, _, hx⟩ := hu
  simp at hx
  rcases hx with rfl | rfl | rfl | rfl | rfl <;> rfl
theorem flat5_len (l : List R5) : (flat5 l).length = l.length * 5 := by
  induction l with
  | nil => rfl
  | cons x l ih =>
    have e : flat5 (x :: l) = .int .i64 x.1 :: .bool x.2.1 :: .int .i64 x.2.2.1 :: .bool x.2.2.2.1 :: .bool x.2.2.2.2 :: flat5 l := rfl
    rw [e]
    simp only [List.length_cons, ih]
    omega
theorem flat5_at (l : List R5) (j : Nat) (u : Value) (h : (flat5 l)[j]? = some u) : ∃ x, l[j / 5]? = some x ∧ [Value.int .i64 x.1, .bool x.2.1, .int .i64 x.2.2.1, .bool x.2.2.2.1, .bool x.2.2.2.2][j % 5]? = some u := by
  induction l generalizing j with
  | nil => simp [flat5] at h
  | cons x l ih =>
    have e : flat5 (x :: l) = [.int .i64 x.1, .bool x.2.1, .int .i64 x.2.2.1, .bool x.2.2.2.1, .bool x.2.2.2.2] ++ flat5 l := rfl
    rw [e] at h
    by_cases hj : j < 5
    · rw [List.getElem?_append_left (by simpa using hj)] at h
      rw [Nat.div_eq_of_lt hj, Nat.mod_eq_of_lt hj]
      exact ⟨x, rfl, h⟩
    · rw [List.getElem?_append_right (by simpa using Nat.le_of_not_lt hj)] at h
      obtain ⟨y, h1, h2⟩ := ih (j - 5) (by simpa using h)
      refine ⟨y, ?_, by rwa [show (j - 5) % 5 = j % 5 by omega] at h2⟩
      rw [show j / 5 = (j - 5) / 5 + 1 by omega]
      simpa using h1
abbrev rRep : Rel R5 := rTwo (rInt .i64) (rTwo rBool (rTwo (rInt .i64) (rTwo rBool rBool)))
theorem els_rd {w : World} {A : Option Addr} {n : Nat} {xs : List R5} (h : Els 5 rRep w A n xs) : Rd w 5 A n (flat5 xs) := by
  obtain ⟨hl, _, h3⟩ := h
  refine ⟨by rw [flat5_len, hl], fun hn => ?_⟩
  obtain ⟨b, off, rfl, hb, hc⟩ := h3 hn
  refine ⟨b, off, rfl, hb (by omega), fun j u hj => ?_⟩
  obtain ⟨x, h1, h2⟩ := flat5_at xs j u hj
  obtain ⟨c, hc1, hc2, hr⟩ := hc _ x h1
  obtain ⟨c1, d1, rfl, ⟨rfl, _⟩, c2, d2, rfl, h4, c3, d3, rfl, ⟨rfl, _⟩, c4, d4, rfl, h5, h6⟩ := hr
  obtain rfl : c2 = _ := h4
  obtain rfl : c4 = _ := h5
  obtain rfl : d4 = _ := h6
  have := hc2 (j % 5) u h2
  rwa [show off + j / 5 * 5 + j % 5 = off + j by omega] at this
set_option maxHeartbeats 4000000 in
theorem reports_same (A B : Option Addr) (n c d : Nat) (l : List R5) (w : World) (hr : Rd w 5 A n (flat5 l)) (hs : Rd w 5 B n (flat5 l)) (hn : (n : Int) ≤ 3000) :
    Calls Try.prog 24 #[.slice A n c, .slice B n d] w fun e w' => e = .returned (.bool true) ∧ Kept (fun _ => False) w w' := by
  have hl : l.length = n := by have h1 := hr.1; rw [flat5_len] at h1; omega
  have HR := Lib.hid hr
  have HS := Lib.hid hs
  have HL := Lib.hid hl
  clear hr hs hl
  go_enter Try.func24, Try.ntmps24
  go_wp2_with fail
  go_loopw [5] (fun i wr => ∃ k : Nat, (k : Int) ≤ (n : Int) ∧ i = .int .i64 (k : Int) ∧ Kept (fun _ => False) w wr) (fun i _ => ((n : Int) - intOf i).toNat)
  case atStart => exact ⟨0, by omega, rfl, Kept.refl _ _⟩
  case round =>
    obtain ⟨k, hk, rfl, hw⟩ := hrel
    have HW := Lib.hid hw
    clear hw
    by_cases hlt : (k : Int) < (n : Int)
    · obtain ⟨x, hx⟩ : ∃ x, l[k]? = some x := ⟨_, List.getElem?_eq_getElem (by rw [HL.out]; omega)⟩
      obtain ⟨f0, f1, f2, f3, f4⟩ := flat5_get _ k x hx
      obtain ⟨g, off, rfl, hg, xc⟩ := (HR.out.kept HW.out (fun _ _ _ => id)).2 (by omega)
      obtain ⟨g', off', rfl, hg', yc⟩ := (HS.out.kept HW.out (fun _ _ _ => id)).2 (by omega)
      have x0 := xc _ _ f0
      have x1 := xc _ _ f1
      have x2 := xc _ _ f2
      have x3 := xc _ _ f3
      have x4 := xc _ _ f4
      have y0 := yc _ _ f0
      have y1 := yc _ _ f1
      have y2 := yc _ _ f2
      have y3 := yc _ _ f3
      have y4 := yc _ _ f4
      rw [← Nat.add_assoc] at x1 x2 x3 x4 y1 y2 y3 y4
      clear hx xc yc f0 f1 f2 f3 f4
      obtain ⟨a0, a1, a2, a3, a4⟩ := x
      simp only at x0 x1 x2 x3 x4 y0 y1 y2 y3 y4
      go_upto_region 6 with fail
      go_cut [6, 7] (fun s6 s7 wx => ∃ qa qb, s6 = .pointer (some ⟨qa, 0, none⟩) ∧ s7 = .pointer (some ⟨qb, 0, none⟩) ∧ wx.heap[qa]? = some (.cells #[.int .i64 a0, .bool a1, .int .i64 a2, .bool a3, .bool a4] 51 (0, 0)) ∧ wx.heap[qb]? = some (.cells #[.int .i64 a0, .bool a1, .int .i64 a2, .bool a3, .bool a4] 51 (0, 0)) ∧ Kept (fun _ => False) wr wx)
      case first =>
        go_region
        all_goals
          go_wp2_with fail
          go_meet
          exact ⟨_, _, rfl, rfl, by first | exact two_newA _ _ _ | exact two_newB _ _ _, by first | exact two_newA _ _ _ | exact two_newB _ _ _, (((Kept.refl _ wr).alloc _).alloc _).drew⟩
      case rest =>
      obtain ⟨qa, qb, rfl, rfl, hqa, hqb, hkq⟩ := hcut
      rename World => X
      have p0 : X.cell? ⟨qa, 0, none⟩ = some (.int .i64 a0) := by simp [World.cell?, hqa]
      have p1 : X.cell? ⟨qa, 1, none⟩ = some (.bool a1) := by simp [World.cell?, hqa]
      have p2 : X.cell? ⟨qa, 2, none⟩ = some (.int .i64 a2) := by simp [World.cell?, hqa]
      have p3 : X.cell? ⟨qa, 3, none⟩ = some (.bool a3) := by simp [World.cell?, hqa]
      have p4 : X.cell? ⟨qa, 4, none⟩ = some (.bool a4) := by simp [World.cell?, hqa]
      have r0 : X.cell? ⟨qb, 0, none⟩ = some (.int .i64 a0) := by simp [World.cell?, hqb]
      have r1 : X.cell? ⟨qb, 1, none⟩ = some (.bool a1) := by simp [World.cell?, hqb]
      have r2 : X.cell? ⟨qb, 2, none⟩ = some (.int .i64 a2) := by simp [World.cell?, hqb]
      have r3 : X.cell? ⟨qb, 3, none⟩ = some (.bool a3) := by simp [World.cell?, hqb]
      have r4 : X.cell? ⟨qb, 4, none⟩ = some (.bool a4) := by simp [World.cell?, hqb]
      have HKX := Lib.hid (HW.out.trans hkq (fun _ _ h => h))
      clear hqa hqb hkq x0 x1 x2 x3 x4 y0 y1 y2 y3 y4
      go_wp2_with fail
      go_roundw
      case rel => exact ⟨k + 1, by omega, by go_num, HKX.out⟩
      case measure => exact measJ n k hlt
    · go_wp2
      go_ret
      exact ⟨rfl, HW.out⟩
theorem HB.hear0 {B : Nat} {w0 w : World} {p r : Nat} {h : HS} (hb : HB B w0 w p r h) (ok : okH h) (A : Option Addr) (n c : Nat) (rs : List R5) (now : Int) (hrd : Rd w 5 A n (flat5 rs)) (hlen : rs.length = n) (hn1 : n ≤ 1000000) (hA : ∀ b off, A = some ⟨b, off, none⟩ → b ≠ p ∧ b ≠ r) :
    Calls Try.prog 14 #[.pointer (some ⟨p, 0, none⟩), .slice A n c, .int .i64 now] w
      fun e w' => ∃ gv lv mg ml, e = .returned (.tuple #[gv, lv]) ∧ HB B w0 w' p r (hearL h rs).1 ∧ HH w w' p r w.heap.size (hearL h rs) gv lv mg ml := by
  by_cases h0 : h.next = 0
  · have hl : h.l = [] := by
      cases hh : h.l with
      | nil => rfl
      | cons x l =>
        have := ok.lt x (by rw [hh]; simp)
        omega
    have he : ∀ l : List R5, hearL h l = (h, [], []) := by
      intro l
      induction l with
      | nil => rfl
      | cons x l ih =>
        show List.foldl hear1 (hear1 (h, [], []) x) l = _
        have : hear1 (h, [], []) x = (h, [], []) := by
          unfold hear1
          simp only [hl]
          rfl
        rw [this]
        exact ih
    rw [he]
    obtain ⟨c0, c1, c2, c3, c4, c5, hf, hp, hrl⟩ := hb.hr.cells
    refine (hear_zero p r h _ now w hb.hr h0).mono ?_
    rintro e w' ⟨rfl, rfl⟩
    exact ⟨_, _, 0, 0, rfl, hb, hb.hr, ok, ⟨by simp [flat6], .inl ⟨rfl, rfl⟩⟩, ⟨by simp [flat3], .inl ⟨rfl, rfl⟩⟩, rfl, rfl, (fun b e => by simp [Value.ownBlock] at e), Nat.le_refl _, hp, hrl, Kept.refl _ _⟩
  · exact hb.hear ok (by have := ok.next0; omega) A n c rs now hrd hlen hn1 hA

/-- Two histories side by side, of the call's own. -/
structure HP (w0 w : World) (p r q : Nat) (h k : HS) (u : Value) : Prop where
  hb : HB w0.heap.size w0 w p r h
  qr : QR w q k u
  bq : w0.heap.size ≤ q
  qp : q ≠ p
  qn : q ≠ r
  un : ∀ g, isAt u g → w0.heap.size ≤ g ∧ g ≠ p ∧ g ≠ r
section
variable {w0 w w' : World} {p r q : Nat} {h k h' k' : HS} {u u' : Value}
theorem HP.run (x : HP w0 w p r q h k u) (hk : Kept (fun _ => False) w w') : HP w0 w' p r q h k u :=
  ⟨x.hb.run (hk.below (Nat.le_refl _) (fun _ e => e.elim)), x.qr.run hk, x.bq, x.qp, x.qn, x.un⟩
theorem HP.mine (x : HP w0 w p r q h k u) (hr : HR w' p r h') (hk : Kept (fun g => g = p ∨ g = r) w w') : HP w0 w' p r q h' k u :=
  ⟨x.hb.to hr hk, x.qr.kept hk (fun e => by rcases e with e | e; exact x.qp e; exact x.qn e) (fun g hg e => by have := x.un g hg; rcases e with e | e; exact this.2.1 e; exact this.2.2 e), x.bq, x.qp, x.qn, x.un⟩
theorem HP.theirs (x : HP w0 w p r q h k u) (hq : QR w' q k' u') (hu : ∀ g, isAt u' g → isAt u g ∨ w.heap.size ≤ g) (hk : Kept (fun g => g = q) w w') : HP w0 w' p r q h k' u' := by
  obtain ⟨_, _, _, _, _, _, _, hp, hr⟩ := x.hb.hr.cells
  refine ⟨⟨x.hb.hr.kept hk (fun e => x.qp e.symm) (fun e => x.qn e.symm), x.hb.bp, x.hb.br, Nat.le_trans x.hb.sz hk.size, x.hb.below.trans (hk.below x.hb.sz (fun i hi => by rw [hi]; exact x.bq))⟩, hq, x.bq, x.qp, x.qn, fun g hg => ?_⟩
  rcases hu g hg with h1 | h1
  · exact x.un g h1
  · have := x.hb.sz
    exact ⟨by omega, by omega, by omega⟩
theorem HP.done (x : HP w0 w p r q h k u) (hb : Below w.heap.size w w') : Below w0.heap.size w0 w' := below_then x.hb.below x.hb.sz hb
/-- The document's history as the program's; where the first one stands is the program's own. -/
theorem QR.first {w : World} {q : Nat} {k : HS} {u : Value} (x : QR w q k u) (k' : HS) (h1 : k'.timeout = k.timeout) (h2 : k'.next = k.next) (h3 : k'.last = k.last) (h4 : k'.l = k.l) : QR w q k' u := by
  obtain ⟨b, row, ne⟩ := x
  refine ⟨?_, by rw [h4]; exact row, ne⟩
  rw [b]
  unfold qcells
  rw [h1, h2, h3]
end
theorem pl_fresh (t : Int) (h : 1 ≤ t) (h' : t ≤ 1125899906842624) : Pl ⟨t, 0, 0, 0, 0, []⟩ :=
  ⟨fresh_ok t, trivial, Int.le_refl _, Int.le_refl _, nofun, nofun, Int.le_refl _, by show (0 : Int) ≤ 1125899906842624; omega, h, h'⟩
theorem pl_send {h : HS} (p : Pl h) (size at_ : Int) (hn : h.next < 1000000000) : Pl (hsend h size at_).1 ∧ (hsend h size at_).1.next ≤ h.next + 1 := by
  have ok := send_ok p.ok size at_ hn
  unfold hsend at ok ⊢
  by_cases hb : sendBad size at_
  · rw [if_pos hb]; exact ⟨p, by show h.next ≤ h.next + 1; omega⟩
  rw [if_neg hb] at ok ⊢
  by_cases hl : at_ < h.last
  · rw [if_pos hl]; exact ⟨p, by show h.next ≤ h.next + 1; omega⟩
  rw [if_neg hl] at ok ⊢
  by_cases hf : h.l.length = 1024
  · rw [if_pos hf]; exact ⟨p, by show h.next ≤ h.next + 1; omega⟩
  rw [if_neg hf] at ok ⊢
  unfold sendBad at hb
  refine ⟨⟨ok, ?_, p.f0, ?_, ?_, ?_, ?_, ?_, p.t0, p.t1⟩, Int.le_refl _⟩
  · exact sorted_snoc p.so (fun y hy => ⟨(p.ok.lt y hy).2, by have := (p.at0 y hy).2; show y.2.2 ≤ at_; omega⟩)
  · have := p.f1; show h.first ≤ h.next + 1; omega
  · intro x hx
    rcases List.mem_append.1 hx with hx | hx
    · exact p.ge x hx
    · simp at hx; subst hx; exact p.f1
  · intro x hx
    show 0 ≤ x.2.2 ∧ x.2.2 ≤ at_
    rcases List.mem_append.1 hx with hx | hx
    · have := p.at0 x hx; omega
    · simp at hx; subst hx; exact ⟨by show 0 ≤ at_; omega, Int.le_refl _⟩
  · show 0 ≤ at_; omega
  · show at_ ≤ 1125899906842624; omega
theorem pl_drop {h : HS} (p : Pl h) {k : Int} {x : E3} (hx : findE k h.l = some x) : Pl (dropE h x) :=
  ⟨p.ok.drop hx, sorted_erase p.so, p.f0, p.f1, fun y hy => p.ge y (eraseE_mem hy), fun y hy => p.at0 y (eraseE_mem hy), p.last0, p.last1, p.t0, p.t1⟩
theorem pl_hear1 {s : H3} (p : Pl s.1) (x : R5) : Pl (hear1 s x).1 := by
  unfold hear1
  cases hf : findE (hkey s.1 x.1) s.1.l with
  | none => exact p
  | some e =>
    simp only
    split
    · exact pl_drop p hf
    · exact pl_drop p hf
theorem pl_fold (l : List R5) : ∀ s : H3, Pl s.1 → Pl (l.foldl hear1 s).1 := by
  induction l with
  | nil => exact fun s p => p
  | cons x l ih => exact fun s p => ih _ (pl_hear1 p x)
theorem pl_hear {h : HS} (p : Pl h) (l : List R5) : Pl (hearL h l).1 := pl_fold l _ p
theorem pl_expire {h : HS} (p : Pl h) (now : Int) (ok : okH (expire h now).1) : Pl (expire h now).1 := by
  obtain ⟨e1, e2, e3, e4, e5, e6, e7⟩ := expire_is p now
  refine ⟨ok, ?_, e6.1, by rw [e4]; exact e6.2, e7, fun x hx => ?_, by rw [e5]; exact p.last0, by rw [e5]; exact p.last1, by rw [e3]; exact p.t0, by rw [e3]; exact p.t1⟩
  · rw [e2]; exact sorted_filter _ p.so
  · rw [e2] at hx
    rw [e5]
    exact p.at0 x (List.mem_filter.1 hx).1
theorem rd_src {P : Program} {w : World} {sz n c : Nat} {A : Option Addr} {xs : List Value} {tx e' : TypeId} (hk : P.underlying tx = some (.slice e')) (h : Rd w sz A n xs) (h1 : ∀ u ∈ xs, u.oneCell' = true) : Src P sz tx (.slice A n c) n xs w := by
  rcases A with _ | ad
  · have hn : n = 0 := by
      rcases Nat.eq_zero_or_pos n with h0 | h0
      · exact h0
      · obtain ⟨_, _, e, _⟩ := h.2 h0
        cases e
    subst hn
    have hxs : xs = [] := List.eq_nil_of_length_eq_zero (by simpa using h.1)
    subst hxs
    exact Src.ofNil w hk c
  · refine Src.ofSlice w hk ad n c xs h.1 (fun j u hj => ?_) h1
    rcases Nat.eq_zero_or_pos n with h0 | h0
    · subst h0
      have hxs : xs = [] := List.eq_nil_of_length_eq_zero (by simpa using h.1)
      rw [hxs] at hj
      simp at hj
    · obtain ⟨g, off, e, _, hc⟩ := h.2 h0
      injection e with e
      rw [e, addr_lit]
      exact hc j u hj
end Go.Proofs.Ytfemmbipglpalaa.History
