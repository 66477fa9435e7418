/- PacerBudget: what goes between two times is at most the burst and what the rates between them let; no condition. -/
import Derived.Test.YtkjjkepiihdihaaPaceOwn
namespace Go.Proofs.Ytkjjkepiihdihaa.Pace
open Go.RowKit Go.Proofs.Ytkjjkepiihdihaa.Plain Go.Proofs.Ytkjjkepiihdihaa.Heap Go.Proofs.Ytkjjkepiihdihaa.Rows Go.Proofs.Ytkjjkepiihdihaa.Open

/-- What went, and what the rates let, ahead of the k-th step. -/
def ahead (W : List Int) (k : Nat) : Int := if k = 0 then 0 else W.getD (k - 1) 0
def from_ (R : List Int) (k : Nat) : Int := if k = 0 then 0 else R.getD k 0
/-- The account of the steps done. -/
structure Bu (b sum bits : Int) (W R : List Int) (s : PS) : Prop where
  burst : s.burst = b * 8000000
  lens : W.length = R.length
  last : ahead W W.length = sum
  acc : ∀ k, k < W.length → s.credit + (sum - ahead W k) * 8000000 ≤ b * 8000000 + (bits - from_ R k)
theorem ahead_old (W : List Int) (x : Int) {k : Nat} (h : k ≤ W.length) : ahead (W ++ [x]) k = ahead W k := by
  unfold ahead
  split
  · rfl
  · simp only [List.getD_eq_getElem?_getD]
    rw [List.getElem?_append_left (by omega)]
theorem from_old (W : List Int) (x : Int) {k : Nat} (h : k < W.length) : from_ (W ++ [x]) k = from_ W k := by
  unfold from_
  split
  · rfl
  · simp only [List.getD_eq_getElem?_getD]
    rw [List.getElem?_append_left h]
theorem ahead_new (W : List Int) (x : Int) : ahead (W ++ [x]) (W ++ [x]).length = x := by simp [ahead]
theorem from_new (W : List Int) (x : Int) (h : W.length = 0 → x = 0) : from_ (W ++ [x]) W.length = x := by
  unfold from_
  split
  · rename_i h0; exact (h h0).symm
  · simp
/-- A step: the time goes on by dt at the rate r; the rate is set; one comes; what may, goes. -/
theorem bu_step {b sum bits now r dt r2 : Int} {W R : List Int} {s : PS} (h : Bu b sum bits W R s) (ok : okP s) (hr : s.rate = r) (hnow : s.now = now) (hdt : 0 ≤ dt) (hmax : now + dt ≤ 1125899906842624) (h0 : R.length = 0 → bits + r * dt = 0) (wd : Int) (a x cl d : Int) :
    Bu b (sum + szs (poll (enq (setp s r2 wd (now + dt)) a x cl d (now + dt)).1 (now + dt) 0).1) (bits + r * dt) (W ++ [sum + szs (poll (enq (setp s r2 wd (now + dt)) a x cl d (now + dt)).1 (now + dt) 0).1]) (R ++ [bits + r * dt]) (poll (enq (setp s r2 wd (now + dt)) a x cl d (now + dt)).1 (now + dt) 0).2 ∧
      (poll (enq (setp s r2 wd (now + dt)) a x cl d (now + dt)).1 (now + dt) 0).2.now = now + dt ∧ (poll (enq (setp s r2 wd (now + dt)) a x cl d (now + dt)).1 (now + dt) 0).2.rate = clampI r2 0 17179869184 := by
  have ok1 := setp_ok ok r2 wd (now + dt)
  have hcl : clampT s (now + dt) = now + dt := by unfold clampT; rw [if_neg (by omega), if_neg (by omega)]
  have hn1 : (setp s r2 wd (now + dt)).now = now + dt := hcl
  have hc1 : (setp s r2 wd (now + dt)).credit = min (s.credit + r * dt) (b * 8000000) := by
    show min (s.credit + s.rate * (clampT s (now + dt) - s.now)) s.burst = _
    rw [hcl, hr, hnow, h.burst, show now + dt - now = dt by omega]
  have hb1 : (setp s r2 wd (now + dt)).burst = b * 8000000 := h.burst
  have hr1 : (setp s r2 wd (now + dt)).rate = clampI r2 0 17179869184 := rfl
  have he := enq_same ok1 a x cl d
  rw [hn1] at he
  have ok2 := enq_ok ok1 a x cl d (now + dt)
  obtain ⟨s2, hs2⟩ : ∃ s2, s2 = (enq (setp s r2 wd (now + dt)) a x cl d (now + dt)).1 := ⟨_, rfl⟩
  rw [← hs2] at he ok2 ⊢
  obtain ⟨e1, _, e3, e4, e5, _⟩ := he
  obtain ⟨_, p2, _, p4, p5, p6, _⟩ := poll_acc ok2 (now + dt) 0
  have hg : goes s2 (now + dt) = s2 := by have h1 := goes_same ok2; rw [e3] at h1; exact h1
  rw [hg] at p2
  have hcl2 : clampT s2 (now + dt) = now + dt := by unfold clampT; rw [e3, if_neg (by omega), if_neg (by omega)]
  generalize hout : szs (poll s2 (now + dt) 0).1 = u at *
  have hS := p2
  rw [e1, hc1] at hS
  generalize hm : r * dt = m at *
  refine ⟨⟨p5.trans (e5.trans hb1), by simp [h.lens], by rw [ahead_new], fun k hk => ?_⟩, by rw [p6, hcl2], by rw [p4, e4, hr1]⟩
  rw [List.length_append, List.length_singleton] at hk
  rw [hS]
  by_cases hk2 : k < W.length
  · rw [ahead_old W _ (by omega), from_old R _ (by rw [← h.lens]; exact hk2)]
    have := h.acc k hk2
    omega
  · obtain rfl : k = W.length := by omega
    rw [ahead_old W _ (Nat.le_refl _), h.last, h.lens, from_new R _ (fun e => h0 e)]
    omega
theorem bu_check {b sum bits : Int} {W R : List Int} {s : PS} (h : Bu b sum bits W R s) (ok : okP s) {k : Nat} (hk : k < W.length) : ¬ (sum - ahead W k - b) * 8000000 > bits - from_ R k := by
  have h1 := h.acc k hk
  have h2 := ok.credit0
  omega
theorem row_is {B : Nat} {E : Nat → Prop} {m : Nat} {w0 w : World} {p : Nat} {s : PS} {o : Nat → Value} {c : Nat → List Int} (h : OX B E m w0 w p s o c) {i n : Nat} (hi : i < m) {v : Value} (ho : o i = v) (hn : (c i).length = n) : RW w 1 v n (nums .i64 (c i)) := by
  have := h.rows i hi
  rwa [ho, hn] at this
set_option linter.unusedSimpArgs false in
set_option maxRecDepth 10000 in
set_option maxHeartbeats 4000000 in
theorem PacerBudget_any (bu : Int) (A : Option Addr) (n c : Nat) (zs : List Stp) (w : World) (hbu : (Lit.int .u16 bu).wf = true) (h1 : Els 9 rStp w A n zs) :
    Calls Try.prog 3 #[.int .u16 bu, .slice A n c] w fun e w' => e = .returned (.bool true) ∧ Below w.heap.size w w' := by
  have R := Lib.hid h1
  obtain ⟨u0, u1⟩ := wf_u16 hbu
  obtain ⟨b, hb, hb0, hb1⟩ : ∃ b, 1500 + bu = b ∧ 1500 ≤ b ∧ b ≤ 67035 := ⟨_, rfl, by omega, by omega⟩
  clear h1 hbu
  go_enter Try.func3, Try.ntmps3
  go_wp2_with fail
  refine (new_px (NO w.heap.size (fun _ => False) 3 (fun _ => .slice none 0 0)) b 256 w (by omega) (by omega) (by omega) (by omega) (fun g h => by
    rcases h with h | h | ⟨i, _, _, _, _, h⟩
    · exact h
    · exact h.elim
    · cases h)).mono ?_
  rintro e w1 ⟨p, rfl, h1⟩
  have H1 := Lib.hid (show OX w.heap.size (fun _ => False) 3 w w1 p ⟨b * 8000000, b * 8000000, 0, 0, 0, 256, fun _ => []⟩ (fun _ => .slice none 0 0) (fun _ => []) from
    ⟨h1, rfl, fun i _ => RW.nil _ _, fun i _ g hg => (by obtain ⟨_, _, _, e⟩ := hg; cases e), fun i j _ _ _ g hg => (by obtain ⟨_, _, _, e⟩ := hg; cases e), fun g hg => hg.elim⟩)
  clear h1
  go_wp2_with fail
  go_loopw [8, 9, 10, 11, 12, 13, 14, 15] (fun av rv gv nv qv sv bv iv wx => ∃ (i : Nat) (s : PS) (o : Nat → Value) (l : Nat → List Int) (now rate sum bits : Int), (i : Int) ≤ 60 ∧ iv = .int .i64 (i : Int) ∧ av = o 0 ∧ rv = o 1 ∧ gv = o 2 ∧ nv = .int .i64 now ∧ qv = .int .i64 rate ∧ sv = .int .i64 sum ∧ bv = .int .i64 bits ∧
    (∀ k, k < 3 → (l k).length = i) ∧ 0 ≤ now ∧ now ≤ (i : Int) * 1048576 ∧ 0 ≤ rate ∧ rate < 1073741824 ∧ 0 ≤ sum ∧ sum ≤ (i : Int) * 1536000 ∧ 0 ≤ bits ∧ bits ≤ (i : Int) * 1125899906842624 ∧ (i = 0 → bits = 0 ∧ rate = 0) ∧ (∀ x ∈ l 2, 0 ≤ x ∧ x ≤ 92160000) ∧ (∀ x ∈ l 1, 0 ≤ x ∧ x ≤ 67553994410557440) ∧
    s.rate = rate ∧ s.now = now ∧ Bu b sum bits (l 2) (l 1) s ∧ OX w.heap.size (fun _ => False) 3 w wx p s o l) (fun _ _ _ _ _ _ _ iv _ => ((60 : Int) - intOf iv).toNat)
  case atStart =>
    refine ⟨0, _, fun _ => .slice none 0 0, fun _ => [], 0, 0, 0, 0, by omega, rfl, rfl, rfl, rfl, rfl, rfl, rfl, rfl, fun _ _ => rfl, by omega, by omega, by omega, by omega, by omega, by omega, by omega, by omega, fun _ => ⟨rfl, rfl⟩, fun x hx => (by simp at hx), fun x hx => (by simp at hx), rfl, rfl, ⟨rfl, rfl, rfl, fun k hk => by simp at hk⟩, H1.out⟩
  case round =>
    obtain ⟨i, s, o, l, now, rate, sum, bits, hi, rfl, rfl, rfl, rfl, rfl, rfl, rfl, rfl, hlen, n0, n1, r0, r1, s0, s1, b0, b1, hz, hl2, hl1, hrate, hnow, hbu, hx⟩ := hrel
    obtain ⟨A0, c0, e0⟩ := hx.val (i := 0) (by omega)
    obtain ⟨A1, c1, e1⟩ := hx.val (i := 1) (by omega)
    obtain ⟨A2, c2, e2⟩ := hx.val (i := 2) (by omega)
    rw [hlen 0 (by omega)] at e0
    rw [hlen 1 (by omega)] at e1
    rw [hlen 2 (by omega)] at e2
    rw [e0, e1, e2]
    have HX := Lib.hid hx
    have HBU := Lib.hid hbu
    have HLEN := Lib.hid hlen
    have HZ := Lib.hid hz
    have HL2 := Lib.hid hl2
    have HL1 := Lib.hid hl1
    have HRT := Lib.hid hrate
    have HNW := Lib.hid hnow
    have E0 := Lib.hid e0
    have E1 := Lib.hid e1
    have E2 := Lib.hid e2
    clear hlen hz hl2 hl1 hrate hnow hbu hx e0 e1 e2
    by_cases hgo : (i : Int) < (n : Int) ∧ (i : Int) < 60
    · obtain ⟨hn, h2⟩ := hgo
      obtain ⟨g, off, kd, x1, x2, x3, x4, r, wd, fl, nw, rfl, hg, _, y0, y1, y2, y3, y4, y5, y6, y7, y8⟩ := stp_at R.out (k := i) (by omega)
      have hbel := HX.out.below
      have z0 := (hbel.cell (p := ⟨g, off + i * 9, none⟩) hg).trans y0
      have z1 := (hbel.cell (p := ⟨g, off + i * 9 + 1, none⟩) hg).trans y1
      have z2 := (hbel.cell (p := ⟨g, off + i * 9 + 2, none⟩) hg).trans y2
      have z3 := (hbel.cell (p := ⟨g, off + i * 9 + 3, none⟩) hg).trans y3
      have z4 := (hbel.cell (p := ⟨g, off + i * 9 + 4, none⟩) hg).trans y4
      have z5 := (hbel.cell (p := ⟨g, off + i * 9 + 5, none⟩) hg).trans y5
      have z6 := (hbel.cell (p := ⟨g, off + i * 9 + 6, none⟩) hg).trans y6
      have z7 := (hbel.cell (p := ⟨g, off + i * 9 + 7, none⟩) hg).trans y7
      have z8 := (hbel.cell (p := ⟨g, off + i * 9 + 8, none⟩) hg).trans y8
      obtain ⟨dt, hdt, dt0, dt1⟩ : ∃ dt, nw % 1048576 = dt ∧ 0 ≤ dt ∧ dt < 1048576 := ⟨_, rfl, by omega, by omega⟩
      obtain ⟨r2, hr2, r20, r21⟩ : ∃ r2, r % 1073741824 = r2 ∧ 0 ≤ r2 ∧ r2 < 1073741824 := ⟨_, rfl, by omega, by omega⟩
      obtain ⟨cl, hcl, cl0, cl1⟩ : ∃ cl, x3 % 4 = cl ∧ 0 ≤ cl ∧ cl < 4 := ⟨_, rfl, by omega, by omega⟩
      obtain ⟨d, hd, d0, d1⟩ : ∃ d, x4 % 1501 = d ∧ 0 ≤ d ∧ d ≤ 1500 := ⟨_, rfl, by omega, by omega⟩
      have hm0 : 0 ≤ rate * dt := Int.mul_nonneg r0 dt0
      have hm1 : rate * dt ≤ 1125899906842624 := by
        have h1 : rate * dt ≤ rate * 1048576 := Int.mul_le_mul_of_nonneg_left (by omega) r0
        omega
      obtain ⟨m, hm⟩ : ∃ m, rate * dt = m := ⟨_, rfl⟩
      rw [hm] at hm0 hm1
      have hwm : IntKind.i64.wrap m = m := IntWalk.i64_in _ (by omega)
      have HDT := Lib.hid hdt
      have HR2 := Lib.hid hr2
      have HCL := Lib.hid hcl
      have HD := Lib.hid hd
      clear y0 y1 y2 y3 y4 y5 y6 y7 y8 hdt hr2 hcl hd hbel
      go_wp2_with fail
      refine (mod64_any nw 1048576 _ (by omega) (by omega)).mono ?_
      rintro e w2 ⟨rfl, rfl⟩
      rw [HDT.out]
      go_wp2_with fail
      refine (mod64_any r 1073741824 _ (by omega) (by omega)).mono ?_
      rintro e w2 ⟨rfl, rfl⟩
      rw [HR2.out]
      go_wp2_with fail
      obtain ⟨X, hXX⟩ : ∃ X, X = wr.heap.size := ⟨_, rfl⟩
      obtain ⟨wa, hwa⟩ : ∃ wa, wa = wr.alloc (.cells #[.int .i64 kd, .int .i64 x1, .int .i64 x2, .int .i64 x3, .int .i64 x4, .int .i64 r, .int .i64 wd, .int .i64 fl, .int .i64 nw] 32) := ⟨_, rfl⟩
      have HXa := Lib.hid (show OX w.heap.size (fun g => g = X) 3 w wa p s o l by rw [hwa]; exact HX.out.grab ((Kept.refl _ _).alloc _) (fun g hg => .inr ⟨by omega, by simp; omega⟩))
      have hh := heap_alloc_new wr (.cells #[.int .i64 kd, .int .i64 x1, .int .i64 x2, .int .i64 x3, .int .i64 x4, .int .i64 r, .int .i64 wd, .int .i64 fl, .int .i64 nw] 32)
      rw [← hwa, ← hXX] at hh
      have q1 : wa.cell? ⟨X, 1, none⟩ = some (.int .i64 x1) := by simp only [World.cell?, hh]; rfl
      have q2 : wa.cell? ⟨X, 2, none⟩ = some (.int .i64 x2) := by simp only [World.cell?, hh]; rfl
      have q3 : wa.cell? ⟨X, 3, none⟩ = some (.int .i64 x3) := by simp only [World.cell?, hh]; rfl
      have q4 : wa.cell? ⟨X, 4, none⟩ = some (.int .i64 x4) := by simp only [World.cell?, hh]; rfl
      rw [← hwa, ← hXX]
      clear hh hwa hXX z0 z1 z2 z3 z4 z5 z6 z7 z8
      refine (HXa.out.px.here.set r2 1099511627776 (now + dt)).mono ?_
      rintro e w3 ⟨rfl, h3⟩
      have k1 := (HXa.out.keep h3 (g := X) rfl 1).trans q1
      have k2 := (HXa.out.keep h3 (g := X) rfl 2).trans q2
      have k3 := (HXa.out.keep h3 (g := X) rfl 3).trans q3
      have k4 := (HXa.out.keep h3 (g := X) rfl 4).trans q4
      have HX3 := Lib.hid (HXa.out.step h3)
      clear h3 q1 q2 q3 q4
      go_wp2_with fail
      obtain ⟨Y, hY⟩ : ∃ Y, Y = w3.heap.size := ⟨_, rfl⟩
      obtain ⟨wb, hwb⟩ : ∃ wb, wb = w3.alloc (.cells #[.int .i64 x1, .int .i64 x2, .int .i64 x3, .int .i64 x4] 30) := ⟨_, rfl⟩
      have HXb := Lib.hid (show OX w.heap.size (fun g => g = Y) 3 w wb p _ o l by rw [hwb]; exact HX3.out.grab ((Kept.refl _ _).alloc _) (fun g hg => .inr ⟨by omega, by simp; omega⟩))
      have hh := heap_alloc_new w3 (.cells #[.int .i64 x1, .int .i64 x2, .int .i64 x3, .int .i64 x4] 30)
      rw [← hwb, ← hY] at hh
      have q0 : wb.cell? ⟨Y, 0, none⟩ = some (.int .i64 x1) := by simp only [World.cell?, hh]; rfl
      have q1 : wb.cell? ⟨Y, 1, none⟩ = some (.int .i64 x2) := by simp only [World.cell?, hh]; rfl
      have q2 : wb.cell? ⟨Y, 2, none⟩ = some (.int .i64 x3) := by simp only [World.cell?, hh]; rfl
      have q3 : wb.cell? ⟨Y, 3, none⟩ = some (.int .i64 x4) := by simp only [World.cell?, hh]; rfl
      have qf : ∀ k, wb.frozen? ⟨Y, k, none⟩ = false := fun k => by simp only [World.frozen?, hh]; rfl
      rw [← hwb, ← hY]
      clear hh hwb hY k1 k2 k3 k4
      have HS : wb.drew.cell? ⟨Y, 2, none⟩ = some (.int .i64 x3) ∧ wb.drew.cell? ⟨Y, 3, none⟩ = some (.int .i64 x4) := ⟨q2, q3⟩
      refine Tail.start 7 (fun w' => w'.cell? ⟨Y, 2, none⟩ = some (.int .i64 x3) ∧ w'.cell? ⟨Y, 3, none⟩ = some (.int .i64 x4)) (by kernel_rfl) ?_
      refine Tail.take 0 rfl (by kernel_rfl) (fun _ _ _ h => h) (by rfl) HS (fun w hSw => by (try dsimp only at hSw); go_simp; (try with_reducible rfl)) ?_
      try simp only [Act.put, List.setIfInBounds_toArray, List.set_cons_zero, List.set_cons_succ]
      refine Tail.take 1 rfl (by kernel_rfl) (fun _ _ _ h => h) (by rfl) HS (fun w hSw => by (try dsimp only at hSw); go_simp; (try with_reducible rfl)) ?_
      try simp only [Act.put, List.setIfInBounds_toArray, List.set_cons_zero, List.set_cons_succ]
      refine Tail.take 3 rfl (by kernel_rfl) (fun _ _ _ h => h) (by rfl) HS (fun w hSw => by (try dsimp only at hSw); go_simp; (try with_reducible rfl)) ?_
      try simp only [Act.put, List.setIfInBounds_toArray, List.set_cons_zero, List.set_cons_succ]
      refine Tail.take 4 rfl (by kernel_rfl) (fun _ _ _ h => h) (by rfl) HS (fun w hSw => by (try dsimp only at hSw); go_simp; (try with_reducible rfl)) ?_
      try simp only [Act.put, List.setIfInBounds_toArray, List.set_cons_zero, List.set_cons_succ]
      -- 2: call call { callee := Callee.value (Operand.func 13), args := #[Operand.tmp 69, Operand.const (
      refine Tail.one 2 rfl (by kernel_rfl) (fun K hK => ?_)
      go_simp
      refine (mod_any x3 4 _ (by omega) (by omega)).mono ?_
      rintro e w4 ⟨rfl, rfl⟩
      rw [HCL.out]
      refine hK.out _ _ HS ?_
      clear hK K
      try simp only [Act.put, List.setIfInBounds_toArray, List.set_cons_zero, List.set_cons_succ]
      refine Tail.take 6 rfl (by kernel_rfl) (fun _ _ _ h => h) (by rfl) HS (fun w hSw => by (try dsimp only at hSw); go_simp; (try with_reducible rfl)) ?_
      try simp only [Act.put, List.setIfInBounds_toArray, List.set_cons_zero, List.set_cons_succ]
      -- 5: call call { callee := Callee.value (Operand.func 13), args := #[Operand.tmp 72, Operand.const (
      refine Tail.one 5 rfl (by kernel_rfl) (fun K hK => ?_)
      go_simp
      refine (mod_any x4 1501 _ (by omega) (by omega)).mono ?_
      rintro e w4 ⟨rfl, rfl⟩
      rw [HD.out]
      refine hK.out _ _ HS ?_
      clear hK K
      try simp only [Act.put, List.setIfInBounds_toArray, List.set_cons_zero, List.set_cons_succ]
      refine Tail.tail 7 rfl (by kernel_rfl) ?_
      simp only [List.drop_succ_cons, List.drop_zero]
      go_wp2_with fail
      have HXc := Lib.hid (((HXb.out.runE (Kept.setCell (S := fun g => g = Y) (Kept.refl _ _) (p := ⟨Y, 2, none⟩) (.inl rfl) (.int .i64 cl)) (fun _ h => h)).runE (Kept.setCell (S := fun g => g = Y) (Kept.refl _ _) (p := ⟨Y, 3, none⟩) (.inl rfl) (.int .i64 d)) (fun _ h => h)).drew)
      clear q0 q1 q2 q3 qf HS
      generalize World.drew _ = wc at *
      refine (HXc.out.px.here.enqueue x1 x2 cl d (now + dt)).mono ?_
      rintro e w4 ⟨rfl, h4⟩
      have HX4 := Lib.hid (HXc.out.step h4)
      clear h4
      have BU := bu_step (r2 := r2) HBU.out HX.out.px.ok HRT.out HNW.out dt0 (by omega) (fun e => by obtain ⟨e1, e2⟩ := HZ.out (by have := HLEN.out 1 (by omega); omega); rw [e1, e2]; simp) 1099511627776 x1 x2 cl d
      have hp := HX4.out.px.here.polling (now + dt) 0
      have hle := poll_len HX4.out.px.ok (now + dt) 0
      have hbd := poll_bd HX4.out.px.ok (now + dt) 0
      rw [hm] at BU
      have hrr : clampI r2 0 17179869184 = r2 := by unfold clampI; rw [if_neg (by omega), if_neg (by omega)]
      rw [hrr] at BU
      obtain ⟨out, ho⟩ : ∃ out, out = (poll (enq (setp s r2 1099511627776 (now + dt)) x1 x2 cl d (now + dt)).1 (now + dt) 0).1 := ⟨_, rfl⟩
      obtain ⟨s5, hs5⟩ : ∃ s5, s5 = (poll (enq (setp s r2 1099511627776 (now + dt)) x1 x2 cl d (now + dt)).1 (now + dt) 0).2 := ⟨_, rfl⟩
      rw [← ho] at hp BU hle hbd
      rw [← hs5] at hp BU
      obtain ⟨L, hL⟩ : ∃ L, L = out.length := ⟨_, rfl⟩
      rw [← hL] at hp hle
      have HL := Lib.hid hL
      have HPo := Lib.hid hp
      have HBU5 := Lib.hid BU
      have HBD := Lib.hid hbd
      have hle' : (L : Int) ≤ 1024 := by omega
      clear hp ho hbd hle hL hs5 BU hrr
      go_wp2_with fail
      refine HPo.out.mono ?_
      rintro e w5 ⟨A5, c5, rfl, hr, _, h5, _⟩
      have HR := Lib.hid hr
      have HX5 := Lib.hid ((HX4.out.step h5).grab (E' := fun _ => False) (Kept.refl _ _) (fun _ h => h.elim))
      clear hr h5
      go_wp2_with fail
      go_loopw [13, 20] (fun sv iv wx => ∃ j : Nat, (j : Int) ≤ (L : Int) ∧ iv = .int .i64 (j : Int) ∧ sv = .int .i64 (sum + szs (out.take j)) ∧ wx = w5) (fun _ iv _ => ((L : Int) - intOf iv).toNat)
      case atStart => exact ⟨0, by omega, rfl, by simp [szs], rfl⟩
      case round =>
        obtain ⟨j, hj, rfl, rfl, rfl⟩ := hrel
        obtain ⟨t0, t1⟩ := szs_take HBD.out j
        obtain ⟨S, hS⟩ : ∃ S, S = szs (out.take j) := ⟨_, rfl⟩
        rw [← hS] at t0 t1
        rw [← hS]
        have HS := Lib.hid hS
        clear hS
        by_cases hjl : (j : Int) < (L : Int)
        · obtain ⟨g5, off5, x, rfl, hx, _, y0, y2, y3⟩ := out_at HR.out (i := j) (by omega)
          obtain ⟨z0, z1⟩ := HBD.out x (List.mem_of_getElem? hx)
          have HT := Lib.hid (szs_snoc _ _ _ hx)
          obtain ⟨x1', x2', x3', z, x5'⟩ := x
          simp only at y0 y2 y3 z0 z1
          clear hx
          go_wp2_with fail
          go_roundw
          case rel => exact ⟨j + 1, by omega, by go_num, by rw [HT.out, ← HS.out]; go_num, trivial⟩
          case measure => exact meas4 L j hjl
        · have hjL : j = L := by omega
          have hall : out.take j = out := by rw [hjL, HL.out]; exact List.take_length
          rw [hall] at HS
          have HBU6 := Lib.hid (show Bu b (sum + S) (bits + m) (l 2 ++ [sum + S]) (l 1 ++ [bits + m]) s5 ∧ s5.now = now + dt ∧ s5.rate = r2 by rw [HS.out]; exact HBU5.out)
          clear hall
          obtain ⟨N5, hN5⟩ : ∃ N5, N5 = now + dt := ⟨_, rfl⟩
          obtain ⟨S5, hS5⟩ : ∃ S5, S5 = sum + S := ⟨_, rfl⟩
          obtain ⟨B5, hB5⟩ : ∃ B5, B5 = bits + m := ⟨_, rfl⟩
          go_wp2_with (first
            | (at_builtin
               refine wpList_row rfl (.tmp 96) (.tmp 98) 28 rfl 2 (.int .i64 0) 1 8 Try.underlying28 info_int64 rfl (by omega) (.slice A0 i c0) i (nums .i64 (l 0)) rfl (row_is (HX5.out.alloc (.cells #[.int .i64 (now + dt)] 2)) (by omega) E0.out (HLEN.out 0 (by omega))) _ _ [.int .i64 (now + dt)] rfl (Rd.one _ _ _) (by simp [Value.oneCell']) (by omega) ?_
               intro v6 w6 hr6 hk6 hn6
               obtain ⟨A6, c6, rfl⟩ := hr6.shape
               have HX6 := Lib.hid (OX.app (HX5.out.alloc (.cells #[.int .i64 (now + dt)] 2)) (i := 0) (by omega) (by rw [HLEN.out 0 (by omega)]; exact hr6) (by rw [E0.out]; exact hk6) (by rw [E0.out]; exact hn6))
               clear hr6 hk6 hn6)
            | (at_builtin
               refine wpList_row rfl (.tmp 100) (.tmp 102) 28 rfl 2 (.int .i64 0) 1 8 Try.underlying28 info_int64 rfl (by omega) (.slice A1 i c1) i (nums .i64 (l 1)) rfl (row_is (HX6.out.alloc (.cells #[.int .i64 (bits + m)] 2)) (i := 1) (by omega) E1.out (HLEN.out 1 (by omega))) _ _ [.int .i64 (bits + m)] rfl (Rd.one _ _ _) (by simp [Value.oneCell']) (by omega) ?_
               intro v7 w7 hr7 hk7 hn7
               obtain ⟨A7, c7, rfl⟩ := hr7.shape
               have HX7 := Lib.hid (OX.app (HX6.out.alloc (.cells #[.int .i64 (bits + m)] 2)) (i := 1) (by omega) (by show RW w7 1 _ ((l 1).length + 1) (nums .i64 (l 1) ++ _); rw [HLEN.out 1 (by omega)]; exact hr7) (by show Kept (isAt (o 1)) _ _; rw [E1.out]; exact hk7) (by show ∀ g, isAt _ g → isAt (o 1) g ∨ _; rw [E1.out]; exact hn7))
               clear hr7 hk7 hn7)
            | (at_builtin
               refine wpList_row rfl (.tmp 104) (.tmp 106) 28 rfl 2 (.int .i64 0) 1 8 Try.underlying28 info_int64 rfl (by omega) (.slice A2 i c2) i (nums .i64 (l 2)) rfl (row_is (HX7.out.alloc (.cells #[.int .i64 (sum + S)] 2)) (i := 2) (by omega) E2.out (HLEN.out 2 (by omega))) _ _ [.int .i64 (sum + S)] rfl (Rd.one _ _ _) (by simp [Value.oneCell']) (by omega) ?_
               intro v8 w8 hr8 hk8 hn8
               obtain ⟨A8, c8, rfl⟩ := hr8.shape
               have HX8 := Lib.hid (OX.app (HX7.out.alloc (.cells #[.int .i64 (sum + S)] 2)) (i := 2) (by omega) (by show RW w8 1 _ ((l 2).length + 1) (nums .i64 (l 2) ++ _); rw [HLEN.out 2 (by omega)]; exact hr8) (by show Kept (isAt (o 2)) _ _; rw [E2.out]; exact hk8) (by show ∀ g, isAt _ g → isAt (o 2) g ∨ _; rw [E2.out]; exact hn8))
               clear hr8 hk8 hn8))
          obtain ⟨o', l', f0, f1, f2, g0, g1, g2, hx'⟩ : ∃ (o' : Nat → Value) (l' : Nat → List Int), o' 0 = .slice A6 (i + 1) c6 ∧ o' 1 = .slice A7 (i + 1) c7 ∧ o' 2 = .slice A8 (i + 1) c8 ∧ l' 0 = l 0 ++ [now + dt] ∧ l' 1 = l 1 ++ [bits + m] ∧ l' 2 = l 2 ++ [sum + S] ∧ OX w.heap.size (fun _ => False) 3 w w8 p s5 o' l' :=
            ⟨_, _, rfl, rfl, rfl, rfl, rfl, rfl, HX8.out⟩
          have hlen' : ∀ k, k < 3 → (l' k).length = i + 1 := fun k hk => by
            rcases (show k = 0 ∨ k = 1 ∨ k = 2 by omega) with rfl | rfl | rfl
            · rw [g0, List.length_append, HLEN.out 0 (by omega)]; rfl
            · rw [g1, List.length_append, HLEN.out 1 (by omega)]; rfl
            · rw [g2, List.length_append, HLEN.out 2 (by omega)]; rfl
          have hl2' : ∀ x ∈ l' 2, 0 ≤ x ∧ x ≤ 92160000 := fun x hx => by
            rw [g2] at hx
            rcases List.mem_append.1 hx with hx | hx
            · exact HL2.out x hx
            · simp at hx; omega
          have hl1' : ∀ x ∈ l' 1, 0 ≤ x ∧ x ≤ 67553994410557440 := fun x hx => by
            rw [g1] at hx
            rcases List.mem_append.1 hx with hx | hx
            · exact HL1.out x hx
            · simp at hx; omega
          have hbu' : Bu b (sum + S) (bits + m) (l' 2) (l' 1) s5 ∧ s5.now = now + dt ∧ s5.rate = r2 := by rw [g2, g1]; exact HBU6.out
          have HX' := Lib.hid hx'
          have HLEN' := Lib.hid hlen'
          have HL2' := Lib.hid hl2'
          have HL1' := Lib.hid hl1'
          have HBU' := Lib.hid hbu'
          have F0 := Lib.hid f0
          have F1 := Lib.hid f1
          have F2 := Lib.hid f2
          clear HX6 HX7 HX8 HX5 HX4 hx' hlen' hl2' hl1' hbu' f0 f1 f2 g0 g1 g2 HBU6 hN5 hS5 hB5
          go_loopw [21] (fun kv wx => ∃ k : Nat, (k : Int) ≤ (i : Int) + 1 ∧ kv = .int .i64 (k : Int) ∧ Kept (fun _ => False) w8 wx) (fun kv _ => ((i : Int) + 1 - intOf kv).toNat)
          case atStart => exact ⟨0, by omega, rfl, Kept.refl _ _⟩
          case round =>
            obtain ⟨k, hk, rfl, hw⟩ := hrel
            have HW := Lib.hid hw
            clear hw
            by_cases hki : (k : Int) ≤ (i : Int)
            · have hchk := bu_check HBU'.out.1 HX'.out.px.ok (k := k) (by rw [HLEN'.out 2 (by omega)]; omega)
              by_cases hk0 : k = 0
              · subst hk0
                have hchk2 : ¬ (bits + m - 0 < (sum + S - 0 - b) * 8 * 1000000) := by
                  have e1 : ahead (l' 2) 0 = 0 := rfl
                  have e2 : from_ (l' 1) 0 = 0 := rfl
                  rw [e1, e2] at hchk
                  omega
                clear hchk
                go_wp2_with fail
                go_roundw
                case rel => exact ⟨1, by omega, rfl, HW.out⟩
                case measure => simp [intOf]
              · have hk1 : (0 : Int) < (k : Int) := by omega
                obtain ⟨k, rfl⟩ : ∃ k', k = k' + 1 := ⟨k - 1, by omega⟩
                obtain ⟨y, hy⟩ : ∃ y, (l' 2)[k]? = some y := ⟨_, List.getElem?_eq_getElem (by rw [HLEN'.out 2 (by omega)]; omega)⟩
                obtain ⟨z, hz⟩ : ∃ z, (l' 1)[k + 1]? = some z := ⟨_, List.getElem?_eq_getElem (by rw [HLEN'.out 1 (by omega)]; omega)⟩
                obtain ⟨y0, y1⟩ := HL2'.out y (List.mem_of_getElem? hy)
                obtain ⟨z0, z1⟩ := HL1'.out z (List.mem_of_getElem? hz)
                have hchk2 : ¬ (bits + m - z < (sum + S - y - b) * 8 * 1000000) := by
                  have e1 : ahead (l' 2) (k + 1) = y := by unfold ahead; rw [if_neg hk0, Nat.add_sub_cancel, List.getD_eq_getElem?_getD, hy]; rfl
                  have e2 : from_ (l' 1) (k + 1) = z := by unfold from_; rw [if_neg hk0, List.getD_eq_getElem?_getD, hz]; rfl
                  rw [e1, e2] at hchk
                  omega
                obtain ⟨g6, off6, hA8, _, q2⟩ := (HX'.out.run HW.out).at (i := 2) (by omega) F2.out hy
                obtain ⟨g7, off7, hA7, _, q1⟩ := (HX'.out.run HW.out).at (i := 1) (by omega) F1.out hz
                subst hA8 hA7
                have ek : ((k + 1 : Nat) : Int) = (k : Int) + 1 := by omega
                rw [ek] at hki hk1 ⊢
                have hsub : IntKind.i64.wrap ((k : Int) + 1 - 1) = (k : Int) := by rw [Int.add_sub_cancel]; exact IntWalk.i64_in _ (by omega)
                have k0 : (0 : Int) ≤ (k : Int) + 1 := by omega
                have k2 : ((k : Int) + 1).toNat = k + 1 := by omega
                clear hchk hy hz ek
                go_wp2_with fail
                go_quiet (fail)
                go_wp2_with fail
                go_roundw
                case rel => exact ⟨k + 2, by omega, by go_num, HW.out.drewN _⟩
                case measure => simp [intOf]; omega
            · go_wp2_with fail
              go_roundw
              case rel =>
                refine ⟨i + 1, s5, o', l', now + dt, r2, sum + S, bits + m, by omega, by go_num, F0.out.symm, F1.out.symm, F2.out.symm, rfl, rfl, rfl, rfl, HLEN'.out, by omega, by omega, r20, r21, by omega, by omega, by omega, by omega, by omega, HL2'.out, HL1'.out, HBU'.out.2.2, HBU'.out.2.1, HBU'.out.1, HX'.out.run HW.out⟩
              case measure => exact meas4 60 i h2
    · have hgo : ¬ (i : Int) < (n : Int) ∨ ((i : Int) < (n : Int) ∧ ¬ (i : Int) < 60) := by omega
      have HB := Lib.hid HX.out.below
      rcases hgo with hgo | ⟨hgo, hgo2⟩
      all_goals
        go_wp2_with fail
        refine (wakes_any _).mono ?_
        rintro e w5 ⟨rfl, h5⟩
        have H5 := Lib.hid h5
        clear h5
        go_wp2_with fail
        go_ret
        exact ⟨rfl, below_then HB.out HB.out.size H5.out⟩
end Go.Proofs.Ytkjjkepiihdihaa.Pace
