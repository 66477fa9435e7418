/- What Poll comes to; no condition but the ranges in each. -/
import Derived.Test.YtkjjkepiihdihaaPaceFn4
namespace Go.Proofs.Ytkjjkepiihdihaa.Pace
open Go.RowKit Go.Proofs.Ytkjjkepiihdihaa.Plain Go.Proofs.Ytkjjkepiihdihaa.Heap Go.Proofs.Ytkjjkepiihdihaa.Rows

/-- Packets without their times. -/
def pk4 (x : W5) : List Value := [.int .i64 x.1, .int .i64 x.2.1, .int .i64 x.2.2.1, .int .i64 x.2.2.2.1]
def flat4 (l : List W5) : List Value := l.flatMap pk4
theorem flat4_append (l m : List W5) : flat4 (l ++ m) = flat4 l ++ flat4 m := by simp [flat4]
theorem flat4_len (l : List W5) : (flat4 l).length = l.length * 4 := by
  induction l with
  | nil => rfl
  | cons x l ih =>
    have e : flat4 (x :: l) = pk4 x ++ flat4 l := rfl
    rw [e, List.length_append, ih, List.length_cons]
    simp [pk4]
    omega
theorem flat4_get (l : List W5) (i : Nat) (x : W5) (h : l[i]? = some x) : (flat4 l)[i * 4]? = some (.int .i64 x.1) ∧ (flat4 l)[i * 4 + 1]? = some (.int .i64 x.2.1) ∧ (flat4 l)[i * 4 + 2]? = some (.int .i64 x.2.2.1) ∧ (flat4 l)[i * 4 + 3]? = some (.int .i64 x.2.2.2.1) := by
  induction l generalizing i with
  | nil => simp at h
  | cons y l ih =>
    have e : flat4 (y :: l) = .int .i64 y.1 :: .int .i64 y.2.1 :: .int .i64 y.2.2.1 :: .int .i64 y.2.2.2.1 :: flat4 l := rfl
    rw [e]
    cases i with
    | zero =>
      simp at h
      subst h
      exact ⟨rfl, rfl, rfl, rfl⟩
    | succ i =>
      simp at h
      have := ih i h
      rw [show (i + 1) * 4 = i * 4 + 1 + 1 + 1 + 1 by omega, show i * 4 + 1 + 1 + 1 + 1 + 1 = (i * 4 + 1) + 1 + 1 + 1 + 1 by omega, show i * 4 + 1 + 1 + 1 + 1 + 2 = (i * 4 + 2) + 1 + 1 + 1 + 1 by omega, show i * 4 + 1 + 1 + 1 + 1 + 3 = (i * 4 + 3) + 1 + 1 + 1 + 1 by omega]
      simp only [List.getElem?_cons_succ]
      exact this
/-- The next one goes. -/
def pop (s : PS) (x : W5) : PS := { s with credit := s.credit - x.2.2.2.1 * 8000000, q := fun k => if (k : Int) = x.2.2.1 then (s.q k).tail else s.q k }
def nxt (s : PS) (f : Int) : Option W5 := match upto s 4 with
  | [] => none
  | x :: _ => if s.window ≤ f ∨ s.credit < x.2.2.2.1 * 8000000 then none else some x
/-- What goes, n packets at most. -/
def polls : Nat → PS → Int → List W5 × PS
  | 0, s, _ => ([], s)
  | n + 1, s, f => match nxt s f with
    | none => ([], s)
    | some x => (x :: (polls n (pop s x) (f + x.2.2.2.1)).1, (polls n (pop s x) (f + x.2.2.2.1)).2)
def poll (s : PS) (now f : Int) : List W5 × PS := polls (upto s 4).length (goes s now) (clampI f 0 1099511627776)
theorem polls_none {s : PS} {f : Int} (h : nxt s f = none) (n : Nat) : polls n s f = ([], s) := by
  cases n with
  | zero => rfl
  | succ n => simp [polls, h]
theorem polls_some {s : PS} {f : Int} {x : W5} (h : nxt s f = some x) (n : Nat) : polls (n + 1) s f = (x :: (polls n (pop s x) (f + x.2.2.2.1)).1, (polls n (pop s x) (f + x.2.2.2.1)).2) := by simp [polls, h]
/-- The lowest class that is not empty. -/
theorem class_of (s : PS) : (∀ d, d < 4 → (s.q d).length = 0) ∨ ∃ c, c < 4 ∧ (∀ d, d < c → (s.q d).length = 0) ∧ 0 < (s.q c).length := by
  by_cases h0 : 0 < (s.q 0).length
  · exact .inr ⟨0, by omega, fun d hd => by omega, h0⟩
  by_cases h1 : 0 < (s.q 1).length
  · exact .inr ⟨1, by omega, fun d hd => by rcases (show d = 0 by omega) with rfl; omega, h1⟩
  by_cases h2 : 0 < (s.q 2).length
  · exact .inr ⟨2, by omega, fun d hd => by rcases (show d = 0 ∨ d = 1 by omega) with rfl | rfl <;> omega, h2⟩
  by_cases h3 : 0 < (s.q 3).length
  · exact .inr ⟨3, by omega, fun d hd => by rcases (show d = 0 ∨ d = 1 ∨ d = 2 by omega) with rfl | rfl | rfl <;> omega, h3⟩
  exact .inl fun d hd => by rcases (show d = 0 ∨ d = 1 ∨ d = 2 ∨ d = 3 by omega) with rfl | rfl | rfl | rfl <;> omega
theorem upto_nil {s : PS} (h : ∀ d, d < 4 → (s.q d).length = 0) : upto s 4 = [] := by
  have h0 := List.eq_nil_of_length_eq_zero (h 0 (by omega))
  have h1 := List.eq_nil_of_length_eq_zero (h 1 (by omega))
  have h2 := List.eq_nil_of_length_eq_zero (h 2 (by omega))
  have h3 := List.eq_nil_of_length_eq_zero (h 3 (by omega))
  simp [upto, h0, h1, h2, h3]
theorem upto_cons {s : PS} (ok : okP s) {c : Nat} (hc : c < 4) (he : ∀ d, d < c → (s.q d).length = 0) {x : W5} {l : List W5} (hl : s.q c = x :: l) : upto s 4 = x :: upto (pop s x) 4 := by
  have hx : x.2.2.1 = (c : Int) := (ok.el c hc x (by rw [hl]; exact List.mem_cons_self ..)).1
  have hp : ∀ k, (pop s x).q k = if k = c then l else s.q k := fun k => by
    show (if (k : Int) = x.2.2.1 then _ else _) = _
    by_cases e : k = c
    · subst e; rw [if_pos hx.symm, if_pos rfl, hl]; rfl
    · rw [if_neg (by omega), if_neg e]
  have hz : ∀ d, d < c → s.q d = [] := fun d hd => List.eq_nil_of_length_eq_zero (he d hd)
  rcases (show c = 0 ∨ c = 1 ∨ c = 2 ∨ c = 3 by omega) with rfl | rfl | rfl | rfl
  · simp [upto, hl, hp]
  · have h0 := hz 0 (by omega)
    simp [upto, hl, hp, h0]
  · have h0 := hz 0 (by omega)
    have h1 := hz 1 (by omega)
    simp [upto, hl, hp, h0, h1]
  · have h0 := hz 0 (by omega)
    have h1 := hz 1 (by omega)
    have h2 := hz 2 (by omega)
    simp [upto, hl, hp, h0, h1, h2]
theorem pop_ok {s : PS} (ok : okP s) {x : W5} (hx : x ∈ upto s 4) (hcr : ¬ s.credit < x.2.2.2.1 * 8000000) : okP (pop s x) := by
  obtain ⟨c, hc, hm⟩ := upto_mem hx
  obtain ⟨_, h1, h2, _⟩ := ok.el c hc x hm
  have hc0 := ok.credit0
  have hc1 := ok.credit1
  refine ⟨ok.burst0, ok.burst1, ?_, ?_, ok.rate0, ok.rate1, ok.window0, ok.window1, ok.now0, ok.now1, ok.queue0, ok.queue1, fun k hk => ?_, fun k hk y hy => ?_⟩
  · show 0 ≤ s.credit - _; omega
  · show s.credit - _ ≤ s.burst; omega
  · have := ok.len k hk
    show (((if (k : Int) = x.2.2.1 then (s.q k).tail else s.q k).length : Nat) : Int) ≤ s.queue
    split
    · rw [List.length_tail]; omega
    · exact this
  · refine ok.el k hk y ?_
    simp only [pop] at hy
    split at hy
    · exact List.mem_of_mem_tail hy
    · exact hy
/-- The first element gone, where none is left. -/
theorem RW.tail0 {w : World} {sz g off cap : Nat} {xs : List Value} (h : RW w sz (.slice (some ⟨g, off, none⟩) 1 cap) 1 xs) : RW w sz (.slice (some ⟨g, off, none⟩) 0 0) 0 (xs.drop sz) := by
  have h1 := h.1
  refine ⟨by rw [List.length_drop, h1]; omega, ?_⟩
  rcases h.2 with ⟨h, _⟩ | ⟨g', off', cap', e, h2, _, _, h5, _⟩
  · cases h
  · injection e with e1 e2 e3
    injection e1 with e1
    injection e1 with e1 e4
    subst e1
    refine .inr ⟨g, off, 0, rfl, h2, Nat.le_refl _, fun j hj => by omega, h5, fun j u hj => ?_⟩
    rw [List.drop_eq_nil_of_le (by omega)] at hj
    simp at hj
def lenV : Value → Nat
  | .slice _ n _ => n
  | _ => 0
theorem info_packet : (Try.prog.info? 30).map (fun i => (i.zero, i.size, i.bytes)) = some (some (.agg #[.int .i64 0, .int .i64 0, .int .i64 0, .int .i64 0]), 4, 32) := by kernel_rfl
theorem upto_le {s : PS} (ok : okP s) : (upto s 4).length ≤ 1024 := by have := (upto_bd ok (k := 4) (by omega)).1; omega
/-- What Poll leaves: what goes, in memory of its own. -/
def Polled (N : Nat → Prop) (w : World) (p : Nat) (r : List W5 × PS) (e : Ending) (w' : World) : Prop :=
  ∃ ov v', e = .returned ov ∧ RW w' 4 ov r.1.length (flat4 r.1) ∧ (∀ g, isAt ov g → w.heap.size ≤ g) ∧ PV 63 N w' p v' r.2 ∧ okP r.2 ∧ (∀ k, k < 4 → ∀ g, isAt (v' k) g → g < w.heap.size) ∧ Kept (fun g => g = p) w w'
set_option maxRecDepth 10000 in
set_option maxHeartbeats 2000000 in
theorem poll_walk (N : Nat → Prop) (now f : Int) (p : Nat) (v : Nat → Value) (w : World) (s : PS) (h : PV 63 N w p v s) (ok : okP s) :
    Calls Try.prog 15 #[.pointer (some ⟨p, 0, none⟩), .int .i64 now, .int .i64 f] w (Polled N w p (poll s now f)) := by
  obtain ⟨F, hF⟩ : ∃ F, (if f < 0 then 0 else if f > 1099511627776 then 1099511627776 else f) = F := ⟨_, rfl⟩
  have hFb : 0 ≤ F ∧ F ≤ 1099511627776 := by rw [← hF]; exact clampI_bd (by omega)
  have hpoll : poll s now f = polls (upto s 4).length (goes s now) F := by rw [← hF]; rfl
  have hlen : (upto (goes s now) 4).length = (upto s 4).length := rfl
  have hpB : p < w.heap.size := h.cells.2.2.2.2.2.2.2.2.2.2.2
  have HLT := Lib.hid (show ∀ k, k < 4 → ∀ g, isAt (v k) g → g < w.heap.size from fun k hk g hg => (h.qs k hk).lt hg)
  obtain ⟨M, hM⟩ : ∃ M, M = (upto s 4).length := ⟨_, rfl⟩
  have hM2 : M ≤ 1024 := by rw [hM]; exact upto_le ok
  obtain ⟨G, hG⟩ : ∃ G, G = goes s now := ⟨_, rfl⟩
  rw [hpoll, ← hM, ← hG]
  rw [← hM, ← hG] at hlen
  have HGE := Lib.hid hG
  have HF := Lib.hid hF
  have HP := Lib.hid h
  have OK := Lib.hid ok
  have HLEN := Lib.hid hlen
  clear h ok hF hpoll hlen hM hG
  go_enter Try.func15, Try.ntmps15
  go_wp2_with fail
  refine (goes_any N now p v w s HP.out OK.out).mono ?_
  rintro e w1 ⟨rfl, h1, hk1⟩
  rw [← HGE.out] at h1
  have HG := Lib.hid h1
  have HK := Lib.hid hk1
  have OKG := Lib.hid (show okP G by rw [HGE.out]; exact goes_ok OK.out now)
  clear h1 hk1
  go_wp2_with fail
  refine (clamp_is HF.out _).mono ?_
  rintro e w2 ⟨rfl, rfl⟩
  go_wp2_with fail
  go_loopw [7, 8] (fun fv ov wx => ∃ (out : List W5) (s1 : PS) (f1 : Int) (v1 : Nat → Value), fv = .int .i64 f1 ∧ 0 ≤ f1 ∧ f1 ≤ 1099511627776 + 1500 * (out.length : Int) ∧ out.length + (upto s1 4).length = M ∧ polls M G F = (out ++ (polls (upto s1 4).length s1 f1).1, (polls (upto s1 4).length s1 f1).2) ∧ okP s1 ∧ PV 63 N wx p v1 s1 ∧
    RW wx 4 ov out.length (flat4 out) ∧ (∀ g, isAt ov g → w.heap.size ≤ g) ∧ (∀ k, k < 4 → ∀ g, isAt (v1 k) g → g < w.heap.size) ∧ Kept (fun g => g = p) w wx) (fun _ ov _ => M - lenV ov)
  case atStart =>
    refine ⟨[], G, F, v, rfl, hFb.1, by simp; omega, by simpa using HLEN.out, ?_, OKG.out, HG.out, RW.nil _ _, fun g hg => ?_, HLT.out, HK.out⟩
    · rw [HLEN.out]; rfl
    · obtain ⟨_, _, _, e⟩ := hg; cases e
  case round =>
    obtain ⟨out, s1, f1, v1, rfl, hf0, hf1, hm, hpo, ok1, hv1, hov, hov2, hlt, hk⟩ := hrel
    rename Value => ov
    obtain ⟨_, d1, _, d3, _, _, _, _, _, _, df, dp⟩ := hv1.cells
    obtain ⟨A0, c0, rfl⟩ := hov.shape
    have HPO := Lib.hid hpo
    have OK1 := Lib.hid ok1
    have HV1 := Lib.hid hv1
    have HOV := Lib.hid hov
    have HOV2 := Lib.hid hov2
    have HLT1 := Lib.hid hlt
    have HK1 := Lib.hid hk
    have HM := Lib.hid hm
    have hmle : out.length ≤ 1024 := by omega
    have DONE := Lib.hid (fun (h : nxt s1 f1 = none) => show Polled N w p (polls M G F) (.returned (.slice A0 out.length c0)) wr from
      ⟨_, v1, rfl, by rw [HPO.out, polls_none h]; simpa using HOV.out, HOV2.out, by rw [HPO.out, polls_none h]; exact HV1.out, by rw [HPO.out, polls_none h]; exact OK1.out, HLT1.out, HK1.out⟩)
    clear hpo ok1 hv1 hov hov2 hlt hk hm
    rcases class_of s1 with hcl | ⟨c, hc, he, hn⟩
    · have hu := upto_nil hcl
      have HD := Lib.hid (DONE.out (by simp [nxt, hu]))
      clear hu
      go_wp2_with fail
      refine (first_none N p v1 wr s1 HV1.out hcl).mono ?_
      rintro e w3 ⟨rfl, rfl⟩
      clear hcl
      go_wp2_with fail
      go_ret
      exact HD.out
    · obtain ⟨x, l, hxl⟩ : ∃ x l, s1.q c = x :: l := by
        cases hq : s1.q c with
        | nil => rw [hq] at hn; simp at hn
        | cons x l => exact ⟨x, l, rfl⟩
      have HU := Lib.hid (upto_cons OK1.out hc he hxl)
      obtain ⟨A, cap, hv⟩ := HV1.out.val hc
      obtain ⟨g0, off, y, hA, hg, hy, x0, x1, x2, x3, x4⟩ := HV1.out.at hc hv (i := 0) hn
      have HG0 : g0 < w.heap.size := HLT1.out c hc g0 ⟨_, _, _, by rw [hv, hA]⟩
      obtain rfl : y = x := by rw [hxl] at hy; simpa using hy.symm
      subst hA
      have hlq := OK1.out.len c hc
      have hqq := OK1.out.queue1
      obtain ⟨hcy, z0, z1, _⟩ := OK1.out.el c hc y (by rw [hxl]; exact List.mem_cons_self ..)
      have hw0 := OK1.out.window1
      have hc0 := OK1.out.credit0
      have hc1 := OK1.out.credit1
      have hb1 := OK1.out.burst1
      have hc4 : (c : Int) < 4 := by omega
      have HFS := Lib.hid (fun wx (h : PV 63 N wx p v1 s1) => first_some N p v1 wx s1 h c hc he hn)
      have hcq := HV1.out.cellq hc
      rw [hv] at hcq
      obtain ⟨L, hL⟩ : ∃ L, L = (s1.q c).length := ⟨_, rfl⟩
      rw [← hL] at hv hcq hn hlq
      have HV := Lib.hid hv
      have HL := Lib.hid hL
      have HXL := Lib.hid hxl
      have HHE := Lib.hid he
      have HCY := Lib.hid hcy
      have HY := Lib.hid hy
      simp only [Nat.zero_mul, Nat.add_zero] at x0 x1 x2 x3 x4
      have hnL : (0 : Int) < (L : Int) := by omega
      clear hv hL hxl he hy hcy
      by_cases hwin : s1.window ≤ f1
      · have HD := Lib.hid (DONE.out (by simp only [nxt, HU.out]; rw [if_pos (.inl hwin)]))
        go_wp2_with fail
        refine (HFS.out _ HV1.out).mono ?_
        rintro e w3 ⟨rfl, rfl⟩
        go_wp2_with fail
        go_ret
        exact HD.out
      · by_cases hcr : s1.credit < y.2.2.2.1 * 8000000
        · have HD := Lib.hid (DONE.out (by simp only [nxt, HU.out]; rw [if_pos (.inr hcr)]))
          obtain ⟨y1, y2, y3, y4, y5⟩ := y
          simp only at x0 x1 x2 x3 x4 z0 z1 hcr
          go_wp2_with fail
          refine (HFS.out _ HV1.out).mono ?_
          rintro e w3 ⟨rfl, rfl⟩
          go_wp2_with fail
          go_ret
          exact HD.out
        · have hnx : nxt s1 f1 = some y := by simp only [nxt, HU.out]; rw [if_neg (by omega)]
          obtain ⟨m, hm⟩ : ∃ m, (upto s1 4).length = m + 1 := ⟨(upto (pop s1 y) 4).length, by rw [HU.out]; rfl⟩
          have hmm : (upto (pop s1 y) 4).length = m := by have := congrArg List.length HU.out; simp at this; omega
          have HPO2 := Lib.hid (show polls M G F = ((out ++ [y]) ++ (polls (upto (pop s1 y) 4).length (pop s1 y) (f1 + y.2.2.2.1)).1, (polls (upto (pop s1 y) 4).length (pop s1 y) (f1 + y.2.2.2.1)).2) by
            rw [HPO.out, hm, polls_some hnx, hmm]; simp)
          have OK2 := Lib.hid (pop_ok OK1.out (x := y) (by rw [HU.out]; exact List.mem_cons_self ..) hcr)
          have HM2 := Lib.hid (show (out ++ [y]).length + (upto (pop s1 y) 4).length = M by have := HM.out; simp; omega)
          have hML : out.length < M := by have := HM.out; omega
          clear hnx hm hmm
          go_wp2_with fail
          refine (HFS.out _ HV1.out).mono ?_
          rintro e w3 ⟨rfl, rfl⟩
          go_upto_region 14 with fail
          generalize hW2 : World.setCell wr ⟨p, 1, none⟩ _ = W2
          have HV2 := Lib.hid (show PV 63 N W2 p v1 { s1 with credit := s1.credit - y.2.2.2.1 * 8000000 } by rw [← hW2]; exact HV1.out.credit rfl)
          have HK2 := Lib.hid (show Kept (fun g => g = p) w W2 by rw [← hW2]; exact Kept.setCell (S := fun g => g = p) HK1.out (p := ⟨p, 1, none⟩) (.inl rfl) _)
          have HKw := Lib.hid (show Kept (fun g => g = p) wr W2 by rw [← hW2]; exact Kept.setCell (S := fun g => g = p) (Kept.refl _ _) (p := ⟨p, 1, none⟩) (.inl rfl) _)
          have HOVP := Lib.hid (show ∀ g, isAt (.slice A0 out.length c0) g → g ≠ p ∧ g ≠ g0 from fun g hg => by have := HOV2.out g hg; have := HG0; omega)
          clear hW2 x0 x1 x2 x3 x4 d1 d3 df dp hcq
          obtain ⟨g1, off1, y', hA1, hg1, hy1, x0, x1, x2, x3, x4⟩ := HV2.out.at hc HV.out (i := 0) (show 0 < (s1.q c).length by rw [← HL.out]; exact hn)
          obtain ⟨rfl, rfl⟩ : g0 = g1 ∧ off = off1 := by injection hA1 with e; injection e with e1 e2; exact ⟨e1, e2⟩
          obtain rfl : y = y' := by have := HY.out.symm.trans hy1; simpa using this
          simp only [Nat.zero_mul, Nat.add_zero] at x0 x1 x2 x3 x4
          have HRW := Lib.hid (HOV.out.kept HKw.out (fun g hg => (HOVP.out g hg).1))
          have hLm := OK1.out.len c hc
          obtain ⟨y1, y2, y3, y4, y5⟩ := y
          simp only at x0 x1 x2 x3 x4 z0 z1 hcr
          have HRD := Lib.hid (show Rd (W2.alloc (.cells #[.int .i64 y1, .int .i64 y2, .int .i64 y3, .int .i64 y4] 30)) 4 (some ⟨W2.heap.size, 0, none⟩) 1 [.int .i64 y1, .int .i64 y2, .int .i64 y3, .int .i64 y4] from
            Rd.block (w := W2.alloc (.cells #[.int .i64 y1, .int .i64 y2, .int .i64 y3, .int .i64 y4] 30)) (heap_alloc_new W2 _) (by simp))
          clear hA1 hg1 hy1 hLm x4
          have hc0' : (0 : Int) ≤ (c : Int) := by omega
          go_wp2_with (first
            | (at_builtin
               refine wpList_row rfl (.tmp 63) (.tmp 68) 37 rfl 30 (.agg #[.int .i64 0, .int .i64 0, .int .i64 0, .int .i64 0]) 4 32 Try.underlying37 info_packet rfl (by omega) (.slice A0 out.length c0) out.length (flat4 out) rfl (HRW.out.kept ((Kept.refl (fun _ => False) W2).alloc _) (fun _ _ => id)) _ _ [.int .i64 y1, .int .i64 y2, .int .i64 y3, .int .i64 y4] rfl HRD.out (by simp [Value.oneCell']) (by omega) ?_
               intro v4 w4 hr4 hk4 hn4
               obtain ⟨A4, c4, rfl⟩ := hr4.shape
               have HR4 := Lib.hid hr4
               have HK4 := Lib.hid hk4
               have HN4 := Lib.hid hn4
               clear hr4 hk4 hn4))
          have HV4 := Lib.hid (show PV 63 N w4 p v1 { s1 with credit := s1.credit - y4 * 8000000 } from
            HV2.out.kept (Kept.trans (S := isAt (.slice A0 out.length c0)) ((Kept.refl (isAt (.slice A0 out.length c0)) W2).alloc _) HK4.out (fun _ _ h => h)) (fun e => (HOVP.out p e).1 rfl) (fun k hk g hg e => by have h1 := HOV2.out g e; have h2 := HLT1.out k hk g hg; omega) (fun g hg => .inl ⟨hg, HV2.out.lt g hg⟩))
          have HKw4 := Lib.hid (show Kept (fun g => g = p) w w4 from Kept.trans (S := fun g => g = p) (HK2.out.alloc _) HK4.out (fun g hg e => by have h1 := HOV2.out g e; omega))
          have q2 : w4.cell? ⟨p, 6 + c, none⟩ = some (.slice (some ⟨g0, off, none⟩) L cap) := by rw [HV4.out.cellq hc]; exact congrArg some HV.out
          have q3 : w4.frozen? ⟨p, 6 + c, none⟩ = false := HV4.out.cells.2.2.2.2.2.2.2.2.2.2.1 _
          have HR2 := HV4.out.qs c hc
          rw [HV.out] at HR2
          have HR2 : RW w4 5 (.slice (some ⟨g0, off, none⟩) L cap) L (flatW (s1.q c)) := by
            obtain ⟨_, _, e⟩ := HR2.shape
            injection e with _ e2
            rw [← e2] at HR2
            exact HR2
          have hcap : L ≤ cap := by
            rcases HR2.2 with ⟨e, _⟩ | ⟨_, _, _, e, _, h2, _⟩
            · cases e
            · injection e with _ _ e3; omega
          have HAT := Lib.hid (show ∀ g, isAt (.slice A4 (out.length + 1) c4) g → w.heap.size ≤ g from fun g hg => by
            rcases HN4.out g hg with h1 | h1
            · exact HOV2.out g h1
            · have h2 := HK2.out.size
              have h3 : (W2.alloc (.cells #[.int .i64 y1, .int .i64 y2, .int .i64 y3, .int .i64 y4] 30)).heap.size = W2.heap.size + 1 := by simp
              omega)
          have REL := Lib.hid (fun (u : Value) (hu : RW w4 5 u ((pop s1 (y1, y2, y3, y4, y5)).q c).length (flatW ((pop s1 (y1, y2, y3, y4, y5)).q c))) (hug : ∀ g, isAt u g → g = g0) =>
            show PV 63 N (w4.setCell ⟨p, 6 + c, none⟩ u).drew p (fun k => if k = c then u else v1 k) (pop s1 (y1, y2, y3, y4, y5)) ∧ RW (w4.setCell ⟨p, 6 + c, none⟩ u).drew 4 (.slice A4 (out.length + 1) c4) (out ++ [(y1, y2, y3, y4, y5)]).length (flat4 (out ++ [(y1, y2, y3, y4, y5)])) ∧
              (∀ g, isAt (.slice A4 (out.length + 1) c4) g → w.heap.size ≤ g) ∧ (∀ k, k < 4 → ∀ g, isAt (if k = c then u else v1 k) g → g < w.heap.size) ∧ Kept (fun g => g = p) w (w4.setCell ⟨p, 6 + c, none⟩ u).drew from by
            refine ⟨?_, ?_, HAT.out, fun k hk g hg => ?_, ?_⟩
            · refine PV.run (PV.put HV4.out (s' := pop s1 (y1, y2, y3, y4, y5)) hc u (Kept.refl _ _) hu ?_ ?_ ?_) (Kept.refl _ _).drew
              · intro g hg
                rw [hug g hg, HV.out]
                exact .inl ⟨_, _, _, rfl⟩
              · rcases (show c = 0 ∨ c = 1 ∨ c = 2 ∨ c = 3 by omega) with rfl | rfl | rfl | rfl <;> simp [pcells, pop]
              · intro k hk
                have e : (c : Int) = y3 := HCY.out.symm
                show (if (k : Int) = y3 then _ else _) = _
                rw [if_neg (by omega)]
            · have e : flat4 (out ++ [(y1, y2, y3, y4, y5)]) = flat4 out ++ [.int .i64 y1, .int .i64 y2, .int .i64 y3, .int .i64 y4] := by rw [flat4_append]; rfl
              rw [e, List.length_append, List.length_singleton]
              exact HR4.out.kept (Kept.setCell (S := fun g => g = p) (Kept.refl _ _) (p := ⟨p, 6 + c, none⟩) (.inl rfl) _).drew (fun g hg e => by have := HAT.out g hg; omega)
            · by_cases e : k = c
              · rw [if_pos e] at hg
                rw [hug g hg]
                exact HG0
              · rw [if_neg e] at hg
                exact HLT1.out k hk g hg
            · exact (Kept.setCell (S := fun g => g = p) HKw4.out (p := ⟨p, 6 + c, none⟩) (.inl rfl) _).drew)
          have hpq : (pop s1 (y1, y2, y3, y4, y5)).q c = (s1.q c).drop 1 := by
            have e : (c : Int) = y3 := HCY.out.symm
            show (if (c : Int) = y3 then _ else _) = _
            rw [if_pos e, List.drop_one]
          have HPQ := Lib.hid hpq
          have hfw : flatW ((s1.q c).drop 1) = (flatW (s1.q c)).drop 5 := by rw [HXL.out]; rfl
          have HFW := Lib.hid hfw
          have HR2 := Lib.hid HR2
          clear x0 x1 x2 x3 hpq hfw
          by_cases hL1 : L = 1
          · subst hL1
            have R := Lib.hid (REL.out (.slice (some ⟨g0, off, none⟩) 0 0) (by
              rw [HPQ.out, HFW.out, List.length_drop, ← HL.out]
              exact RW.tail0 HR2.out) (fun g hg => by obtain ⟨_, _, _, e⟩ := hg; injection e with e; injection e with e; injection e with e; exact e.symm))
            go_region
            go_wp2_with fail
            go_roundw
            case rel => exact ⟨out ++ [(y1, y2, y3, y4, y5)], pop s1 (y1, y2, y3, y4, y5), f1 + y4, _, rfl, by omega, by simp; omega, HM2.out, HPO2.out, OK2.out, R.out⟩
            case measure => simp [lenV]; omega
          · have hL2 : 1 < L := by omega
            obtain ⟨m, hm⟩ : ∃ m, L = m + 1 := ⟨L - 1, by omega⟩
            have hm1 : L - 1 = m := by omega
            have R := Lib.hid (REL.out (.slice (some ⟨g0, off + 5, none⟩) (L - 1) (L - 1)) (by
              have h1 := HR2.out
              rw [hm] at h1
              rw [HPQ.out, HFW.out, List.length_drop, ← HL.out, hm1]
              exact RW.tail h1) (fun g hg => by obtain ⟨_, _, _, e⟩ := hg; injection e with e; injection e with e; injection e with e; exact e.symm))
            clear hm hm1
            go_region
            go_wp2_with fail
            go_roundw
            case rel => exact ⟨out ++ [(y1, y2, y3, y4, y5)], pop s1 (y1, y2, y3, y4, y5), f1 + y4, _, rfl, by omega, by simp; omega, HM2.out, HPO2.out, OK2.out, R.out⟩
            case measure => simp [lenV]; omega
end Go.Proofs.Ytkjjkepiihdihaa.Pace
