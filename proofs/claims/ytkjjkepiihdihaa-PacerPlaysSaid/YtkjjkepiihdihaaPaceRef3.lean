/- What the document's Poll comes to; no condition but the ranges in each. -/
import Derived.Test.YtkjjkepiihdihaaPaceRef2
namespace Go.Proofs.Ytkjjkepiihdihaa.Pace
open Go.RowKit Go.Proofs.Ytkjjkepiihdihaa.Plain Go.Proofs.Ytkjjkepiihdihaa.Heap Go.Proofs.Ytkjjkepiihdihaa.Rows Go.Proofs.Ytkjjkepiihdihaa.Open

/-- The first element gone: l[1:]. -/
theorem RW.tailc {w : World} {sz n g off cap : Nat} {xs : List Value} (h : RW w sz (.slice (some ⟨g, off, none⟩) (n + 1) cap) (n + 1) xs) : RW w sz (.slice (some ⟨g, off + sz, none⟩) n (cap - 1)) n (xs.drop sz) := by
  have hm : (n + 1) * sz = n * sz + sz := Nat.succ_mul n sz
  refine ⟨by rw [List.length_drop, h.1, hm]; omega, ?_⟩
  rcases h.2 with ⟨h, _⟩ | ⟨g', off', cap', e, h1, h2, h3, h4, h5⟩
  · cases h
  · injection e with e1 e2 e3
    injection e1 with e1
    injection e1 with e1 e4
    subst e1 e3 e4
    obtain ⟨c', rfl⟩ : ∃ c', cap = c' + 1 := ⟨cap - 1, by omega⟩
    have hc : (c' + 1) * sz = c' * sz + sz := Nat.succ_mul c' sz
    refine .inr ⟨g, off + sz, c', rfl, h1, by omega, fun j hj => ?_, h4, fun j u hj => ?_⟩
    · have := h3 (sz + j) (by omega)
      rwa [← Nat.add_assoc] at this
    · have := h5 (sz + j) u (by rwa [List.getElem?_drop] at hj)
      rwa [← Nat.add_assoc] at this
theorem row_at {T : TypeId} {N : Nat → Prop} {w : World} {p : Nat} {v : Nat → Value} {s : PS} (h : PV T N w p v s) {k L : Nat} (hk : k < 4) {u : Value} (hv : v k = u) (hL : L = (s.q k).length) : RW w 5 u L (flatW (s.q k)) := by
  have := h.qs k hk
  rwa [hv, ← hL] at this
/-- What the document's Poll leaves. -/
def RPolled (N : Nat → Prop) (w : World) (p : Nat) (b : Int) (r : List W5 × PS) (e : Ending) (w' : World) : Prop :=
  ∃ ov v', e = .returned ov ∧ RW w' 4 ov r.1.length (flat4 r.1) ∧ (∀ g, isAt ov g → w.heap.size ≤ g) ∧ PV 72 N w' p v' (rb r.2 b) ∧ okP r.2 ∧ (∀ k, k < 4 → ∀ g, isAt (v' k) g → g < w.heap.size) ∧ Kept (fun g => g = p) w w'
set_option linter.unusedSimpArgs false in
set_option maxRecDepth 10000 in
set_option maxHeartbeats 4000000 in
theorem rpoll_walk (N : Nat → Prop) (now f bu : Int) (p : Nat) (v : Nat → Value) (w : World) (s : PS) (h : PV 72 N w p v (rb s bu)) (ok : okP s) (hbu : s.burst = bu * 8000000) :
    Calls Try.prog 23 #[.pointer (some ⟨p, 0, none⟩), .int .i64 now, .int .i64 f] w (RPolled N w p bu (poll s now f)) := by
  obtain ⟨F, hF⟩ : ∃ F, (if f < 0 then 0 else if f > 1099511627776 then 1099511627776 else f) = F := ⟨_, rfl⟩
  have hFb : 0 ≤ F ∧ F ≤ 1099511627776 := by rw [← hF]; exact clampI_bd (by omega)
  have hpoll : poll s now f = polls (upto s 4).length (goes s now) F := by rw [← hF]; rfl
  have hlen : (upto (goes s now) 4).length = (upto s 4).length := rfl
  have hpB : p < w.heap.size := h.cells.2.2.2.2.2.2.2.2.2.2.2
  have HLT := Lib.hid (show ∀ k, k < 4 → ∀ g, isAt (v k) g → g < w.heap.size from fun k hk g hg => (h.qs k hk).lt hg)
  obtain ⟨M, hM⟩ : ∃ M, M = (upto s 4).length := ⟨_, rfl⟩
  have hM2 : M ≤ 1024 := by rw [hM]; exact upto_le ok
  obtain ⟨G, hG⟩ : ∃ G, G = goes s now := ⟨_, rfl⟩
  rw [hpoll, ← hM, ← hG]
  rw [← hM, ← hG] at hlen
  have HGE := Lib.hid hG
  have HF := Lib.hid hF
  have HP := Lib.hid h
  have OK := Lib.hid ok
  have HBU := Lib.hid hbu
  have HLEN := Lib.hid hlen
  clear h ok hbu hF hpoll hlen hM hG
  go_enter Try.func23, Try.ntmps23
  go_wp2_with fail
  refine (rgoes_any N now bu p v w s HP.out OK.out HBU.out).mono ?_
  rintro e w1 ⟨rfl, h1, hk1⟩
  rw [← HGE.out] at h1
  have HG := Lib.hid h1
  have HK := Lib.hid hk1
  have OKG := Lib.hid (show okP G by rw [HGE.out]; exact goes_ok OK.out now)
  clear h1 hk1
  go_wp2_with fail
  refine (rclamp_is HF.out _).mono ?_
  rintro e w2 ⟨rfl, rfl⟩
  go_wp2_with fail
  go_loopw [2, 7] (fun fv ov wx => ∃ (out : List W5) (s1 : PS) (f1 : Int) (v1 : Nat → Value), fv = .int .i64 f1 ∧ 0 ≤ f1 ∧ f1 ≤ 1099511627776 + 1500 * (out.length : Int) ∧ out.length + (upto s1 4).length = M ∧ polls M G F = (out ++ (polls (upto s1 4).length s1 f1).1, (polls (upto s1 4).length s1 f1).2) ∧ okP s1 ∧ PV 72 N wx p v1 (rb s1 bu) ∧
    RW wx 4 ov out.length (flat4 out) ∧ (∀ g, isAt ov g → w.heap.size ≤ g) ∧ (∀ k, k < 4 → ∀ g, isAt (v1 k) g → g < w.heap.size) ∧ Kept (fun g => g = p) w wx) (fun _ ov _ => M - lenV ov)
  case atStart =>
    refine ⟨[], G, F, v, rfl, hFb.1, by simp; omega, by simpa using HLEN.out, ?_, OKG.out, HG.out, RW.nil _ _, fun g hg => ?_, HLT.out, HK.out⟩
    · rw [HLEN.out]; rfl
    · obtain ⟨_, _, _, e⟩ := hg; cases e
  case round =>
    obtain ⟨out, s1, f1, v1, rfl, hf0, hf1, hm, hpo, ok1, hv1, hov, hov2, hlt, hk⟩ := hrel
    rename Value => ov
    obtain ⟨_, d1, _, d3, _, _, _, _, _, _, df, dp⟩ := hv1.cells
    obtain ⟨A0, c0, rfl⟩ := hov.shape
    have HPO := Lib.hid hpo
    have OK1 := Lib.hid ok1
    have HV1 := Lib.hid hv1
    have HOV := Lib.hid hov
    have HOV2 := Lib.hid hov2
    have HLT1 := Lib.hid hlt
    have HK1 := Lib.hid hk
    have HM := Lib.hid hm
    have hmle : out.length ≤ 1024 := by omega
    have DONE := Lib.hid (fun (h : nxt s1 f1 = none) (wz : World) (hz : Kept (fun _ => False) wr wz) => show RPolled N w p bu (polls M G F) (.returned (.slice A0 out.length c0)) wz from
      ⟨_, v1, rfl, by rw [HPO.out, polls_none h]; simpa using HOV.out.kept hz (fun _ _ => id), HOV2.out, by rw [HPO.out, polls_none h]; exact HV1.out.run hz, by rw [HPO.out, polls_none h]; exact OK1.out, HLT1.out, HK1.out.trans hz (fun _ _ e => e.elim)⟩)
    clear hpo ok1 hv1 hov hov2 hlt hk hm
    rcases class_of s1 with hcl | ⟨c, hc, he, hn⟩
    · have hu := upto_nil hcl
      have HD := Lib.hid (DONE.out (by simp [nxt, hu]) wr (Kept.refl _ _))
      have HCL := Lib.hid hcl
      clear hu hcl
      go_wp2_with fail
      go_loopw [8] (fun kv wx => ∃ k : Nat, k ≤ 4 ∧ kv = .int .i64 (k : Int) ∧ wx = wr) (fun kv _ => (4 - intOf kv).toNat)
      case atStart => exact ⟨0, by omega, rfl, rfl⟩
      case round =>
        obtain ⟨k, hk, rfl, rfl⟩ := hrel
        by_cases hk4' : (k : Int) < 4
        · have hk4 : k < 4 := by omega
          have hk0 : (0 : Int) ≤ (k : Int) := by omega
          obtain ⟨A, cap, hv⟩ := HV1.out.val hk4
          have hcq := HV1.out.cellq hk4
          have hv' : v1 k = .slice A 0 cap := by rw [hv]; congr 1; exact HCL.out k hk4
          rw [hv'] at hcq
          clear hv hv'
          go_wp2_with fail
          go_roundw
          case rel => exact ⟨k + 1, by omega, by go_num, trivial⟩
          case measure => exact meas4 4 k hk4'
        · have hk4 : k = 4 := by omega
          subst hk4
          go_wp2_with fail
          go_ret
          exact HD.out
    · obtain ⟨x, l, hxl⟩ : ∃ x l, s1.q c = x :: l := by
        cases hq : s1.q c with
        | nil => rw [hq] at hn; simp at hn
        | cons x l => exact ⟨x, l, rfl⟩
      have HU := Lib.hid (upto_cons OK1.out hc he hxl)
      obtain ⟨A, cap, hv⟩ := HV1.out.val hc
      obtain ⟨g0, off, y, hA, hg, hy, x0, x1, x2, x3, x4⟩ := HV1.out.at hc hv (i := 0) hn
      have HG0 : g0 < w.heap.size := HLT1.out c hc g0 ⟨_, _, _, by rw [hv, hA]⟩
      obtain rfl : y = x := by
        have : (s1.q c)[0]? = some y := hy
        rw [hxl] at this
        simpa using this.symm
      subst hA
      have hlq := OK1.out.len c hc
      have hqq := OK1.out.queue1
      obtain ⟨hcy, z0, z1, _⟩ := OK1.out.el c hc y (by rw [hxl]; exact List.mem_cons_self ..)
      have hw0 := OK1.out.window1
      have hc0 := OK1.out.credit0
      have hc1 := OK1.out.credit1
      have hb1 := OK1.out.burst1
      have hc4 : (c : Int) < 4 := by omega
      have hcq : wr.cell? ⟨p, 6 + c, none⟩ = some (.slice (some ⟨g0, off, none⟩) (s1.q c).length cap) := by
        have h := HV1.out.cellq hc
        rw [hv] at h
        exact h
      obtain ⟨L, hL⟩ : ∃ L, L = (s1.q c).length := ⟨_, rfl⟩
      have hv : v1 c = .slice (some ⟨g0, off, none⟩) (s1.q c).length cap := hv
      rw [← hL] at hv hcq hn hlq
      have HV := Lib.hid hv
      have HL := Lib.hid hL
      have HXL := Lib.hid hxl
      have HHE := Lib.hid he
      have HCY := Lib.hid hcy
      have HY := Lib.hid hy
      simp only [Nat.zero_mul, Nat.add_zero] at x0 x1 x2 x3 x4
      have hnL : (0 : Int) < (L : Int) := by omega
      have hdw : decide (f1 ≥ s1.window) = true ∨ (decide (f1 ≥ s1.window) = false ∧ decide (s1.credit < y.2.2.2.1 * 8000000) = true) ∨ (decide (f1 ≥ s1.window) = false ∧ decide (s1.credit < y.2.2.2.1 * 8000000) = false) := by
        by_cases h1 : f1 ≥ s1.window
        · exact .inl (by simpa using h1)
        · by_cases h2 : s1.credit < y.2.2.2.1 * 8000000
          · exact .inr (.inl ⟨by simpa using h1, by simpa using h2⟩)
          · exact .inr (.inr ⟨by simpa using h1, by simpa using h2⟩)
      clear hv hL hxl he hy hcy
      go_wp2_with fail
      go_loopw [8] (fun kv wx => ∃ k : Nat, k ≤ c ∧ kv = .int .i64 (k : Int) ∧ wx = wr) (fun kv _ => (4 - intOf kv).toNat)
      case atStart => exact ⟨0, by omega, rfl, rfl⟩
      case round =>
        obtain ⟨k, hkc, rfl, rfl⟩ := hrel
        by_cases hkl : k < c
        · have hk4 : k < 4 := by omega
          have hk4' : (k : Int) < 4 := by omega
          have hk0 : (0 : Int) ≤ (k : Int) := by omega
          obtain ⟨A1, cap1, hv⟩ := HV1.out.val hk4
          have hcq1 := HV1.out.cellq hk4
          have hv' : v1 k = .slice A1 0 cap1 := by rw [hv]; congr 1; exact HHE.out k hkl
          rw [hv'] at hcq1
          clear hv hv'
          go_wp2_with fail
          go_roundw
          case rel => exact ⟨k + 1, by omega, by go_num, trivial⟩
          case measure => exact meas4 4 k hk4'
        · obtain rfl : k = c := by omega
          have hk0 : (0 : Int) ≤ (k : Int) := by omega
          have hk4e : ((k : Int) == 4) = false := by simp; omega
          have hL0 : ((L : Int) == 0) = false := by simp; omega
          obtain ⟨y1, y2, y3, y4, y5⟩ := y
          simp only at x0 x1 x2 x3 x4 z0 z1 hdw
          obtain ⟨X, hX⟩ : ∃ X, X = wr.heap.size := ⟨_, rfl⟩
          obtain ⟨wa, hwa⟩ : ∃ wa, wa = wr.alloc (.cells #[.int .i64 y1, .int .i64 y2, .int .i64 y3, .int .i64 y4, .int .i64 y5] 74) := ⟨_, rfl⟩
          have HKA := Lib.hid (show Kept (fun _ => False) wr wa by rw [hwa]; exact (Kept.refl _ _).alloc _)
          have HVA := Lib.hid (HV1.out.run HKA.out)
          have hh := heap_alloc_new wr (.cells #[.int .i64 y1, .int .i64 y2, .int .i64 y3, .int .i64 y4, .int .i64 y5] 74)
          rw [← hwa, ← hX] at hh
          have q3 : wa.cell? ⟨X, 3, none⟩ = some (.int .i64 y4) := by simp only [World.cell?, hh]; rfl
          have HHH := Lib.hid hh
          have HWA := Lib.hid hwa
          have HXX := Lib.hid hX
          obtain ⟨_, e1, _, e3, _⟩ := HVA.out.cells
          clear hh hwa hX
          go_upto_region 10 with fail
          rw [← HWA.out, ← HXX.out]
          clear x0 x1 x2 x3 x4 d1 d3 df dp
          rcases hdw with h1 | ⟨h1, h2⟩ | ⟨h1, h2⟩
          · have HN := Lib.hid (show nxt s1 f1 = none by simp only [nxt, HU.out]; rw [if_pos (.inl (by simpa using h1))])
            go_quiet (fail)
            go_wp2_with fail
            go_ret
            exact DONE.out HN.out _ (HKA.out.drewN _)
          · have HN := Lib.hid (show nxt s1 f1 = none by simp only [nxt, HU.out]; rw [if_pos (.inr (by simpa using h2))])
            go_quiet (fail)
            go_wp2_with fail
            go_ret
            exact DONE.out HN.out _ (HKA.out.drewN _)
          · have hcr : ¬ s1.credit < y4 * 8000000 := by simpa using h2
            have hwin : ¬ s1.window ≤ f1 := by simpa using h1
            have hnx : nxt s1 f1 = some (y1, y2, y3, y4, y5) := by simp only [nxt, HU.out]; rw [if_neg (by omega)]
            obtain ⟨m, hm⟩ : ∃ m, (upto s1 4).length = m + 1 := ⟨(upto (pop s1 (y1, y2, y3, y4, y5)) 4).length, by rw [HU.out]; rfl⟩
            have hmm : (upto (pop s1 (y1, y2, y3, y4, y5)) 4).length = m := by have := congrArg List.length HU.out; simp at this; omega
            have HPO2 := Lib.hid (show polls M G F = ((out ++ [(y1, y2, y3, y4, y5)]) ++ (polls (upto (pop s1 (y1, y2, y3, y4, y5)) 4).length (pop s1 (y1, y2, y3, y4, y5)) (f1 + y4)).1, (polls (upto (pop s1 (y1, y2, y3, y4, y5)) 4).length (pop s1 (y1, y2, y3, y4, y5)) (f1 + y4)).2) by
              rw [HPO.out, hm, polls_some hnx, hmm]; simp)
            have OK2 := Lib.hid (pop_ok OK1.out (x := (y1, y2, y3, y4, y5)) (by rw [HU.out]; exact List.mem_cons_self ..) hcr)
            have HM2 := Lib.hid (show (out ++ [(y1, y2, y3, y4, y5)]).length + (upto (pop s1 (y1, y2, y3, y4, y5)) 4).length = M by have := HM.out; simp; omega)
            have hML : out.length < M := by have := HM.out; omega
            clear hnx hm hmm
            go_quiet (fail)
            go_wp2_with fail
            generalize hWq : World.drewN wa _ = wq
            have HKQ := Lib.hid (show Kept (fun _ => False) wr wq by rw [← hWq]; exact HKA.out.drewN _)
            have HSQ : wq.drew.cell? ⟨p, 1, none⟩ = some (.int .i64 s1.credit) ∧ wq.drew.cell? ⟨X, 3, none⟩ = some (.int .i64 y4) := by rw [← hWq]; exact ⟨e1, q3⟩
            have hfq : wq.heap[X]? = some (.cells #[.int .i64 y1, .int .i64 y2, .int .i64 y3, .int .i64 y4, .int .i64 y5] 74 (0, 0)) := by rw [← hWq]; exact HHH.out
            have HFQ := Lib.hid hfq
            have HVQ := Lib.hid (HV1.out.run HKQ.out)
            clear hWq e1 e3 q3 hfq
            have HS := HSQ
            have t1 : IntKind.i64.wrap (y4 * 8000000) = y4 * 8000000 := IntWalk.i64_in _ (by omega)
            have t2 : IntKind.i64.wrap (s1.credit - y4 * 8000000) = s1.credit - y4 * 8000000 := IntWalk.i64_in _ (by omega)
            have fq := HVQ.out.cells.2.2.2.2.2.2.2.2.2.2.1
            refine Tail.start 11 (fun w' => w'.cell? ⟨p, 1, none⟩ = some (.int .i64 s1.credit) ∧ w'.cell? ⟨X, 3, none⟩ = some (.int .i64 y4)) (by kernel_rfl) ?_
            refine Tail.take 0 rfl (by kernel_rfl) (fun _ _ _ h => h) (by rfl) HS (fun w hSw => by (try dsimp only at hSw); go_simp; (try with_reducible rfl)) ?_
            try simp only [Act.put, List.setIfInBounds_toArray, List.set_cons_zero, List.set_cons_succ]
            refine Tail.take 1 rfl (by kernel_rfl) (fun _ _ _ h => h) (by rfl) HS (fun w hSw => by (try dsimp only at hSw); go_simp; (try with_reducible rfl)) ?_
            try simp only [Act.put, List.setIfInBounds_toArray, List.set_cons_zero, List.set_cons_succ]
            refine Tail.take 2 rfl (by kernel_rfl) (fun _ _ _ h => h) (by rfl) HS (fun w hSw => by (try dsimp only at hSw); go_simp; (try with_reducible rfl)) ?_
            try simp only [Act.put, List.setIfInBounds_toArray, List.set_cons_zero, List.set_cons_succ]
            refine Tail.take 3 rfl (by kernel_rfl) (fun _ _ _ h => h) (by rfl) HS (fun w hSw => by (try dsimp only at hSw); go_simp; (try with_reducible rfl)) ?_
            try simp only [Act.put, List.setIfInBounds_toArray, List.set_cons_zero, List.set_cons_succ]
            refine Tail.take 4 rfl (by kernel_rfl) (fun _ _ _ h => h) (by rfl) HS (fun w hSw => by (try dsimp only at hSw); go_simp; (try with_reducible rfl)) ?_
            try simp only [Act.put, List.setIfInBounds_toArray, List.set_cons_zero, List.set_cons_succ]
            refine Tail.take 5 rfl (by kernel_rfl) (fun _ _ _ h => h) (by rfl) HS (fun w hSw => by (try dsimp only at hSw); go_simp; (try with_reducible rfl)) ?_
            try simp only [Act.put, List.setIfInBounds_toArray, List.set_cons_zero, List.set_cons_succ]
            refine Tail.take 6 rfl (by kernel_rfl) (fun _ _ _ h => h) (by rfl) HS (fun w hSw => by (try dsimp only at hSw); go_simp; (try with_reducible rfl)) ?_
            try simp only [Act.put, List.setIfInBounds_toArray, List.set_cons_zero, List.set_cons_succ]
            refine Tail.take 7 rfl (by kernel_rfl) (fun _ _ _ h => h) (by rfl) HS (fun w hSw => by (try dsimp only at hSw); go_simp; (try with_reducible rfl)) ?_
            try simp only [Act.put, List.setIfInBounds_toArray, List.set_cons_zero, List.set_cons_succ]
            refine Tail.take 8 rfl (by kernel_rfl) (fun _ _ _ h => h) (by rfl) HS (fun w hSw => by (try dsimp only at hSw); go_simp; (try with_reducible rfl)) ?_
            try simp only [Act.put, List.setIfInBounds_toArray, List.set_cons_zero, List.set_cons_succ]
            refine Tail.take 9 rfl (by kernel_rfl) (fun _ _ _ h => h) (by rfl) HS (fun w hSw => by (try dsimp only at hSw); go_simp; (try with_reducible rfl)) ?_
            try simp only [Act.put, List.setIfInBounds_toArray, List.set_cons_zero, List.set_cons_succ]
            refine Tail.take 10 rfl (by kernel_rfl) (fun _ _ _ h => h) (by rfl) HS (fun w hSw => by (try dsimp only at hSw); go_simp; (try with_reducible rfl)) ?_
            try simp only [Act.put, List.setIfInBounds_toArray, List.set_cons_zero, List.set_cons_succ]
            refine Tail.tail 11 rfl (by kernel_rfl) ?_
            simp only [List.drop_succ_cons, List.drop_zero]
            have fq1 := fq 1
            clear t1 t2
            go_upto_region 13 with fail
            generalize hW2 : World.setCell _ ⟨p, 1, none⟩ _ = W2
            generalize hW3 : World.drew W2 = W3
            have HV3 := Lib.hid (show PV 72 N W3 p v1 (rb { s1 with credit := s1.credit - y4 * 8000000 } bu) by rw [← hW3, ← hW2]; exact (HVQ.out.credit rfl).run (Kept.refl _ _).drew)
            have HK3 := Lib.hid (show Kept (fun g => g = p) w W3 by rw [← hW3, ← hW2]; exact (Kept.setCell (S := fun g => g = p) (HK1.out.trans HKQ.out (fun _ _ e => e.elim)) (p := ⟨p, 1, none⟩) (.inl rfl) _).drew)
            have HKr := Lib.hid (show Kept (fun g => g = p) wr W3 by rw [← hW3, ← hW2]; exact (Kept.setCell (S := fun g => g = p) (HKQ.out.mono fun _ _ e => e.elim) (p := ⟨p, 1, none⟩) (.inl rfl) _).drew)
            have hXp : X ≠ p := by have h1 := HV1.out.cells.2.2.2.2.2.2.2.2.2.2.2; have h2 := HXX.out; omega
            have hh3 : W3.heap[X]? = some (.cells #[.int .i64 y1, .int .i64 y2, .int .i64 y3, .int .i64 y4, .int .i64 y5] 74 (0, 0)) := by
              have h := (Kept.setCell (S := fun g => g = p) (Kept.refl _ wq) (p := ⟨p, 1, none⟩) (.inl rfl) (.int .i64 (s1.credit - y4 * 8000000))).drew.block X (Array.getElem?_eq_some_iff.1 HFQ.out).1 hXp
              rw [← hW3, ← hW2]
              exact h.trans HFQ.out
            clear HS HSQ fq fq1 hW2 hW3
            have q0 : W3.cell? ⟨X, 0, none⟩ = some (.int .i64 y1) := by simp only [World.cell?, hh3]; rfl
            have q1 : W3.cell? ⟨X, 1, none⟩ = some (.int .i64 y2) := by simp only [World.cell?, hh3]; rfl
            have q2 : W3.cell? ⟨X, 2, none⟩ = some (.int .i64 y3) := by simp only [World.cell?, hh3]; rfl
            have q3 : W3.cell? ⟨X, 3, none⟩ = some (.int .i64 y4) := by simp only [World.cell?, hh3]; rfl
            have HXB := Lib.hid hh3
            have r1 : W3.cell? ⟨p, 6 + k, none⟩ = some (.slice (some ⟨g0, off, none⟩) L cap) := by rw [HV3.out.cellq hc]; exact congrArg some HV.out
            have r2 : W3.frozen? ⟨p, 6 + k, none⟩ = false := HV3.out.cells.2.2.2.2.2.2.2.2.2.2.1 _
            have HR2 : RW W3 5 (.slice (some ⟨g0, off, none⟩) L cap) L (flatW (s1.q k)) := row_at HV3.out hc HV.out HL.out
            have hcap : L ≤ cap := by
              rcases HR2.2 with ⟨e, _⟩ | ⟨_, _, _, e, _, h2, _⟩
              · cases e
              · injection e with _ _ e3; omega
            have HR2 := Lib.hid HR2
            have hpq : (pop s1 (y1, y2, y3, y4, y5)).q k = (s1.q k).drop 1 := by
              have e : (k : Int) = y3 := HCY.out.symm
              show (if (k : Int) = y3 then _ else _) = _
              rw [if_pos e, List.drop_one]
            have HPQ := Lib.hid hpq
            have HFW := Lib.hid (show flatW ((s1.q k).drop 1) = (flatW (s1.q k)).drop 5 by rw [HXL.out]; rfl)
            have PUT := Lib.hid (fun (u : Value) (hu : RW W3 5 u ((pop s1 (y1, y2, y3, y4, y5)).q k).length (flatW ((pop s1 (y1, y2, y3, y4, y5)).q k))) (hug : ∀ g, isAt u g → g = g0) =>
              show PV 72 N (W3.setCell ⟨p, 6 + k, none⟩ u).drew p (fun j => if j = k then u else v1 j) (rb (pop s1 (y1, y2, y3, y4, y5)) bu) ∧ (∀ j, j < 4 → ∀ g, isAt (if j = k then u else v1 j) g → g < w.heap.size) ∧ Kept (fun g => g = p) W3 (W3.setCell ⟨p, 6 + k, none⟩ u).drew from by
              refine ⟨?_, fun j hj g hg => ?_, (Kept.setCell (S := fun g => g = p) (Kept.refl _ _) (p := ⟨p, 6 + k, none⟩) (.inl rfl) _).drew⟩
              · refine PV.run (PV.put HV3.out (s' := rb (pop s1 (y1, y2, y3, y4, y5)) bu) hc u (Kept.refl _ _) hu ?_ ?_ ?_) (Kept.refl _ _).drew
                · intro g hg
                  rw [hug g hg, HV.out]
                  exact .inl ⟨_, _, _, rfl⟩
                · rcases (show k = 0 ∨ k = 1 ∨ k = 2 ∨ k = 3 by omega) with rfl | rfl | rfl | rfl <;> simp [pcells, pop]
                · intro j hj
                  have e : (k : Int) = y3 := HCY.out.symm
                  show (if (j : Int) = y3 then _ else _) = _
                  rw [if_neg (by omega)]
              · by_cases e : j = k
                · rw [if_pos e] at hg
                  rw [hug g hg]
                  exact HG0
                · rw [if_neg e] at hg
                  exact HLT1.out j hj g hg)
            clear hh3 hpq
            by_cases hcap1 : cap = 1
            · have hL1 : L = 1 := by omega
              subst hcap1
              subst hL1
              have R := Lib.hid (PUT.out (.slice (some ⟨g0, off, none⟩) 0 0) (by
                rw [HPQ.out, HFW.out, List.length_drop, ← HL.out]
                exact RW.tail0 HR2.out) (fun g hg => by obtain ⟨_, _, _, e⟩ := hg; injection e with e; injection e with e; injection e with e; exact e.symm))
              go_wp2_with fail
              go_region
              go_upto_region 15 with fail
              generalize hW4 : World.drew (World.setCell W3 ⟨p, 6 + k, none⟩ _) = W4
              have R' := R.out
              rw [hW4] at R'
              obtain ⟨hv4, hlt4, hk4⟩ := R'
              have hh4 : W4.heap[X]? = some (.cells #[.int .i64 y1, .int .i64 y2, .int .i64 y3, .int .i64 y4, .int .i64 y5] 74 (0, 0)) := (hk4.block X (Array.getElem?_eq_some_iff.1 HXB.out).1 hXp).trans HXB.out
              have HV4 := Lib.hid hv4
              have HLT4 := Lib.hid hlt4
              have HK4 := Lib.hid (HK3.out.trans hk4 (fun _ _ h => h))
              have HRO := Lib.hid (show RW W4 4 (.slice A0 out.length c0) out.length (flat4 out) from HOV.out.kept (HKr.out.trans hk4 (fun _ _ h => h)) (fun g hg e => by have := HOV2.out g hg; omega))
              have q0 : W4.cell? ⟨X, 0, none⟩ = some (.int .i64 y1) := by simp only [World.cell?, hh4]; rfl
              have q1 : W4.cell? ⟨X, 1, none⟩ = some (.int .i64 y2) := by simp only [World.cell?, hh4]; rfl
              have q2 : W4.cell? ⟨X, 2, none⟩ = some (.int .i64 y3) := by simp only [World.cell?, hh4]; rfl
              have q3 : W4.cell? ⟨X, 3, none⟩ = some (.int .i64 y4) := by simp only [World.cell?, hh4]; rfl
              have HRD := Lib.hid (show Rd (W4.alloc (.cells #[.int .i64 y1, .int .i64 y2, .int .i64 y3, .int .i64 y4] 30)) 4 (some ⟨W4.heap.size, 0, none⟩) 1 [.int .i64 y1, .int .i64 y2, .int .i64 y3, .int .i64 y4] from
                Rd.block (w := W4.alloc (.cells #[.int .i64 y1, .int .i64 y2, .int .i64 y3, .int .i64 y4] 30)) (heap_alloc_new W4 _) (by simp))
              clear hW4 hv4 hlt4 hk4 hh4 r1 r2
              go_wp2_with (first
                | (at_builtin
                   refine wpList_row rfl (.tmp 86) (.tmp 89) 37 rfl 30 (.agg #[.int .i64 0, .int .i64 0, .int .i64 0, .int .i64 0]) 4 32 Try.underlying37 info_packet rfl (by omega) (.slice A0 out.length c0) out.length (flat4 out) rfl (HRO.out.kept ((Kept.refl (fun _ => False) W4).alloc _) (fun _ _ => id)) _ _ [.int .i64 y1, .int .i64 y2, .int .i64 y3, .int .i64 y4] rfl HRD.out (by simp [Value.oneCell']) (by omega) ?_
                   intro v5 w5 hr5 hk5 hn5
                   obtain ⟨A5, c5, rfl⟩ := hr5.shape
                   have HR5 := Lib.hid hr5
                   have HK5 := Lib.hid hk5
                   have HN5 := Lib.hid hn5
                   clear hr5 hk5 hn5))
              go_roundw
              case rel =>
                have hat : ∀ g, isAt (.slice A5 (out.length + 1) c5) g → w.heap.size ≤ g := fun g hg => by
                  rcases HN5.out g hg with h1 | h1
                  · exact HOV2.out g h1
                  · have h2 := HK4.out.size
                    simp at h1
                    omega
                have hkk : Kept (isAt (.slice A0 out.length c0)) W4 w5 := Kept.trans (S := isAt (.slice A0 out.length c0)) ((Kept.refl (isAt (.slice A0 out.length c0)) W4).alloc _) HK5.out (fun _ _ h => h)
                refine ⟨out ++ [(y1, y2, y3, y4, y5)], pop s1 (y1, y2, y3, y4, y5), f1 + y4, _, rfl, by omega, by simp; omega, HM2.out, HPO2.out, OK2.out, HV4.out.kept hkk (fun e => by have := HOV2.out p e; omega) (fun j hj g hg e => by have h1 := HOV2.out g e; have h2 := HLT4.out j hj g hg; omega) (fun g hg => .inl ⟨hg, HV4.out.lt g hg⟩), ?_, ?_, HLT4.out, Kept.trans (S := fun g => g = p) HK4.out hkk (fun g hg e => by have := HOV2.out g e; omega)⟩
                · have e : flat4 (out ++ [(y1, y2, y3, y4, y5)]) = flat4 out ++ [.int .i64 y1, .int .i64 y2, .int .i64 y3, .int .i64 y4] := by rw [flat4_append]; rfl
                  rw [e, List.length_append, List.length_singleton]
                  exact HR5.out
                · rw [show (out ++ [(y1, y2, y3, y4, y5)]).length = out.length + 1 by simp] at *
                  exact hat
              case measure => simp [lenV]; omega
            · have hcap2 : 1 < cap := by omega
              have hcap3 : (1 : Int) < (cap : Int) := by omega
              have hL1' : (1 : Int) ≤ (L : Int) := by omega
              have hLc : (L : Int) ≤ (cap : Int) := by omega
              obtain ⟨m, hm⟩ : ∃ m, L = m + 1 := ⟨L - 1, by omega⟩
              have hm1 : L - 1 = m := by omega
              have R := Lib.hid (PUT.out (.slice (some ⟨g0, off + 5, none⟩) (L - 1) (cap - 1)) (by
                have h1 := HR2.out
                rw [hm] at h1
                rw [HPQ.out, HFW.out, List.length_drop, ← HL.out, hm1]
                exact RW.tailc h1) (fun g hg => by obtain ⟨_, _, _, e⟩ := hg; injection e with e; injection e with e; injection e with e; exact e.symm))
              clear hm hm1
              go_wp2_with fail
              go_region
              go_upto_region 15 with fail
              generalize hW4 : World.drew (World.setCell W3 ⟨p, 6 + k, none⟩ _) = W4
              have R' := R.out
              rw [hW4] at R'
              obtain ⟨hv4, hlt4, hk4⟩ := R'
              have hh4 : W4.heap[X]? = some (.cells #[.int .i64 y1, .int .i64 y2, .int .i64 y3, .int .i64 y4, .int .i64 y5] 74 (0, 0)) := (hk4.block X (Array.getElem?_eq_some_iff.1 HXB.out).1 hXp).trans HXB.out
              have HV4 := Lib.hid hv4
              have HLT4 := Lib.hid hlt4
              have HK4 := Lib.hid (HK3.out.trans hk4 (fun _ _ h => h))
              have HRO := Lib.hid (show RW W4 4 (.slice A0 out.length c0) out.length (flat4 out) from HOV.out.kept (HKr.out.trans hk4 (fun _ _ h => h)) (fun g hg e => by have := HOV2.out g hg; omega))
              have q0 : W4.cell? ⟨X, 0, none⟩ = some (.int .i64 y1) := by simp only [World.cell?, hh4]; rfl
              have q1 : W4.cell? ⟨X, 1, none⟩ = some (.int .i64 y2) := by simp only [World.cell?, hh4]; rfl
              have q2 : W4.cell? ⟨X, 2, none⟩ = some (.int .i64 y3) := by simp only [World.cell?, hh4]; rfl
              have q3 : W4.cell? ⟨X, 3, none⟩ = some (.int .i64 y4) := by simp only [World.cell?, hh4]; rfl
              have HRD := Lib.hid (show Rd (W4.alloc (.cells #[.int .i64 y1, .int .i64 y2, .int .i64 y3, .int .i64 y4] 30)) 4 (some ⟨W4.heap.size, 0, none⟩) 1 [.int .i64 y1, .int .i64 y2, .int .i64 y3, .int .i64 y4] from
                Rd.block (w := W4.alloc (.cells #[.int .i64 y1, .int .i64 y2, .int .i64 y3, .int .i64 y4] 30)) (heap_alloc_new W4 _) (by simp))
              clear hW4 hv4 hlt4 hk4 hh4 r1 r2
              go_wp2_with (first
                | (at_builtin
                   refine wpList_row rfl (.tmp 86) (.tmp 89) 37 rfl 30 (.agg #[.int .i64 0, .int .i64 0, .int .i64 0, .int .i64 0]) 4 32 Try.underlying37 info_packet rfl (by omega) (.slice A0 out.length c0) out.length (flat4 out) rfl (HRO.out.kept ((Kept.refl (fun _ => False) W4).alloc _) (fun _ _ => id)) _ _ [.int .i64 y1, .int .i64 y2, .int .i64 y3, .int .i64 y4] rfl HRD.out (by simp [Value.oneCell']) (by omega) ?_
                   intro v5 w5 hr5 hk5 hn5
                   obtain ⟨A5, c5, rfl⟩ := hr5.shape
                   have HR5 := Lib.hid hr5
                   have HK5 := Lib.hid hk5
                   have HN5 := Lib.hid hn5
                   clear hr5 hk5 hn5))
              go_roundw
              case rel =>
                have hat : ∀ g, isAt (.slice A5 (out.length + 1) c5) g → w.heap.size ≤ g := fun g hg => by
                  rcases HN5.out g hg with h1 | h1
                  · exact HOV2.out g h1
                  · have h2 := HK4.out.size
                    simp at h1
                    omega
                have hkk : Kept (isAt (.slice A0 out.length c0)) W4 w5 := Kept.trans (S := isAt (.slice A0 out.length c0)) ((Kept.refl (isAt (.slice A0 out.length c0)) W4).alloc _) HK5.out (fun _ _ h => h)
                refine ⟨out ++ [(y1, y2, y3, y4, y5)], pop s1 (y1, y2, y3, y4, y5), f1 + y4, _, rfl, by omega, by simp; omega, HM2.out, HPO2.out, OK2.out, HV4.out.kept hkk (fun e => by have := HOV2.out p e; omega) (fun j hj g hg e => by have h1 := HOV2.out g e; have h2 := HLT4.out j hj g hg; omega) (fun g hg => .inl ⟨hg, HV4.out.lt g hg⟩), ?_, ?_, HLT4.out, Kept.trans (S := fun g => g = p) HK4.out hkk (fun g hg e => by have := HOV2.out g e; omega)⟩
                · have e : flat4 (out ++ [(y1, y2, y3, y4, y5)]) = flat4 out ++ [.int .i64 y1, .int .i64 y2, .int .i64 y3, .int .i64 y4] := by rw [flat4_append]; rfl
                  rw [e, List.length_append, List.length_singleton]
                  exact HR5.out
                · rw [show (out ++ [(y1, y2, y3, y4, y5)]).length = out.length + 1 by simp] at *
                  exact hat
              case measure => simp [lenV]; omega
end Go.Proofs.Ytkjjkepiihdihaa.Pace
