/- What Decode tells: the program's; no condition but the ranges in each. -/
import Derived.Test.YtccljgohekmjkaaRtpDec3
import Derived.Test.YtccljgohekmjkaaTail
namespace Go.Proofs.Ytccljgohekmjkaa.Rtp
open Go.RowKit Go.Proofs.Ytccljgohekmjkaa.Plain Go.Proofs.Ytccljgohekmjkaa.Heap Go.Proofs.Ytccljgohekmjkaa.Open Go.Proofs.Ytccljgohekmjkaa.Rows Go.Proofs.Ytccljgohekmjkaa.Bits Go.Proofs.Ytccljgohekmjkaa.Tail

abbrev zcs : Array Value := #[.bool false, .int .i64 0, .int .i64 0, .int .u32 0, .int .u32 0, .slice none 0 0, .slice none 0 0]
theorem hr_zero (w : World) : HR w (.agg zcs) zeroH := ⟨none, 0, none, 0, rfl, ⟨rfl, fun h => absurd h (Nat.lt_irrefl _)⟩, ⟨rfl, fun h => absurd h (Nat.lt_irrefl _)⟩⟩
abbrev dcs (m : Bool) (t q i s : Int) (lv xv : Value) : Array Value := #[.bool m, .int .i64 t, .int .i64 q, .int .u32 i, .int .u32 s, lv, xv]
theorem header_size : (Try.prog.info? 26).map (·.size) = some 7 := by kernel_rfl
theorem info_u32 : (Try.prog.info? 22).map (fun i => (i.zero, i.size, i.bytes)) = some (some (.int .u32 0), 1, 4) := by kernel_rfl
def DecPost (s : ByteArray) (w : World) (e : Ending) (w' : World) : Prop := ∃ v, e = .returned (.tuple #[v, .int .i64 ((decH s).2.1 : Int), .int .i64 (decH s).2.2]) ∧ HR w' v (decH s).1 ∧ Below w.heap.size w w'
theorem dec_zero {s : ByteArray} {w w' : World} {c : Int} (h : decH s = (zeroH, 0, c)) (hb : Below w.heap.size w w') : DecPost s w (.returned (.tuple #[.agg zcs, .int .i64 0, .int .i64 c])) w' := by
  unfold DecPost
  rw [h]
  exact ⟨.agg zcs, rfl, hr_zero _, hb⟩
theorem results_cell_two {fn : Func} {p u x : Tmp} {ty : TypeId} (h : fn.results = #[.cell p ty, .tmp u, .tmp x]) (tmps : Array Value) (P : Program) (w : World) :
    (results fn tmps).run P w =
      ((asAddr (tmps.getD p undef)).run P w).andThen fun a w₁ => ((loadVar ty a).run P w₁).andThen fun v w₂ => .ok (.tuple #[v, tmps.getD u undef, tmps.getD x undef]) w₂ := by
  simp only [results, h]
  simp [Sem.run_bind, Result.andThen]
theorem ret_cell_two {P : Program} {fn : Func} {p u x : Tmp} {ty : TypeId} {R : Ending → World → Prop} {a : Act} {w : World} {g : Nat} {t : TypeId} {cs : Array Value} {fr : Nat × Nat} {d : TypeDesc} (h : fn.results = #[.cell p ty, .tmp u, .tmp x]) (hp : a.tmps.getD p undef = .pointer (some ⟨g, 0, none⟩)) (hg : w.heap[g]? = some (.cells cs t fr))
    (hu : P.underlying ty = some d) (hd : (match d with | .struct _ | .array _ _ => true | _ => false) = true) (hi : (P.info? ty).map (·.size) = some cs.size) (hdf : a.defers = []) (hR : R (.returned (.tuple #[.agg cs, a.tmps.getD u undef, a.tmps.getD x undef])) w) : bodyPost P fn R .ret a w := by
  refine bodyPost_ret ?_ hdf hR
  rw [results_cell_two h, hp]
  simp [asAddr, run_loadVar_row w g t ty cs fr d hg hu hd hi, Result.andThen]
theorem ret_dec {R : Ending → World → Prop} {a : Act} {w : World} {b : Nat} {cs : Array Value} {u x : Value} (h : w.heap[b]? = some (.cells cs 26 (0, 0))) (hs : cs.size = 7) (ha : a.tmps.getD 2 undef = .pointer (some ⟨b, 0, none⟩)) (hu : a.tmps.getD 3 undef = u) (hx : a.tmps.getD 4 undef = x) (hd : a.defers = []) (hR : R (.returned (.tuple #[.agg cs, u, x])) w) :
    bodyPost Try.prog Try.f14 R .ret a w :=
  ret_cell_two (P := Try.prog) rfl ha h Try.underlying26 rfl (by rw [hs]; exact header_size) hd (by rw [hu, hx]; exact hR)
theorem stored7 {w : World} {b : Nat} {x0 x1 x2 x3 x4 x5 x6 u0 u1 u2 u3 u4 u5 u6 : Value} {t : TypeId} (h : w.heap[b]? = some (.cells #[x0, x1, x2, x3, x4, x5, x6] t (0, 0))) :
    (((((((w.setCell ⟨b, 0, none⟩ u0).setCell ⟨b, 1, none⟩ u1).setCell ⟨b, 2, none⟩ u2).setCell ⟨b, 3, none⟩ u3).setCell ⟨b, 4, none⟩ u4).setCell ⟨b, 5, none⟩ u5).setCell ⟨b, 6, none⟩ u6).heap[b]? = some (.cells #[u0, u1, u2, u3, u4, u5, u6] t (0, 0)) := by
  simp [World.setCell, Array.getElem?_modify, h]
theorem kept_store7 {S : Nat → Prop} {w w' : World} {b : Nat} (hk : Kept S w w') (hb : S b ∨ w.heap.size ≤ b) (u0 u1 u2 u3 u4 u5 u6 : Value) :
    Kept S w (((((((w'.setCell ⟨b, 0, none⟩ u0).setCell ⟨b, 1, none⟩ u1).setCell ⟨b, 2, none⟩ u2).setCell ⟨b, 3, none⟩ u3).setCell ⟨b, 4, none⟩ u4).setCell ⟨b, 5, none⟩ u5).setCell ⟨b, 6, none⟩ u6) :=
  ((((((hk.setCell (p := ⟨b, 0, none⟩) hb _).setCell (p := ⟨b, 1, none⟩) hb _).setCell (p := ⟨b, 2, none⟩) hb _).setCell (p := ⟨b, 3, none⟩) hb _).setCell (p := ⟨b, 4, none⟩) hb _).setCell (p := ⟨b, 5, none⟩) hb _).setCell (p := ⟨b, 6, none⟩) hb _
theorem decX_err {s : ByteArray} {c : Int} : ∀ {f p left : Nat} {l : List X2}, decX s f p left l = .error c → c ≠ 0 := by
  intro f
  induction f with
  | zero => intro p left l h; injection h with h; rw [← h]; decide
  | succ f ih =>
    intro p left l h
    rw [decX] at h
    split at h
    · cases h
    · split at h
      · injection h with h; rw [← h]; decide
      · split at h
        · exact ih h
        · split at h
          · injection h with h; rw [← h]; decide
          · split at h
            · injection h with h; rw [← h]; decide
            · exact ih h
theorem decE_err {s : ByteArray} {p : Nat} {c : Int} (h : decE s p = .error c) : c ≠ 0 := by
  unfold decE at h
  split at h
  · injection h with h; rw [← h]; decide
  · split at h
    · injection h with h; rw [← h]; decide
    · split at h
      · injection h with h; rw [← h]; decide
      · exact decX_err h
def srcX (s : ByteArray) (n : Nat) : List Int := (List.range n).map fun i => vx s (96 + 32 * i) 32
theorem srcX_len (s : ByteArray) (n : Nat) : (srcX s n).length = n := by simp [srcX]
theorem srcX_succ (s : ByteArray) (n : Nat) : srcX s (n + 1) = srcX s n ++ [vx s (96 + 32 * n) 32] := by simp [srcX, List.range_succ]
theorem srcX_fit {s : ByteArray} {n : Nat} (h : 12 + 4 * n ≤ s.size) : srcX s n = decS s n := by
  unfold srcX decS
  refine List.map_congr_left fun i hi => vx_fit ?_
  have := List.mem_range.1 hi
  omega
set_option linter.unusedSimpArgs false in
set_option maxRecDepth 10000 in
set_option maxHeartbeats 8000000 in
theorem decode_any (s : ByteArray) (w : World) (hs : s.size ≤ 1099511627776) : Calls Try.prog 14 #[.string s] w (DecPost s w) := by
  have HS := Lib.hid hs
  have HSZ := Lib.hid hs
  obtain ⟨Z, hZ⟩ : ∃ Z : Int, Z = (s.size : Int) := ⟨_, rfl⟩
  have hsz : (s.size : Int) = Z := hZ.symm
  have hz0 : 0 ≤ Z := by omega
  have hz1 : Z ≤ 1099511627776 := by omega
  have HZ := Lib.hid hZ
  clear hs hZ
  obtain ⟨q, hq⟩ : ∃ q, q = w.heap.size := ⟨_, rfl⟩
  obtain ⟨W0, hW0⟩ : ∃ W0, W0 = w.alloc (.cells zcs 26) := ⟨_, rfl⟩
  have HQ0 := Lib.hid (show W0.heap[q]? = some (.cells zcs 26 (0, 0)) by rw [hW0, hq]; exact heap_alloc_new w _)
  have HB0 := Lib.hid (show Below w.heap.size w W0 by rw [hW0]; exact (Below.refl _ w).alloc (Nat.le_refl _) _)
  have HE := Lib.hid hq
  have HW0 := Lib.hid hW0
  clear hq hW0
  go_enter Try.func14, Try.ntmps14
  go_upto_region 1 with fail
  rw [← HW0.out, ← HE.out]
  go_wp2_with fail
  refine (read_any s W0).mono ?_
  rintro e V ⟨rfl, hV⟩
  obtain ⟨p, hp⟩ : ∃ p, p = W0.heap.size := ⟨_, rfl⟩
  rw [← hp]
  have HX0 := Lib.hid (show ST V p s 0 by rw [hV, hp]; exact ST.new s W0)
  have hk0 : Kept (fun _ => False) W0 V := by rw [hV]; exact (Kept.refl _ W0).alloc _
  have HQV := Lib.hid ((hk0.block q (Array.getElem?_eq_some_iff.1 HQ0.out).1 id).trans HQ0.out)
  have HBV := Lib.hid (below_then HB0.out HB0.out.size (hk0.below (Nat.le_refl _) (fun _ e => e.elim)))
  have HPQ := Lib.hid (show q < p by rw [hp]; exact (Array.getElem?_eq_some_iff.1 HQ0.out).1)
  have HQW := Lib.hid (show w.heap.size ≤ q by rw [HE.out]; exact Nat.le_refl _)
  clear hV hk0 hp
  go_wp2_with fail
  refine (left_st HX0.out (Nat.zero_le _) HS.out).mono ?_
  rintro e V1 ⟨rfl, h1, hk1⟩
  have HX1 := Lib.hid h1
  have HQ1 := Lib.hid ((hk1.block q (Array.getElem?_eq_some_iff.1 HQV.out).1 id).trans HQV.out)
  have HB1 := Lib.hid (below_then HBV.out HBV.out.size (hk1.below (Nat.le_refl _) (fun _ e => e.elim)))
  have hleft : 8 * (s.size : Int) - ((0 : Nat) : Int) = 8 * Z := by omega
  rw [hleft]
  clear h1 hk1 hleft
  by_cases hz : Z = 0
  · have HD := Lib.hid (show decH s = (zeroH, 0, 60) by unfold decH; rw [if_pos (by omega)])
    have hb := HQ1.out
    obtain ⟨z0, z1, z2, z3, z4, z5, z6⟩ := cells7 hb
    have e0 := frozen_of hb 0
    have e1 := frozen_of hb 1
    have e2 := frozen_of hb 2
    have e3 := frozen_of hb 3
    have e4 := frozen_of hb 4
    have e5 := frozen_of hb 5
    have e6 := frozen_of hb 6
    subst hz
    clear hb
    go_wp2_with fail
    refine ret_dec (u := .int .i64 0) (x := .int .i64 60) (stored7 HQ1.out) rfl rfl rfl rfl rfl ?_
    exact dec_zero HD.out ((kept_store7 (S := fun g => w.heap.size ≤ g) (Kept.of_below HB1.out) (.inl HQW.out) _ _ _ _ _ _ _).below (Nat.le_refl _) (fun _ h => h))
  · -- MARK
    have hz8 : (8 * Z == 0) = false := by rw [beq_eq_false_iff_ne]; omega
    have HN1 := Lib.hid (show 1 ≤ s.size by omega)
    clear hz
    go_wp2_with fail
    refine (get_st 3 3 rfl HX1.out (by omega) HS.out).mono ?_
    rintro e V2 ⟨rfl, h1, hk1⟩
    have HX2 := Lib.hid (show ST V2 p s 3 from h1)
    have HQ2 := Lib.hid ((hk1.block q (Array.getElem?_eq_some_iff.1 HQ1.out).1 (fun e => by have := HPQ.out; omega)).trans HQ1.out)
    have HB2 := Lib.hid (show Below w.heap.size w V2 from (Kept.trans (S := fun g => w.heap.size ≤ g) (Kept.of_below HB1.out) hk1 (fun g _ e => by have := HPQ.out; have := HQW.out; omega)).below (Nat.le_refl _) (fun _ h => h))
    obtain ⟨v3, hv⟩ : ∃ v, v = vx s 0 3 := ⟨_, rfl⟩
    obtain ⟨v3_lo, v3_hi⟩ : 0 ≤ v3 ∧ v3 < 8 := by rw [hv]; exact vx_bd s 0 3
    rw [← hv]
    have Hv3 := Lib.hid hv
    clear h1 hk1 hv
    by_cases hv4 : ¬ v3 = 4
    · have HD := Lib.hid (show decH s = (zeroH, 0, 70) by unfold decH; rw [if_neg (by have := HN1.out; omega), if_pos (by rw [← vx_fit (by have := HN1.out; omega), ← Hv3.out]; exact hv4)])
      have hv5 : (v3 == 4) = false := by rw [beq_eq_false_iff_ne]; exact hv4
      have hv6 : (v3 != 4) = true := by unfold bne; rw [hv5]; rfl
      have hb := HQ2.out
      obtain ⟨z0, z1, z2, z3, z4, z5, z6⟩ := cells7 hb
      have e0 := frozen_of hb 0
      have e1 := frozen_of hb 1
      have e2 := frozen_of hb 2
      have e3 := frozen_of hb 3
      have e4 := frozen_of hb 4
      have e5 := frozen_of hb 5
      have e6 := frozen_of hb 6
      clear hb
      clear hv4 hv5
      go_wp2_with fail
      refine ret_dec (u := .int .i64 0) (x := .int .i64 70) (stored7 HQ2.out) rfl rfl rfl rfl rfl ?_
      exact dec_zero HD.out ((kept_store7 (S := fun g => w.heap.size ≤ g) (Kept.of_below HB2.out) (.inl HQW.out) _ _ _ _ _ _ _).below (Nat.le_refl _) (fun _ h => h))
    · replace hv4 := Classical.not_not.1 hv4
      have HM4 := Lib.hid (show val s 0 3 = 4 by rw [← vx_fit (by have := HN1.out; omega), ← Hv3.out]; exact hv4)
      subst hv4
      go_wp2_with fail
      refine (get_st 1 1 rfl HX2.out (by omega) HS.out).mono ?_
      rintro e V3 ⟨rfl, h1, hk1⟩
      have HX3 := Lib.hid (show ST V3 p s 4 from h1)
      have HQ3 := Lib.hid ((hk1.block q (Array.getElem?_eq_some_iff.1 HQ2.out).1 (fun e => by have := HPQ.out; omega)).trans HQ2.out)
      have HB3 := Lib.hid (show Below w.heap.size w V3 from (Kept.trans (S := fun g => w.heap.size ≤ g) (Kept.of_below HB2.out) hk1 (fun g _ e => by have := HPQ.out; have := HQW.out; omega)).below (Nat.le_refl _) (fun _ h => h))
      obtain ⟨vm, hv⟩ : ∃ v, v = vx s 3 1 := ⟨_, rfl⟩
      obtain ⟨vm_lo, vm_hi⟩ : 0 ≤ vm ∧ vm < 2 := by rw [hv]; exact vx_bd s 3 1
      rw [← hv]
      have Hvm := Lib.hid hv
      clear h1 hk1 hv
      obtain ⟨more, hmore⟩ : ∃ b, b = (vm == 1) := ⟨_, rfl⟩
      go_wp2_with fail
      refine (get_st 4 4 rfl HX3.out (by omega) HS.out).mono ?_
      rintro e V4 ⟨rfl, h1, hk1⟩
      have HX4 := Lib.hid (show ST V4 p s 8 from h1)
      have HQ4 := Lib.hid ((hk1.block q (Array.getElem?_eq_some_iff.1 HQ3.out).1 (fun e => by have := HPQ.out; omega)).trans HQ3.out)
      have HB4 := Lib.hid (show Below w.heap.size w V4 from (Kept.trans (S := fun g => w.heap.size ≤ g) (Kept.of_below HB3.out) hk1 (fun g _ e => by have := HPQ.out; have := HQW.out; omega)).below (Nat.le_refl _) (fun _ h => h))
      obtain ⟨vn, hv⟩ : ∃ v, v = vx s 4 4 := ⟨_, rfl⟩
      obtain ⟨vn_lo, vn_hi⟩ : 0 ≤ vn ∧ vn < 16 := by rw [hv]; exact vx_bd s 4 4
      rw [← hv]
      have Hvn := Lib.hid hv
      clear h1 hk1 hv
      obtain ⟨n, hn⟩ : ∃ n : Nat, vn = (n : Int) := ⟨vn.toNat, by omega⟩
      have HNN := Lib.hid (show n = srcN s by unfold srcN; rw [← vx_fit (by have := HN1.out; omega), ← Hvn.out]; omega)
      have hn15 : (n : Int) ≤ 15 := by omega
      subst hn
      have HMO := Lib.hid hmore
      clear vn_lo vn_hi
      go_wp2_with fail
      refine (get_st 1 1 rfl HX4.out (by omega) HS.out).mono ?_
      rintro e V5 ⟨rfl, h1, hk1⟩
      have HX5 := Lib.hid (show ST V5 p s 9 from h1)
      have HQ5 := Lib.hid ((hk1.block q (Array.getElem?_eq_some_iff.1 HQ4.out).1 (fun e => by have := HPQ.out; omega)).trans HQ4.out)
      have HB5 := Lib.hid (show Below w.heap.size w V5 from (Kept.trans (S := fun g => w.heap.size ≤ g) (Kept.of_below HB4.out) hk1 (fun g _ e => by have := HPQ.out; have := HQW.out; omega)).below (Nat.le_refl _) (fun _ h => h))
      obtain ⟨vk, hv⟩ : ∃ v, v = vx s 8 1 := ⟨_, rfl⟩
      obtain ⟨vk_lo, vk_hi⟩ : 0 ≤ vk ∧ vk < 2 := by rw [hv]; exact vx_bd s 8 1
      rw [← hv]
      have Hvk := Lib.hid hv
      clear h1 hk1 hv
      obtain ⟨mb, hmb⟩ : ∃ b, b = (vk == 1) := ⟨_, rfl⟩
      go_wp2_with fail
      refine (get_st 7 7 rfl HX5.out (by omega) HS.out).mono ?_
      rintro e V6 ⟨rfl, h1, hk1⟩
      have HX6 := Lib.hid (show ST V6 p s 16 from h1)
      have HQ6 := Lib.hid ((hk1.block q (Array.getElem?_eq_some_iff.1 HQ5.out).1 (fun e => by have := HPQ.out; omega)).trans HQ5.out)
      have HB6 := Lib.hid (show Below w.heap.size w V6 from (Kept.trans (S := fun g => w.heap.size ≤ g) (Kept.of_below HB5.out) hk1 (fun g _ e => by have := HPQ.out; have := HQW.out; omega)).below (Nat.le_refl _) (fun _ h => h))
      obtain ⟨vt, hv⟩ : ∃ v, v = vx s 9 7 := ⟨_, rfl⟩
      obtain ⟨vt_lo, vt_hi⟩ : 0 ≤ vt ∧ vt < 128 := by rw [hv]; exact vx_bd s 9 7
      rw [← hv]
      have Hvt := Lib.hid hv
      clear h1 hk1 hv
      go_wp2_with fail
      refine (get_st 16 16 rfl HX6.out (by omega) HS.out).mono ?_
      rintro e V7 ⟨rfl, h1, hk1⟩
      have HX7 := Lib.hid (show ST V7 p s 32 from h1)
      have HQ7 := Lib.hid ((hk1.block q (Array.getElem?_eq_some_iff.1 HQ6.out).1 (fun e => by have := HPQ.out; omega)).trans HQ6.out)
      have HB7 := Lib.hid (show Below w.heap.size w V7 from (Kept.trans (S := fun g => w.heap.size ≤ g) (Kept.of_below HB6.out) hk1 (fun g _ e => by have := HPQ.out; have := HQW.out; omega)).below (Nat.le_refl _) (fun _ h => h))
      obtain ⟨vq, hv⟩ : ∃ v, v = vx s 16 16 := ⟨_, rfl⟩
      obtain ⟨vq_lo, vq_hi⟩ : 0 ≤ vq ∧ vq < 65536 := by rw [hv]; exact vx_bd s 16 16
      rw [← hv]
      have Hvq := Lib.hid hv
      clear h1 hk1 hv
      go_wp2_with fail
      refine (get_st 32 32 rfl HX7.out (by omega) HS.out).mono ?_
      rintro e V8 ⟨rfl, h1, hk1⟩
      have HX8 := Lib.hid (show ST V8 p s 64 from h1)
      have HQ8 := Lib.hid ((hk1.block q (Array.getElem?_eq_some_iff.1 HQ7.out).1 (fun e => by have := HPQ.out; omega)).trans HQ7.out)
      have HB8 := Lib.hid (show Below w.heap.size w V8 from (Kept.trans (S := fun g => w.heap.size ≤ g) (Kept.of_below HB7.out) hk1 (fun g _ e => by have := HPQ.out; have := HQW.out; omega)).below (Nat.le_refl _) (fun _ h => h))
      obtain ⟨vi, hv⟩ : ∃ v, v = vx s 32 32 := ⟨_, rfl⟩
      obtain ⟨vi_lo, vi_hi⟩ : 0 ≤ vi ∧ vi < 4294967296 := by rw [hv]; exact vx_bd s 32 32
      rw [← hv]
      have Hvi := Lib.hid hv
      clear h1 hk1 hv
      go_wp2_with fail
      refine (get_st 32 32 rfl HX8.out (by omega) HS.out).mono ?_
      rintro e V9 ⟨rfl, h1, hk1⟩
      have HX9 := Lib.hid (show ST V9 p s 96 from h1)
      have HQ9 := Lib.hid ((hk1.block q (Array.getElem?_eq_some_iff.1 HQ8.out).1 (fun e => by have := HPQ.out; omega)).trans HQ8.out)
      have HB9 := Lib.hid (show Below w.heap.size w V9 from (Kept.trans (S := fun g => w.heap.size ≤ g) (Kept.of_below HB8.out) hk1 (fun g _ e => by have := HPQ.out; have := HQW.out; omega)).below (Nat.le_refl _) (fun _ h => h))
      obtain ⟨vs, hv⟩ : ∃ v, v = vx s 64 32 := ⟨_, rfl⟩
      obtain ⟨vs_lo, vs_hi⟩ : 0 ≤ vs ∧ vs < 4294967296 := by rw [hv]; exact vx_bd s 64 32
      rw [← hv]
      have Hvs := Lib.hid hv
      clear h1 hk1 hv
      have hb := HQ9.out
      obtain ⟨z0, z1, z2, z3, z4, z5, z6⟩ := cells7 hb
      have e0 := frozen_of hb 0
      have e1 := frozen_of hb 1
      have e2 := frozen_of hb 2
      have e3 := frozen_of hb 3
      have e4 := frozen_of hb 4
      have e5 := frozen_of hb 5
      have e6 := frozen_of hb 6
      clear hb
      go_upto_region 9 with fail
      obtain ⟨U, hU⟩ : ∃ U, U = (((((((V9.setCell ⟨q, 0, none⟩ (.bool (vk == 1))).setCell ⟨q, 1, none⟩ (.int .i64 vt)).setCell ⟨q, 2, none⟩ (.int .i64 vq)).setCell ⟨q, 3, none⟩ (.int .u32 vi)).setCell ⟨q, 4, none⟩ (.int .u32 vs)).setCell ⟨q, 5, none⟩ (.slice none 0 0)).setCell ⟨q, 6, none⟩ (.slice none 0 0)) := ⟨_, rfl⟩
      rw [← hU]
      have HQU := Lib.hid (show U.heap[q]? = some (.cells (dcs (vk == 1) vt vq vi vs (.slice none 0 0) (.slice none 0 0)) 26 (0, 0)) by rw [hU]; exact stored7 HQ9.out)
      have hku : Kept (fun g => g = q) V9 U := by rw [hU]; exact kept_store7 (S := fun g => g = q) (Kept.refl _ V9) (.inl rfl) _ _ _ _ _ _ _
      have HXU := Lib.hid (HX9.out.kept hku (fun e => by have := HPQ.out; omega))
      have HBU := Lib.hid (show Below w.heap.size w U from (Kept.trans (S := fun g => w.heap.size ≤ g) (Kept.of_below HB9.out) hku (fun g _ e => by have := HQW.out; omega)).below (Nat.le_refl _) (fun _ h => h))
      have HMO := Lib.hid hmore
      have HMB := Lib.hid hmb
      rw [← hmb] at HQU
      rw [← hmore, ← hmb]
      clear hU hku z0 z1 z2 z3 z4 z5 z6 e0 e1 e2 e3 e4 e5 e6 HQ0 HQ1 HQ2 HQ3 HQ4 HQ5 HQ6 HQ7 HQ8 HQ9 HX0 HX1 HX2 HX3 HX4 HX5 HX6 HX7 HX8 HX9 HQV hmore hmb
      go_wp2_with fail
      go_loopw [39] (fun iv wx => ∃ (i : Nat) (lv : Value), (i : Int) ≤ (n : Int) ∧ iv = .int .i64 (i : Int) ∧ wx.heap[q]? = some (.cells (dcs mb vt vq vi vs lv (.slice none 0 0)) 26 (0, 0)) ∧ RW wx 1 lv i (nums .u32 (srcX s i)) ∧ (∀ g, isAt lv g → w.heap.size ≤ g ∧ g ≠ q ∧ g ≠ p) ∧ ST wx p s (96 + 32 * i) ∧ Below w.heap.size w wx) (fun iv _ => ((n : Int) - intOf iv).toNat)
      case atStart => exact ⟨0, .slice none 0 0, by omega, rfl, HQU.out, RW.nil _ _, (by rintro g ⟨o, m, c, e⟩; cases e), HXU.out, HBU.out⟩
      case round =>
        obtain ⟨i, lv, hi, rfl, hqx, hrw, hat, hst, hbw⟩ := hrel
        rename World => X
        have HQX := Lib.hid hqx
        have HRX := Lib.hid hrw
        have HAT := Lib.hid hat
        have HX := Lib.hid hst
        have HB := Lib.hid hbw
        obtain ⟨lA, lc, rfl⟩ := hrw.shape
        clear hqx hrw hat hst hbw
        by_cases hil : (i : Int) < (n : Int)
        · go_upto_region 11 with fail
          have HS := (cells7 HQX.out).2.2.2.2.2.1
          have HS : X.drew.cell? ⟨q, 5, none⟩ = some (.slice lA i lc) := HS
          refine Tail.start 7 (fun w' => w'.cell? ⟨q, 5, none⟩ = some (.slice lA i lc)) (by kernel_rfl) ?_
          refine Tail.take 0 rfl (by kernel_rfl) (fun _ _ _ h => h) (by rfl) HS (fun w hSw => by (try dsimp only at hSw); go_simp; (try with_reducible rfl)) ?_
          try simp only [Act.put, List.setIfInBounds_toArray, List.set_cons_zero, List.set_cons_succ]
          refine Tail.take 1 rfl (by kernel_rfl) (fun _ _ _ h => h) (by rfl) HS (fun w hSw => by (try dsimp only at hSw); go_simp; (try with_reducible rfl)) ?_
          try simp only [Act.put, List.setIfInBounds_toArray, List.set_cons_zero, List.set_cons_succ]
          refine Tail.take 2 rfl (by kernel_rfl) (fun _ _ _ h => h) (by rfl) HS (fun w hSw => by (try dsimp only at hSw); go_simp; (try with_reducible rfl)) ?_
          try simp only [Act.put, List.setIfInBounds_toArray, List.set_cons_zero, List.set_cons_succ]
          refine Tail.one 3 rfl (by kernel_rfl) (fun K hK => ?_)
          go_simp
          refine (get_st 32 32 rfl (show ST X.drew p s (96 + 32 * i) from HX.out.kept ((Kept.refl (fun _ => False) X).drew) id) (by omega) HSZ.out).mono ?_
          rintro e X1 ⟨rfl, h1, hk1⟩
          have hk2 : Kept (fun k => k = p) X X1 := (Kept.refl (fun k => k = p) X).drew.trans hk1 (fun _ _ h => h)
          have HX1 := Lib.hid h1
          have HQX1 := Lib.hid ((hk2.block q (Array.getElem?_eq_some_iff.1 HQX.out).1 (fun e => by have := HPQ.out; omega)).trans HQX.out)
          have HRX1 := Lib.hid (HRX.out.kept hk2 (fun g hg e => (HAT.out g hg).2.2 e))
          have HB1 := Lib.hid (show Below w.heap.size w X1 from (Kept.trans (S := fun g => w.heap.size ≤ g) (Kept.of_below HB.out) hk2 (fun g _ e => by have := HPQ.out; have := HQW.out; omega)).below (Nat.le_refl _) (fun _ h => h))
          have hlt : q < X1.heap.size := (Array.getElem?_eq_some_iff.1 HQX1.out).1
          have HLT := Lib.hid hlt
          have HSZX := Lib.hid hk2.size
          obtain ⟨V, hV⟩ : ∃ V, V = vx s (96 + 32 * i) 32 := ⟨_, rfl⟩
          rw [← hV]
          have HV := Lib.hid hV
          have HS : X1.cell? ⟨q, 5, none⟩ = some (.slice lA i lc) := (cells7 HQX1.out).2.2.2.2.2.1
          clear h1 hk1 hk2 hlt hV
          refine hK.out _ _ HS ?_
          clear hK K
          try simp only [Act.put, List.setIfInBounds_toArray, List.set_cons_zero, List.set_cons_succ]
          refine Tail.one 4 rfl (by kernel_rfl) (fun K hK => ?_)
          go_simp
          have HS : (X1.alloc (.cells #[.int .u32 V] 22)).cell? ⟨q, 5, none⟩ = some (.slice lA i lc) := ck ((Kept.refl (fun _ => False) X1).alloc _) HS id
          refine hK.out _ _ HS ?_
          clear hK K
          try simp only [Act.put, List.setIfInBounds_toArray, List.set_cons_zero, List.set_cons_succ]
          refine Tail.one 5 rfl (by kernel_rfl) (fun K hK => ?_)
          have HRK := Lib.hid (HRX1.out.kept ((Kept.refl (fun _ => False) X1).alloc (.cells #[.int .u32 V] 22)) (fun _ _ => id))
          have HRD := Lib.hid (show Rd (X1.alloc (.cells #[.int .u32 V] 22)) 1 (some ⟨X1.heap.size, 0, none⟩) 1 [.int .u32 V] from Rd.one X1 _ _)
          refine step_row rfl (.tmp 42) (.tmp 45) 23 rfl 22 (.int .u32 0) 1 4 Try.underlying23 info_u32 rfl (by omega) (.slice lA i lc) i (nums .u32 (srcX s i)) rfl HRK.out _ _ [.int .u32 V] rfl HRD.out (by simp [Value.oneCell']) (by omega) ?_
          intro v1 w6 hr1 hk1 hn1
          obtain ⟨A1, cap1, rfl⟩ := hr1.shape
          have HNQ := Lib.hid (show ¬ isAt (.slice lA i lc) q from fun e => (HAT.out q e).2.1 rfl)
          have HS : w6.cell? ⟨q, 5, none⟩ = some (.slice lA i lc) := ck hk1 HS HNQ.out
          have HR1 := Lib.hid hr1
          have HN1 := Lib.hid hn1
          have HK1 := Lib.hid (show Kept (isAt (.slice lA i lc)) X1 w6 from Kept.trans (S := isAt (.slice lA i lc)) ((Kept.refl (isAt (.slice lA i lc)) X1).alloc _) hk1 (fun _ _ h => h))
          clear hr1 hk1 hn1
          refine hK.out _ _ HS ?_
          clear hK K
          try simp only [Act.put, List.setIfInBounds_toArray, List.set_cons_zero, List.set_cons_succ]
          refine Tail.take 6 rfl (by kernel_rfl) (fun _ _ _ h => h) (by rfl) HS (fun w hSw => by (try dsimp only at hSw); go_simp; (try with_reducible rfl)) ?_
          try simp only [Act.put, List.setIfInBounds_toArray, List.set_cons_zero, List.set_cons_succ]
          refine Tail.tail 7 rfl (by kernel_rfl) ?_
          simp only [List.drop_succ_cons, List.drop_zero]
          have hq6 := (HK1.out.block q HLT.out HNQ.out).trans HQX1.out
          have e5 := frozen_of hq6 5
          have HQ6 := Lib.hid hq6
          clear hq6
          go_wp2_with fail
          go_roundw
          case rel =>
            have hks : Kept (fun g => g = q) w6 (w6.setCell ⟨q, 5, none⟩ (.slice A1 (i + 1) cap1)) := (Kept.refl (fun g => g = q) w6).setCell (p := ⟨q, 5, none⟩) (.inl rfl) _
            have hat2 : ∀ g, isAt (.slice A1 (i + 1) cap1) g → w.heap.size ≤ g ∧ g ≠ q ∧ g ≠ p := fun g hg => by
              rcases HN1.out g hg with h | h
              · exact HAT.out g h
              · have h3 := HLT.out
                have h4 := HX1.out.lt
                have h5 := HB1.out.size
                rw [show (X1.alloc (.cells #[.int .u32 V] 22)).heap.size = X1.heap.size + 1 by simp] at h
                omega
            refine ⟨i + 1, .slice A1 (i + 1) cap1, by omega, by go_num, ?_, ?_, hat2, ?_, ?_⟩
            · simp [World.setCell, Array.getElem?_modify, HQ6.out]
            · have h := HR1.out.kept hks (fun g hg e => (hat2 g hg).2.1 e)
              rw [srcX_succ, nums_append, ← HV.out]
              exact h
            · have h := (HX1.out.kept HK1.out (fun e => (HAT.out p e).2.2 rfl)).kept hks (fun e => by have := HPQ.out; omega)
              rwa [show 96 + 32 * i + 32 = 96 + 32 * (i + 1) by omega] at h
            · exact (Kept.trans (S := fun g => w.heap.size ≤ g) (Kept.trans (S := fun g => w.heap.size ≤ g) (Kept.of_below HB1.out) HK1.out (fun g _ e => (HAT.out g e).1)) hks (fun g _ e => by have := HQW.out; omega)).below (Nat.le_refl _) (fun _ h => h)
          case measure => exact measN n i hil
        · have hin : i = n := by omega
          subst hin
          clear hil hi
          go_wp2_with fail
          refine (bad_st HX.out).mono ?_
          rintro e X1 ⟨rfl, h1, hk1⟩
          have HX1 := Lib.hid h1
          have HQX1 := Lib.hid ((hk1.block q (Array.getElem?_eq_some_iff.1 HQX.out).1 id).trans HQX.out)
          have HRX1 := Lib.hid (HRX.out.kept hk1 (fun g hg => id))
          have HB1 := Lib.hid (below_then HB.out HB.out.size (hk1.below (Nat.le_refl _) (fun _ e => e.elim)))
          clear h1 hk1
          by_cases hsh : s.size < 12 + 4 * i
          · rw [decide_eq_true (by omega)]
            have HD := Lib.hid (show decH s = (zeroH, 0, 60) by unfold decH; rw [if_neg (by have := HN1.out; omega), if_neg (fun e => e HM4.out), if_pos (by rw [← HNN.out]; exact hsh)])
            have hb := HQX1.out
            obtain ⟨z0, z1, z2, z3, z4, z5, z6⟩ := cells7 hb
            have e0 := frozen_of hb 0
            have e1 := frozen_of hb 1
            have e2 := frozen_of hb 2
            have e3 := frozen_of hb 3
            have e4 := frozen_of hb 4
            have e5 := frozen_of hb 5
            have e6 := frozen_of hb 6
            clear hb
            clear hsh
            go_wp2_with fail
            refine ret_dec (u := .int .i64 0) (x := .int .i64 60) (stored7 HQX1.out) rfl rfl rfl rfl rfl ?_
            exact dec_zero HD.out ((kept_store7 (S := fun g => w.heap.size ≤ g) (Kept.of_below HB1.out) (.inl HQW.out) _ _ _ _ _ _ _).below (Nat.le_refl _) (fun _ h => h))
          · rw [decide_eq_false (by omega)]
            have HSH := Lib.hid hsh
            clear hsh
            go_upto_if 52 with fail
            go_cut [4, 6, 20] (fun s4 _ _ wx => s4 = .int .i64 0 ∧ ∃ (xs : List X2) (e : Nat) (xv : Value), wx.heap[q]? = some (.cells (dcs mb vt vq vi vs (.slice lA i lc) xv) 26 (0, 0)) ∧ RW wx 1 (.slice lA i lc) i (nums .u32 (srcX s i)) ∧ RW wx 2 xv xs.length (flatX xs) ∧ (∀ g, isAt xv g → g ≠ q) ∧ ST wx p s (8 * e) ∧ e ≤ s.size ∧ decH s = (hd0 s xs, e, 0) ∧ Below w.heap.size w wx)
            case first =>
              cases hm : more with
              | false =>
                have HD := Lib.hid (show decH s = (hd0 s [], 12 + 4 * i, 0) by
                  unfold decH
                  rw [if_neg (by have := HN1.out; omega), if_neg (fun e => e HM4.out), if_neg (by rw [← HNN.out]; exact HSH.out), if_neg, ← HNN.out]
                  intro e
                  have h1 := HMO.out
                  rw [hm, Hvm.out, vx_fit (by have := HN1.out; omega), e] at h1
                  cases h1)
                clear hm
                go_wp2_with fail
                go_meet
                exact ⟨rfl, [], 12 + 4 * i, .slice none 0 0, HQX1.out, HRX1.out, RW.nil _ _, (by rintro g ⟨o, m, c, e⟩; cases e), (by have h := HX1.out; rwa [show 96 + 32 * i = 8 * (12 + 4 * i) by omega] at h), (by have := HSH.out; omega), HD.out, HB1.out⟩
              | true =>
                have HDM := Lib.hid (show decH s = decOut s (decE s (12 + 4 * i)) by
                  unfold decH
                  rw [if_neg (by have := HN1.out; omega), if_neg (fun e => e HM4.out), if_neg (by rw [← HNN.out]; exact HSH.out), if_pos, ← HNN.out]
                  have h1 := HMO.out
                  rw [hm, Hvm.out, vx_fit (by have := HN1.out; omega)] at h1
                  exact beq_iff_eq.1 h1.symm)
                clear hm
                have HXE := Lib.hid (show ST X1 p s (8 * (12 + 4 * i)) by have h := HX1.out; rwa [show 96 + 32 * i = 8 * (12 + 4 * i) by omega] at h)
                go_wp2_with fail
                refine (exts_any s (12 + 4 * i) p X1 HXE.out HSZ.out).mono ?_
                intro e X2 hpost
                unfold ExtPost at hpost
                cases hde : decE s (12 + 4 * i) with
                | error c =>
                  rw [hde] at hpost
                  obtain ⟨rfl, hk1⟩ := hpost
                  have HD := Lib.hid (show decH s = (zeroH, 0, c) by rw [HDM.out, hde]; rfl)
                  have hc0 : (c == 0) = false := by rw [beq_eq_false_iff_ne]; exact decE_err hde
                  have hc1 : (c != 0) = true := by unfold bne; rw [hc0]; rfl
                  have HQX2 := Lib.hid ((hk1.block q (Array.getElem?_eq_some_iff.1 HQX1.out).1 (fun e => by have := HPQ.out; omega)).trans HQX1.out)
                  have HB2 := Lib.hid (show Below w.heap.size w X2 from (Kept.trans (S := fun g => w.heap.size ≤ g) (Kept.of_below HB1.out) hk1 (fun g _ e => by have := HPQ.out; have := HQW.out; omega)).below (Nat.le_refl _) (fun _ h => h))
                  clear hk1 hde hc0
                  have hb := HQX2.out
                  obtain ⟨z0, z1, z2, z3, z4, z5, z6⟩ := cells7 hb
                  have e0 := frozen_of hb 0
                  have e1 := frozen_of hb 1
                  have e2 := frozen_of hb 2
                  have e3 := frozen_of hb 3
                  have e4 := frozen_of hb 4
                  have e5 := frozen_of hb 5
                  have e6 := frozen_of hb 6
                  clear hb
                  go_upto_region 17 with fail
                  obtain ⟨X3, hX3⟩ : ∃ X3, X3 = X2.setCell ⟨q, 6, none⟩ (.slice none 0 0) := ⟨_, rfl⟩
                  rw [← hX3]
                  have HQX3 := Lib.hid (show X3.heap[q]? = some (.cells (dcs mb vt vq vi vs (.slice lA i lc) (.slice none 0 0)) 26 (0, 0)) by rw [hX3]; simp [World.setCell, Array.getElem?_modify, HQX2.out])
                  have HB3 := Lib.hid (show Below w.heap.size w X3 by rw [hX3]; exact ((Kept.of_below (S := fun g => w.heap.size ≤ g) HB2.out).setCell (p := ⟨q, 6, none⟩) (.inl HQW.out) _).below (Nat.le_refl _) (fun _ h => h))
                  clear hX3 z0 z1 z2 z3 z4 z5 z6 e0 e1 e2 e3 e4 e5 e6
                  have hb := HQX3.out
                  obtain ⟨z0, z1, z2, z3, z4, z5, z6⟩ := cells7 hb
                  have e0 := frozen_of hb 0
                  have e1 := frozen_of hb 1
                  have e2 := frozen_of hb 2
                  have e3 := frozen_of hb 3
                  have e4 := frozen_of hb 4
                  have e5 := frozen_of hb 5
                  have e6 := frozen_of hb 6
                  clear hb
                  go_wp2_with fail
                  refine ret_dec (u := .int .i64 0) (x := .int .i64 c) (stored7 HQX3.out) rfl rfl rfl rfl rfl ?_
                  exact dec_zero HD.out ((kept_store7 (S := fun g => w.heap.size ≤ g) (Kept.of_below HB3.out) (.inl HQW.out) _ _ _ _ _ _ _).below (Nat.le_refl _) (fun _ h => h))
                | ok x =>
                  rw [hde] at hpost
                  obtain ⟨xA, xc, rfl, hrx, hax, hsx, hex, hk1⟩ := hpost
                  have HD := Lib.hid (show decH s = (hd0 s x.1, x.2, 0) by rw [HDM.out, hde]; rfl)
                  have HQX2 := Lib.hid ((hk1.block q (Array.getElem?_eq_some_iff.1 HQX1.out).1 (fun e => by have := HPQ.out; omega)).trans HQX1.out)
                  have HB2 := Lib.hid (show Below w.heap.size w X2 from (Kept.trans (S := fun g => w.heap.size ≤ g) (Kept.of_below HB1.out) hk1 (fun g _ e => by have := HPQ.out; have := HQW.out; omega)).below (Nat.le_refl _) (fun _ h => h))
                  have HRX2 := Lib.hid (HRX1.out.kept hk1 (fun g hg e => (HAT.out g hg).2.2 e))
                  have HXX := Lib.hid hrx
                  have HAX := Lib.hid (show ∀ g, isAt (.slice xA x.1.length xc) g → g ≠ q from fun g hg => by have h1 := hax g hg; have h2 := (Array.getElem?_eq_some_iff.1 HQX1.out).1; omega)
                  have HSX := Lib.hid hsx
                  have HEX := Lib.hid hex
                  clear hk1 hde hrx hax hsx hex
                  have hb := HQX2.out
                  obtain ⟨z0, z1, z2, z3, z4, z5, z6⟩ := cells7 hb
                  have e0 := frozen_of hb 0
                  have e1 := frozen_of hb 1
                  have e2 := frozen_of hb 2
                  have e3 := frozen_of hb 3
                  have e4 := frozen_of hb 4
                  have e5 := frozen_of hb 5
                  have e6 := frozen_of hb 6
                  clear hb
                  go_wp2_with fail
                  go_meet
                  have hks : Kept (fun g => g = q) X2 (X2.setCell ⟨q, 6, none⟩ (.slice xA x.1.length xc)) := (Kept.refl (fun g => g = q) X2).setCell (p := ⟨q, 6, none⟩) (.inl rfl) _
                  refine ⟨rfl, x.1, x.2, .slice xA x.1.length xc, ?_, HRX2.out.kept hks (fun g hg e => (HAT.out g hg).2.1 e), HXX.out.kept hks (fun g hg e => HAX.out g hg e), HAX.out, HSX.out.kept hks (fun e => by have := HPQ.out; omega), HEX.out, HD.out, ?_⟩
                  · simp [World.setCell, Array.getElem?_modify, HQX2.out]
                  · exact (Kept.trans (S := fun g => w.heap.size ≤ g) (Kept.of_below HB2.out) hks (fun g _ e => by have := HQW.out; omega)).below (Nat.le_refl _) (fun _ h => h)
            case rest =>
              obtain ⟨rfl, xs, en, xv, hqx, hrx, hxx, hax, hst, hen, hdec, hbw⟩ := hcut
              rename World => Y
              obtain ⟨xA, xc, rfl⟩ := hxx.shape
              have HQY := Lib.hid hqx
              have HRY := Lib.hid hrx
              have HXY := Lib.hid hxx
              have HAX := Lib.hid hax
              have HSY := Lib.hid hst
              have HEN := Lib.hid hen
              have HDC := Lib.hid hdec
              have HBY := Lib.hid hbw
              clear hqx hrx hxx hax hst hen hdec hbw
              obtain ⟨F, hF⟩ : ∃ F : Int, F = Z - (en : Int) := ⟨_, rfl⟩
              have hF8 : (8 * F).tdiv 8 = F := by rw [Int.mul_comm]; exact Int.mul_tdiv_cancel F (by decide)
              have hFe : Z - F = (en : Int) := by omega
              have HFF := Lib.hid (show 8 * (s.size : Int) - ((8 * en : Nat) : Int) = 8 * F by omega)
              have hF0 : 0 ≤ F := by have := HEN.out; omega
              have hF1 : F ≤ 1099511627776 := by omega
              clear hF
              go_upto_region 19 with fail
              have HS : Y.drew.cell? ⟨q, 0, none⟩ = some (.bool mb) ∧ Y.drew.cell? ⟨q, 1, none⟩ = some (.int .i64 vt) ∧ Y.drew.cell? ⟨q, 2, none⟩ = some (.int .i64 vq) ∧ Y.drew.cell? ⟨q, 3, none⟩ = some (.int .u32 vi) ∧ Y.drew.cell? ⟨q, 4, none⟩ = some (.int .u32 vs) ∧ Y.drew.cell? ⟨q, 5, none⟩ = some (.slice lA i lc) ∧ Y.drew.cell? ⟨q, 6, none⟩ = some (.slice xA xs.length xc) := cells7 HQY.out
              refine Tail.start 10 (fun w' => w'.cell? ⟨q, 0, none⟩ = some (.bool mb) ∧ w'.cell? ⟨q, 1, none⟩ = some (.int .i64 vt) ∧ w'.cell? ⟨q, 2, none⟩ = some (.int .i64 vq) ∧ w'.cell? ⟨q, 3, none⟩ = some (.int .u32 vi) ∧ w'.cell? ⟨q, 4, none⟩ = some (.int .u32 vs) ∧ w'.cell? ⟨q, 5, none⟩ = some (.slice lA i lc) ∧ w'.cell? ⟨q, 6, none⟩ = some (.slice xA xs.length xc)) (by kernel_rfl) ?_
              refine Tail.take 0 rfl (by kernel_rfl) (fun _ _ _ h => h) (by rfl) HS (fun w hSw => by (try dsimp only at hSw); go_simp; (try with_reducible rfl)) ?_
              try simp only [Act.put, List.setIfInBounds_toArray, List.set_cons_zero, List.set_cons_succ]
              refine Tail.take 1 rfl (by kernel_rfl) (fun _ _ _ h => h) (by rfl) HS (fun w hSw => by (try dsimp only at hSw); go_simp; (try with_reducible rfl)) ?_
              try simp only [Act.put, List.setIfInBounds_toArray, List.set_cons_zero, List.set_cons_succ]
              refine Tail.take 2 rfl (by kernel_rfl) (fun _ _ _ h => h) (by rfl) HS (fun w hSw => by (try dsimp only at hSw); go_simp; (try with_reducible rfl)) ?_
              try simp only [Act.put, List.setIfInBounds_toArray, List.set_cons_zero, List.set_cons_succ]
              refine Tail.take 3 rfl (by kernel_rfl) (fun _ _ _ h => h) (by rfl) HS (fun w hSw => by (try dsimp only at hSw); go_simp; (try with_reducible rfl)) ?_
              try simp only [Act.put, List.setIfInBounds_toArray, List.set_cons_zero, List.set_cons_succ]
              refine Tail.one 4 rfl (by kernel_rfl) (fun K hK => ?_)
              go_simp
              refine (left_st (show ST Y.drew p s (8 * en) from HSY.out.kept ((Kept.refl (fun _ => False) Y).drew) id) (by have := HEN.out; omega) HSZ.out).mono ?_
              rintro e Y1 ⟨rfl, h1, hk1⟩
              rw [HFF.out]
              have hk2 : Kept (fun _ => False) Y Y1 := (Kept.refl (fun _ => False) Y).drew.trans hk1 (fun _ _ h => h)
              have HQY1 := Lib.hid ((hk2.block q (Array.getElem?_eq_some_iff.1 HQY.out).1 id).trans HQY.out)
              have HRY1 := Lib.hid (HRY.out.kept hk2 (fun g hg => id))
              have HXY1 := Lib.hid (HXY.out.kept hk2 (fun g hg => id))
              have HBY1 := Lib.hid (below_then HBY.out HBY.out.size (hk2.below (Nat.le_refl _) (fun _ e => e.elim)))
              have HS : Y1.cell? ⟨q, 0, none⟩ = some (.bool mb) ∧ Y1.cell? ⟨q, 1, none⟩ = some (.int .i64 vt) ∧ Y1.cell? ⟨q, 2, none⟩ = some (.int .i64 vq) ∧ Y1.cell? ⟨q, 3, none⟩ = some (.int .u32 vi) ∧ Y1.cell? ⟨q, 4, none⟩ = some (.int .u32 vs) ∧ Y1.cell? ⟨q, 5, none⟩ = some (.slice lA i lc) ∧ Y1.cell? ⟨q, 6, none⟩ = some (.slice xA xs.length xc) := cells7 HQY1.out
              clear h1 hk1 hk2
              refine hK.out _ _ HS ?_
              clear hK K
              try simp only [Act.put, List.setIfInBounds_toArray, List.set_cons_zero, List.set_cons_succ]
              refine Tail.take 5 rfl (by kernel_rfl) (fun _ _ _ h => h) (by rfl) HS (fun w hSw => by (try dsimp only at hSw); go_simp; (try with_reducible rfl)) ?_
              try simp only [Act.put, List.setIfInBounds_toArray, List.set_cons_zero, List.set_cons_succ]
              refine Tail.take 6 rfl (by kernel_rfl) (fun _ _ _ h => h) (by rfl) HS (fun w hSw => by (try dsimp only at hSw); go_simp; (try with_reducible rfl)) ?_
              try simp only [Act.put, List.setIfInBounds_toArray, List.set_cons_zero, List.set_cons_succ]
              refine Tail.one 7 rfl (by kernel_rfl) (fun K hK => ?_)
              have hb := HQY1.out
              obtain ⟨z0, z1, z2, z3, z4, z5, z6⟩ := cells7 hb
              have e0 := frozen_of hb 0
              have e1 := frozen_of hb 1
              have e2 := frozen_of hb 2
              have e3 := frozen_of hb 3
              have e4 := frozen_of hb 4
              have e5 := frozen_of hb 5
              have e6 := frozen_of hb 6
              clear hb
              go_simp
              obtain ⟨Y2, hY2⟩ : ∃ Y2, Y2 = (((((((Y1.setCell ⟨q, 0, none⟩ (.bool mb)).setCell ⟨q, 1, none⟩ (.int .i64 vt)).setCell ⟨q, 2, none⟩ (.int .i64 vq)).setCell ⟨q, 3, none⟩ (.int .u32 vi)).setCell ⟨q, 4, none⟩ (.int .u32 vs)).setCell ⟨q, 5, none⟩ (.slice lA i lc)).setCell ⟨q, 6, none⟩ (.slice xA xs.length xc)) := ⟨_, rfl⟩
              rw [← hY2]
              have HQY2 := Lib.hid (show Y2.heap[q]? = some (.cells (dcs mb vt vq vi vs (.slice lA i lc) (.slice xA xs.length xc)) 26 (0, 0)) by rw [hY2]; exact stored7 HQY1.out)
              have HKS := Lib.hid (show Kept (fun g => g = q) Y1 Y2 by rw [hY2]; exact kept_store7 (S := fun g => g = q) (Kept.refl _ Y1) (.inl rfl) _ _ _ _ _ _ _)
              have HS : Y2.cell? ⟨q, 0, none⟩ = some (.bool mb) ∧ Y2.cell? ⟨q, 1, none⟩ = some (.int .i64 vt) ∧ Y2.cell? ⟨q, 2, none⟩ = some (.int .i64 vq) ∧ Y2.cell? ⟨q, 3, none⟩ = some (.int .u32 vi) ∧ Y2.cell? ⟨q, 4, none⟩ = some (.int .u32 vs) ∧ Y2.cell? ⟨q, 5, none⟩ = some (.slice lA i lc) ∧ Y2.cell? ⟨q, 6, none⟩ = some (.slice xA xs.length xc) := cells7 HQY2.out
              clear hY2 z0 z1 z2 z3 z4 z5 z6 e0 e1 e2 e3 e4 e5 e6
              refine hK.out _ _ HS ?_
              clear hK K
              try simp only [Act.put, List.setIfInBounds_toArray, List.set_cons_zero, List.set_cons_succ]
              refine Tail.take 8 rfl (by kernel_rfl) (fun _ _ _ h => h) (by rfl) HS (fun w hSw => by (try dsimp only at hSw); go_simp; (try with_reducible rfl)) ?_
              try simp only [Act.put, List.setIfInBounds_toArray, List.set_cons_zero, List.set_cons_succ]
              refine Tail.take 9 rfl (by kernel_rfl) (fun _ _ _ h => h) (by rfl) HS (fun w hSw => by (try dsimp only at hSw); go_simp; (try with_reducible rfl)) ?_
              try simp only [Act.put, List.setIfInBounds_toArray, List.set_cons_zero, List.set_cons_succ]
              refine ⟨by kernel_rfl, ?_⟩
              clear HS
              simp only [List.getElem_toArray, List.getElem_cons_succ, List.getElem_cons_zero, List.setIfInBounds_toArray, List.set_cons_zero, List.set_cons_succ]
              go_wp2_with fail
              refine ret_dec (u := .int .i64 (IntKind.i64.wrap (Z - IntKind.i64.wrap F))) (x := .int .i64 0) HQY2.out rfl rfl rfl rfl rfl ?_
              rw [IntWalk.i64_in F (by omega), IntWalk.i64_in (Z - F) (by omega), hFe]
              have hks := HKS.out
              unfold DecPost
              rw [HDC.out]
              have hfit : 12 + 4 * i ≤ s.size := by have := HSH.out; omega
              have esr : (hd0 s xs).src = srcX s i := by rw [srcX_fit hfit, HNN.out]; rfl
              refine ⟨_, rfl, ⟨lA, lc, xA, xc, ?_, ?_, ?_⟩, ?_⟩
              · have m1 : (hd0 s xs).m = mb := by
                  rw [HMB.out, Hvk.out, vx_fit (by omega)]
                  rfl
                have m2 : (hd0 s xs).ty = vt := by rw [Hvt.out, vx_fit (by omega)]; rfl
                have m3 : (hd0 s xs).sq = vq := by rw [Hvq.out, vx_fit (by omega)]; rfl
                have m4 : (hd0 s xs).tm = vi := by rw [Hvi.out, vx_fit (by omega)]; rfl
                have m5 : (hd0 s xs).ss = vs := by rw [Hvs.out, vx_fit (by omega)]; rfl
                rw [m1, m2, m3, m4, m5, esr, srcX_len]
                rfl
              · rw [esr, srcX_len]
                exact (HRY1.out.kept hks (fun g hg e => (HAT.out g hg).2.1 e)).rd
              · exact (HXY1.out.kept hks (fun g hg e => HAX.out g hg e)).rd
              · exact (Kept.trans (S := fun g => w.heap.size ≤ g) (Kept.of_below HBY1.out) hks (fun g _ e => by have := HQW.out; omega)).below (Nat.le_refl _) (fun _ h => h)
end Go.Proofs.Ytccljgohekmjkaa.Rtp
