/- What Decode tells; no condition but the ranges in each. -/
import Derived.Test.YtmkaflfhmpddbaaCcfbDec2
import Derived.Test.YtmkaflfhmpddbaaScope
namespace Go.Proofs.Ytmkaflfhmpddbaa.Ccfb
open Go.RowKit Go.Proofs.Ytmkaflfhmpddbaa.Plain Go.Proofs.Ytmkaflfhmpddbaa.Heap Go.Proofs.Ytmkaflfhmpddbaa.Open Go.Proofs.Ytmkaflfhmpddbaa.Rows Go.Proofs.Ytmkaflfhmpddbaa.Bits

def zc : Value := .agg #[.int .u32 0, .slice none 0 0, .int .u32 0]
theorem cr_zero (w : World) : CR w zc zeroC := ⟨none, 0, rfl, Blks.nil w⟩
theorem ccfb_size : (Try.prog.info? 25).map (·.size) = some 3 := by kernel_rfl
def DecPost (s : ByteArray) (w : World) (e : Ending) (w' : World) : Prop := ∃ v, e = .returned (.tuple #[v, .int .i64 (decC s).2]) ∧ CR w' v (decC s).1 ∧ Below w.heap.size w w'
theorem dec_zero {s : ByteArray} {w w' : World} {c : Int} (h : decC s = (zeroC, c)) (hb : Below w.heap.size w w') : DecPost s w (.returned (.tuple #[zc, .int .i64 c])) w' := by
  unfold DecPost
  rw [h]
  exact ⟨zc, rfl, cr_zero _, hb⟩
theorem ret_decode {R : Ending → World → Prop} {a : Act} {w : World} {b : Nat} {x y z u : Value} (h : w.heap[b]? = some (.cells #[x, y, z] 25 (0, 0))) (ha : a.tmps.getD 2 undef = .pointer (some ⟨b, 0, none⟩)) (hu : a.tmps.getD 3 undef = u) (hd : a.defers = []) (hR : R (.returned (.tuple #[.agg #[x, y, z], u])) w) :
    bodyPost Try.prog Try.f16 R .ret a w :=
  ret_cell_tmp (P := Try.prog) rfl ha h Try.underlying25 rfl ccfb_size hd (by rw [hu]; exact hR)
/-- Where the next block is read. -/
def JD (s : ByteArray) (w W1 : World) (p q q5 : Nat) (act : Act) (w' : World) : Prop :=
  ∃ (a : Nat) (bs : List Bl) (lv : Value) (F : Nat → Prop), act.defers = [] ∧ act.tmps.size = 56 ∧ act.tmps.getD 0 undef = .string s ∧ act.tmps.getD 2 undef = .pointer (some ⟨q, 0, none⟩) ∧ act.tmps.getD 4 undef = .pointer (some ⟨p, 0, none⟩) ∧ act.tmps.getD 5 undef = .pointer (some ⟨q5, 0, none⟩) ∧
    RR 72 w' p s a false ∧ a % 32 = 0 ∧ a + 32 ≤ 8 * s.size ∧ w'.heap[q5]? = some (.cells #[.int .u32 (val s 0 32), lv, .int .u32 0] 25 (0, 0)) ∧ OB W1.heap.size F w' lv bs ∧ (∀ g, F g → g < w'.heap.size) ∧
    w'.heap[q]? = some (.cells #[.int .u32 0, .slice none 0 0, .int .u32 0] 25 (0, 0)) ∧ bs.length ≤ 16 ∧ decBs s 17 32 [] = decBs s (17 - bs.length) a bs ∧ Below w.heap.size w w' ∧ W1.heap.size ≤ w'.heap.size
def muD (s : ByteArray) (p : Nat) (_ : Act) (w : World) : Nat := 8 * s.size - (intOf ((w.cell? ⟨p, 1, none⟩).getD undef)).toNat
theorem range56 : List.range 56 = [0, 1, 2, 3, 4, 5, 6, 7, 8, 9, 10, 11, 12, 13, 14, 15, 16, 17, 18, 19, 20, 21, 22, 23, 24, 25, 26, 27, 28, 29, 30, 31, 32, 33, 34, 35, 36, 37, 38, 39, 40, 41, 42, 43, 44, 45, 46, 47, 48, 49, 50, 51, 52, 53, 54, 55] := rfl
set_option maxRecDepth 10000 in
set_option maxHeartbeats 4000000 in
theorem decode_main (s : ByteArray) (w : World) (h0 : ¬ 65536 < s.size) (h1 : s.size % 4 = 0) (h2 : ¬ s.size < 8) :
    Calls Try.prog 16 #[.string s] w (DecPost s w) := by
  have HDC := Lib.hid (decC_main h0 h1 h2)
  have hs' : s.size ≤ 1099511627776 := by omega
  have HS := Lib.hid hs'
  have HS8 := Lib.hid (show 8 ≤ s.size by omega)
  have HS4 := Lib.hid h1
  obtain ⟨Z, hZ⟩ : ∃ Z : Int, Z = (s.size : Int) := ⟨_, rfl⟩
  have i0 : Z ≤ 65536 := by omega
  have i1 : (Z % 4 == 0) = true := by rw [hZ]; simp; omega
  have i2 : 8 ≤ Z := by omega
  have HZ := Lib.hid hZ
  have hsz : (s.size : Int) = Z := hZ.symm
  clear h0 h1 h2 hs' hZ
  obtain ⟨q, hq⟩ : ∃ q, q = w.heap.size := ⟨_, rfl⟩
  obtain ⟨W0, hW0⟩ : ∃ W0, W0 = w.alloc (.cells #[.int .u32 0, .slice none 0 0, .int .u32 0] 25) := ⟨_, rfl⟩
  have hqc : W0.heap[q]? = some (.cells #[.int .u32 0, .slice none 0 0, .int .u32 0] 25 (0, 0)) := by rw [hW0, hq]; exact heap_alloc_new w _
  have HQ0 := Lib.hid hqc
  have HK0 := Lib.hid (show Kept (fun _ => False) w W0 by rw [hW0]; exact (Kept.refl _ w).alloc _)
  have HRD := Lib.hid (read_any s W0)
  have HE := Lib.hid hq
  have HW0 := Lib.hid hW0
  clear hqc hq hW0
  obtain ⟨p, hp⟩ : ∃ p, p = W0.heap.size := ⟨_, rfl⟩
  obtain ⟨V, hV⟩ : ∃ V, V = W0.alloc (.cells #[.string s, .int .i64 0, .bool false] 72) := ⟨_, rfl⟩
  rw [← hp, ← hV] at HRD
  have HRV := Lib.hid (show RR 72 V p s 0 false by rw [hV, hp]; exact RR.new _ s W0)
  have HKV := Lib.hid (show Kept (fun _ => False) W0 V by rw [hV]; exact (Kept.refl _ W0).alloc _)
  have HP := Lib.hid hp
  clear hp hV
  go_enter Try.func16, Try.ntmps16
  go_wp2
  rw [← HW0.out, ← HE.out]
  refine wp_scope_pass 0 (fun act w' => ∃ W1 q5, q5 < W1.heap.size ∧ q < q5 ∧ p < q5 ∧ p ≠ q ∧ w.heap.size ≤ q ∧ w.heap.size ≤ p ∧ JD s w W1 p q q5 act w') (muD s p) rfl ?_ ?_
  · rintro ⟨ts, ds⟩ w' ⟨W1, q5, hq1, hq2, hq3, hq4, hq5, hq6, a, bs, lv, F, hd, hts, t0, t2, t4, t5, hr, ha32, ha, h5, hob, hF, hqz, hbl, hdec, hbw, hszw⟩
    obtain rfl : ds = [] := hd
    obtain ⟨f, hf, hts⟩ := arr_fun ts 56 hts
    have f0 : f 0 = .string s := (hf 0 (by omega)).trans t0
    have f2 : f 2 = .pointer (some ⟨q, 0, none⟩) := (hf 2 (by omega)).trans t2
    have f4 : f 4 = .pointer (some ⟨p, 0, none⟩) := (hf 4 (by omega)).trans t4
    have f5 : f 5 = .pointer (some ⟨q5, 0, none⟩) := (hf 5 (by omega)).trans t5
    rw [range56] at hts
    simp only [List.map_cons, List.map_nil, f0, f2, f4, f5] at hts
    subst hts
    have HR := Lib.hid hr
    have HA := Lib.hid ha
    have HA32 := Lib.hid ha32
    have H5 := Lib.hid h5
    have HO := Lib.hid hob
    have HF := Lib.hid hF
    have HQ := Lib.hid hqz
    have HBL := Lib.hid hbl
    have HDE := Lib.hid hdec
    have HB := Lib.hid hbw
    clear hf t0 t2 t4 t5 f0 f2 f4 f5 hr ha ha32 h5 hob hF hqz hbl hdec hbw
    obtain ⟨R, hR⟩ : ∃ R : Int, R = 8 * (s.size : Int) - (a : Int) := ⟨_, rfl⟩
    have HL := Lib.hid (left_fit HR.out (by have := HA.out; omega) HS.out)
    rw [← hR] at HL
    have HRr := Lib.hid hR
    clear hR
    go_wp2_with fail
    refine HL.out.mono ?_
    rintro e X ⟨rfl, hr1, hk1⟩
    have HRX := Lib.hid hr1
    have HKX := Lib.hid hk1
    have H5X := Lib.hid ((hk1.block q5 (Array.getElem?_eq_some_iff.1 H5.out).1 id).trans H5.out)
    have HQX := Lib.hid ((hk1.block q (Array.getElem?_eq_some_iff.1 HQ.out).1 id).trans HQ.out)
    have HOX := Lib.hid (HO.out.run hk1)
    have HBX := Lib.hid (below_then HB.out HB.out.size (hk1.below (Nat.le_refl _) (fun _ e => e.elim)))
    have hszX := Nat.le_trans hszw hk1.size
    clear hr1 hk1
    obtain ⟨n, hn⟩ : ∃ n, n = bs.length := ⟨_, rfl⟩
    have HN := Lib.hid hn
    obtain ⟨lA, lc, rfl⟩ : ∃ lA lc, lv = .slice lA n lc := by rw [hn]; exact HOX.out.shape
    have hb := HQX.out
    obtain ⟨z0, z1, z2⟩ := cells3 hb
    have e0 := frozen_of hb 0
    have e1 := frozen_of hb 1
    have e2 := frozen_of hb 2
    obtain ⟨y0, y1, y2⟩ := cells3 H5X.out
    clear hb hn
    by_cases hmore : 32 < R
    · have hns : ¬ 8 * s.size ≤ a + 32 := by have := HRr.out; omega
      have HNS := Lib.hid hns
      clear hns
      by_cases h16 : n = 16
      · subst h16
        go_wp2_with fail
        (try simp only [Exit.inBlock, Exit.then])
        simp only [Exit.jump]
        refine ret_decode (u := .int .i64 3) (stored3 HQX.out) ?_ ?_ ?_ ?_
        · rfl
        · rfl
        · rfl
        · refine dec_zero (by rw [HDC.out, HDE.out, decBs_many HN.out.symm HNS.out]; rfl) ?_
          exact (kept_store3 (S := fun g => w.heap.size ≤ g) (Kept.of_below HBX.out) (.inl hq5) _ _ _).below (Nat.le_refl _) (fun _ h => h)
      · have h16' : ((n : Int) == 16) = false := by simp; omega
        have HLT := Lib.hid (show ¬ bs.length = 16 by rw [← HN.out]; exact h16)
        clear h16
        have HBK := Lib.hid (block_any s a p X HRX.out (by have := HZ.out; omega) HA.out)
        cases hdb : decB s a with
        | error c =>
          have HB2 := Lib.hid (show Calls Try.prog 30 #[.pointer (some ⟨p, 0, none⟩)] X (fun e w' => e = .returned (.tuple #[.agg #[.int .u32 0, .int .i64 0, .slice none 0 0], .int .i64 c]) ∧ Kept (fun k => k = p) X w') from HBK.out.mono fun e w' h => by unfold BlkPost at h; rw [hdb] at h; exact h)
          have HDB := Lib.hid hdb
          have hc := decB_err hdb
          have hc2 : ¬ c = 0 := by simpa using hc
          clear hdb
          go_wp2_with fail
          refine HB2.out.mono ?_
          rintro e Y ⟨rfl, hk2⟩
          have HQY := Lib.hid ((hk2.block q (Array.getElem?_eq_some_iff.1 HQX.out).1 (fun e => hq4 e.symm)).trans HQX.out)
          have HBY := Lib.hid (show Below w.heap.size w Y from (Kept.trans (S := fun g => w.heap.size ≤ g) (Kept.of_below HBX.out) hk2 (fun g _ e => by omega)).below (Nat.le_refl _) (fun _ h => h))
          clear hk2
          go_upto_region 13 with fail
          obtain ⟨Y2, hY2⟩ : ∃ Y2, Y2 = Y.alloc (.cells #[.int .u32 0, .int .i64 0, .slice none 0 0] 44) := ⟨_, rfl⟩
          have hq2 : Y2.heap[q]? = some (.cells #[.int .u32 0, .slice none 0 0, .int .u32 0] 25 (0, 0)) := by rw [hY2]; exact (Below.heap_alloc Y _ q (Array.getElem?_eq_some_iff.1 HQY.out).1).trans HQY.out
          have HBY2 := Lib.hid (show Below w.heap.size w Y2 by rw [hY2]; exact HBY.out.alloc HBY.out.size _)
          rw [← hY2]
          have HQY2 := Lib.hid hq2
          obtain ⟨z0, z1, z2⟩ := cells3 hq2
          have e0 := frozen_of hq2 0
          have e1 := frozen_of hq2 1
          have e2 := frozen_of hq2 2
          clear hq2 hY2
          go_wp2_with fail
          (try simp only [Exit.jump])
          refine ret_decode (u := .int .i64 c) (stored3 HQY2.out) ?_ ?_ ?_ ?_
          · rfl
          · rfl
          · rfl
          · refine dec_zero (by rw [HDC.out, HDE.out, decBs_err HBL.out HLT.out HNS.out HDB.out]; rfl) ?_
            exact (kept_store3 (S := fun g => w.heap.size ≤ g) (Kept.of_below HBY2.out) (.inl hq5) _ _ _).below (Nat.le_refl _) (fun _ h => h)
        | ok b =>
          have HB2 := Lib.hid (show Calls Try.prog 30 #[.pointer (some ⟨p, 0, none⟩)] X (fun e w' => ∃ A c, e = .returned (.tuple #[.agg #[.int .u32 b.1, .int .i64 b.2.1, .slice A b.2.2.length c], .int .i64 0]) ∧ RR 72 w' p s (endB a b.2.2.length) false ∧ Rd w' 3 A b.2.2.length (flatM b.2.2) ∧
            (∀ o off, A = some ⟨o, off, none⟩ → 0 < b.2.2.length → X.heap.size ≤ o) ∧ Kept (fun k => k = p) X w') from HBK.out.mono fun e w' h => by unfold BlkPost at h; rw [hdb] at h; exact h)
          have HNX := Lib.hid (decBs_next HBL.out HLT.out HNS.out hdb)
          have HDL := Lib.hid (decB_len hdb)
          obtain ⟨b1, b2, ms⟩ := b
          simp only at HB2 HNX HDL
          obtain ⟨m, hm⟩ : ∃ m, m = ms.length := ⟨_, rfl⟩
          rw [← hm] at HB2 HNX HDL
          have HM := Lib.hid hm
          clear hdb hm
          go_wp2_with fail
          refine HB2.out.mono ?_
          rintro e Y ⟨bA, bc, rfl, hr2, hd2, ho2, hk2⟩
          have H5Y := Lib.hid ((hk2.block q5 (Array.getElem?_eq_some_iff.1 H5X.out).1 (by omega)).trans H5X.out)
          have HQY := Lib.hid ((hk2.block q (Array.getElem?_eq_some_iff.1 HQX.out).1 (fun e => hq4 e.symm)).trans HQX.out)
          have HOY := Lib.hid (HOX.out.kept hk2 (fun g hg e => by have := HOX.out.own g hg; omega) (fun g hg e => by have := (HOX.out.fb g hg).1; omega))
          have HBY := Lib.hid (show Below w.heap.size w Y from (Kept.trans (S := fun g => w.heap.size ≤ g) (Kept.of_below HBX.out) hk2 (fun g _ e => by omega)).below (Nat.le_refl _) (fun _ h => h))
          have HRY := Lib.hid hr2
          have HDY := Lib.hid hd2
          have HOB := Lib.hid ho2
          have hszY := Nat.le_trans hszX hk2.size
          have hXY := hk2.size
          clear hr2 hd2 ho2 hk2
          go_upto_region 15 with fail
          obtain ⟨Y2, hY2⟩ : ∃ Y2, Y2 = Y.alloc (.cells #[.int .u32 b1, .int .i64 b2, .slice bA m bc] 44) := ⟨_, rfl⟩
          obtain ⟨q6, hq6⟩ : ∃ q6, q6 = Y.heap.size := ⟨_, rfl⟩
          have hkY : Kept (fun _ => False) Y Y2 := by rw [hY2]; exact (Kept.refl _ Y).alloc _
          have h6 : Y2.heap[q6]? = some (.cells #[.int .u32 b1, .int .i64 b2, .slice bA m bc] 44 (0, 0)) := by rw [hY2, hq6]; exact heap_alloc_new Y _
          have h52 := (hkY.block q5 (Array.getElem?_eq_some_iff.1 H5Y.out).1 id).trans H5Y.out
          have HQ2 := Lib.hid ((hkY.block q (Array.getElem?_eq_some_iff.1 HQY.out).1 id).trans HQY.out)
          have HO2 := Lib.hid (HOY.out.run hkY)
          have HB2 := Lib.hid (below_then HBY.out HBY.out.size (hkY.below (Nat.le_refl _) (fun _ e => e.elim)))
          have HR2 := Lib.hid (HRY.out.kept hkY id)
          have HD2 := Lib.hid (HDY.out.kept hkY (fun _ _ _ => id))
          have hszY2 := Nat.le_trans hszY hkY.size
          have hYY := hkY.size
          rw [← hY2, ← hq6]
          obtain ⟨v0, v1, v2⟩ := cells3 h6
          obtain ⟨x0, x1, x2⟩ := cells3 h52
          have xf := frozen_of h52 1
          have H52 := Lib.hid h52
          have HFY := Lib.hid (show ∀ g, F g → g < Y2.heap.size from fun g hg => by have := HF.out g hg; have := HKX.out.size; omega)
          obtain ⟨l, l1, l2, l3⟩ := HO2.out.ex
          have L1 := Lib.hid l1
          have L2 := Lib.hid (show RW Y2 3 (.slice lA n lc) n (flatB l) by rw [← HN.out] at l2; exact l2)
          have L3 := Lib.hid l3
          have hn16 : n ≤ 1000000 := by have h1 := HBL.out; have h2 := HN.out; omega
          clear hY2 hq6 hkY h6 h52 l1 l2 l3
          go_wp2_with (first
            | (at_builtin
               refine wpList_row rfl (.tmp 47) (.tmp 49) 23 rfl 44 (.agg #[.int .u32 0, .int .i64 0, .slice none 0 0]) 3 40 Try.underlying23 info_block rfl (by omega) (.slice lA n lc) n (flatB l) rfl (L2.out.kept ((Kept.refl (fun _ => False) Y2).alloc _) (fun _ _ => id)) _ _ (flatB [((b1, b2, ms), .slice bA m bc)]) rfl (rd_blk Y2 _ _ _ _) (by intro u hu; simp [flatB] at hu; rcases hu with rfl | rfl | rfl <;> rfl) hn16 ?_
               intro v5 w5 hr5 hk5 hn5
               obtain ⟨A5, c5, rfl⟩ := hr5.shape
               have hne : ¬ isAt (.slice lA n lc) q5 := fun e => by have := HO2.out.own _ e; omega
               have x1' := ck hk5 (ck ((Kept.refl (fun _ => False) Y2).alloc _) x1 id) hne
               have xf' := (hk5.frozen (p := ⟨q5, 1, none⟩) (World.block_lt_of_cell? _ _ (ck ((Kept.refl (fun _ => False) Y2).alloc _) x1 id)) hne).trans ((((Kept.refl (fun _ => False) Y2).alloc _).frozen (p := ⟨q5, 1, none⟩) (World.block_lt_of_cell? _ _ x1) id).trans xf)
               have HR5 := Lib.hid hr5
               have HK5 := Lib.hid hk5
               have HN5 := Lib.hid hn5
               clear hr5 hk5 hn5))
          go_step3
          have hkv : Kept (isAt (.slice lA n lc)) Y2 w5 := Kept.trans (S := isAt (.slice lA n lc)) ((Kept.refl (isAt (.slice lA n lc)) Y2).alloc _) HK5.out (fun _ _ h => h)
          have hks : Kept (fun g => g = q5) w5 (w5.setCell ⟨q5, 1, none⟩ (.slice A5 (n + 1) c5)) := (Kept.refl (fun g => g = q5) w5).setCell (p := ⟨q5, 1, none⟩) (.inl rfl) _
          have hlo := HO2.out.own
          have hfb := HO2.out.fb
          have hln : bs.length = n := HN.out.symm
          obtain ⟨W4, hW4⟩ : ∃ W4, W4 = Y2.alloc (.cells #[.int .u32 b1, .int .i64 b2, .slice bA m bc] 44) := ⟨_, rfl⟩
          have hk4 : Kept (fun _ => False) Y2 W4 := by rw [hW4]; exact (Kept.refl _ Y2).alloc _
          have hk5 := HK5.out
          have hn5 := HN5.out
          rw [← hW4] at hk5 hn5
          have hO4 := HO2.out.run hk4
          have h4sz := hk4.size
          have h5sz := hk5.size
          have hpush := OB.push hO4 L1.out (fun x hx => by
            obtain ⟨A', c', e1, e2, e3⟩ := L3.out x hx
            exact ⟨A', c', e1, e2.kept hk4 (fun _ _ _ => id), e3⟩) (x := (b1, b2, ms)) (A := bA) (c := bc) (by omega) (by have h := HD2.out.kept hk4 (fun _ _ _ => id); rw [HM.out] at h; exact h) (fun o off e h0 => by
            have h1 := HOB.out o off e (by rw [HM.out]; exact h0)
            refine ⟨by omega, fun h2 => ?_⟩
            have := HOX.out.lt h2
            omega) (by have h := HR5.out; rw [HM.out] at h; rw [hln]; exact h) hk5 hn5 (fun g hg => by have := HFY.out g hg; omega)
          have hA5 : ∀ g, isAt (.slice A5 (n + 1) c5) g → W1.heap.size ≤ g := hpush.own
          have h5w := (hkv.block q5 (by omega) (fun e => by have := hlo _ e; omega)).trans H52.out
          have hrp := (HR2.out.kept hkv (fun e => by have := hlo _ e; omega)).kept hks (by omega)
          refine ⟨rfl, ⟨W1, q5, hq1, hq2, hq3, hq4, hq5, hq6, endB a m, bs ++ [(b1, b2, ms)], .slice A5 (n + 1) c5, _, rfl, rfl, rfl, rfl, rfl, rfl, hrp, ?_, HDL.out.1, ?_, hpush.kept hks (fun g hg e => by have := hA5 g hg; omega) (fun g hg e => by have := (hpush.fb g hg).1; omega), fun g hg => ?_, ?_, ?_, ?_, ?_, ?_⟩, ?_⟩
          · have := HA32.out
            unfold endB
            omega
          · simp [World.setCell, Array.getElem?_modify, h5w]
          · have hss := hks.size
            rcases hg with hg | ⟨h0, off, e⟩
            · have := HFY.out g hg; omega
            · obtain ⟨b', off', e', hlt, _⟩ := HD2.out.2 (by rw [HM.out]; exact h0)
              rw [e] at e'
              injection e' with e'
              injection e' with e' _
              omega
          · exact (hks.block q (by omega) (by omega)).trans ((hkv.block q (by omega) (fun e => by have := hlo _ e; omega)).trans HQ2.out)
          · rw [List.length_append, List.length_singleton, hln]
            have h1 := HBL.out
            have h2 := HLT.out
            omega
          · rw [HDE.out, HNX.out]
          · exact (Kept.trans (S := fun g => w.heap.size ≤ g) (Kept.of_below HB2.out) (Kept.trans (S := fun g => W1.heap.size ≤ g ∨ g = q5) (hkv.mono (fun g _ e => .inl (hlo g e))) hks (fun g _ e => .inr e)) (fun g _ e => by rcases e with e | e <;> omega)).below (Nat.le_refl _) (fun _ h => h)
          · have := hks.size; omega
          · have c1 := HR.out.cells.2.1
            have c2 := hrp.cells.2.1
            unfold muD
            rw [c1, c2]
            have h1 := HDL.out.1
            simp only [Option.getD_some, intOf]
            unfold endB at h1 ⊢
            omega
    · have hend : a + 32 = 8 * s.size := by have := HRr.out; have := HA.out; omega
      have HEND := Lib.hid hend
      clear hend
      go_wp2_with fail
      refine (get_fit 32 32 rfl HRX.out (by omega) (by have := HEND.out; omega) HS.out).mono ?_
      rintro e Y ⟨rfl, hr2, hk2⟩
      have h5y := (hk2.block q5 (Array.getElem?_eq_some_iff.1 H5X.out).1 (by omega)).trans H5X.out
      have hqy := (hk2.block q (Array.getElem?_eq_some_iff.1 HQX.out).1 (fun e => hq4 e.symm)).trans HQX.out
      obtain ⟨x0, x1, x2⟩ := cells3 h5y
      have xf := frozen_of h5y 2
      have H5Y := Lib.hid h5y
      have HQY := Lib.hid hqy
      have HKY := Lib.hid hk2
      clear h5y hqy hk2 hr2
      go_upto_region 17 with fail
      generalize hY2 : World.setCell Y _ _ = Y2
      have hk5 : Kept (fun g => g = q5) Y Y2 := by rw [← hY2]; exact (Kept.refl (fun g => g = q5) Y).setCell (p := ⟨q5, 2, none⟩) (.inl rfl) _
      have h52 : Y2.heap[q5]? = some (.cells #[.int .u32 (val s 0 32), .slice lA n lc, .int .u32 (val s a 32)] 25 (0, 0)) := by
        have h1 := H5Y.out
        rw [← hY2]
        simp [World.setCell, Array.getElem?_modify, h1]
      have hq2 := (hk5.block q (Array.getElem?_eq_some_iff.1 HQY.out).1 (by omega)).trans HQY.out
      have HK2 := Lib.hid (show Kept (fun g => g = p ∨ g = q5) X Y2 from Kept.trans (S := fun g => g = p ∨ g = q5) (HKY.out.mono (fun _ _ e => .inl e)) hk5 (fun _ _ e => .inr e))
      obtain ⟨x0, x1, x2⟩ := cells3 h52
      obtain ⟨z0, z1, z2⟩ := cells3 hq2
      have e0 := frozen_of hq2 0
      have e1 := frozen_of hq2 1
      have e2 := frozen_of hq2 2
      have HQ2 := Lib.hid hq2
      clear hY2 hk5 h52 hq2
      go_wp2_with fail
      simp only [Exit.jump]
      refine ret_decode (u := .int .i64 0) (stored3 HQ2.out) ?_ ?_ ?_ ?_
      · rfl
      · rfl
      · rfl
      · have hd : decC s = ((val s 0 32, bs, val s a 32), 0) := by rw [HDC.out, HDE.out, decBs_end HBL.out (by have := HEND.out; omega)]; rfl
        unfold DecPost
        rw [hd]
        have hks := kept_store3 (S := fun g => g = p ∨ g = q5 ∨ g = q) (HK2.out.mono (fun _ _ e => by rcases e with e | e; exact .inl e; exact .inr (.inl e))) (.inl (.inr (.inr rfl))) (.int .u32 (val s 0 32)) (.slice lA n lc) (.int .u32 (val s a 32))
        have hob := HOX.out
        rw [HN.out] at hob hks ⊢
        have hob2 := hob.kept hks (fun g hg e => by have := hob.own g hg; omega) (fun g hg e => by have := (hob.fb g hg).1; omega)
        exact ⟨_, rfl, ⟨lA, lc, rfl, hob2.blks⟩, (Kept.trans (S := fun g => w.heap.size ≤ g) (Kept.of_below HBX.out) hks (fun g _ e => by omega)).below (Nat.le_refl _) (fun _ h => h)⟩
  · intro hp
    have hpl : p < V.heap.size := HRV.out.lt
    have hqV := (HKV.out.block q (Array.getElem?_eq_some_iff.1 HQ0.out).1 id).trans HQ0.out
    have HQV := Lib.hid hqV
    have hpq : p ≠ q := by have := HP.out; have := (Array.getElem?_eq_some_iff.1 HQ0.out).1; omega
    have HBV := Lib.hid (show Below w.heap.size w V from (HK0.out.trans HKV.out (fun _ _ e => e)).below (Nat.le_refl _) (fun _ e => e.elim))
    have hqw : w.heap.size ≤ q := by rw [HE.out]; exact Nat.le_refl _
    have hpw : w.heap.size ≤ p := by rw [HP.out]; exact HK0.out.size
    have HPI := Lib.hid hp
    clear hqV hp
    go_upto_region 7 with fail
    go_wp2_with fail
    refine HRD.out.mono ?_
    rintro e V' ⟨rfl, hVV⟩
    rw [hVV]
    clear hVV
    go_upto_region 8 with fail
    go_cut [5] (fun s5 wx => ∃ q5, s5 = .pointer (some ⟨q5, 0, none⟩) ∧ V.heap.size ≤ q5 ∧ q5 < wx.heap.size ∧ RR 72 wx p s 32 false ∧ wx.heap[q5]? = some (.cells #[.int .u32 (val s 0 32), .slice none 0 0, .int .u32 0] 25 (0, 0)) ∧ Kept (fun k => k = p) V wx)
    case first =>
      go_wp2_with fail
      refine (get_fit 32 32 rfl HRV.out (by omega) (by have := HS8.out; omega) HS.out).mono ?_
      rintro e Y ⟨rfl, hr2, hk2⟩
      have HR2 := Lib.hid hr2
      have HK2 := Lib.hid hk2
      clear hr2 hk2
      go_wp2_with fail
      go_meet
      have hka : Kept (fun _ => False) Y (Y.alloc (.cells #[.int .u32 (val s 0 32), .slice none 0 0, .int .u32 0] 25)) := (Kept.refl _ Y).alloc _
      exact ⟨Y.heap.size, rfl, HK2.out.size, by simp, HR2.out.kept hka id, heap_alloc_new Y _, HK2.out.trans hka (fun _ _ e => e.elim)⟩
    case rest =>
    obtain ⟨q5, rfl, hq5V, hq5l, hr5, h5, hk5⟩ := hcut
    rename World => X
    have hqX := (hk5.block q (Array.getElem?_eq_some_iff.1 HQV.out).1 (fun e => hpq e.symm)).trans HQV.out
    have hqVl := (Array.getElem?_eq_some_iff.1 HQV.out).1
    rename_i K hK
    refine hK _ _ (HPI.out _ _ ⟨X, q5, hq5l, by omega, by omega, hpq, hqw, hpw, 32, [], .slice none 0 0, fun _ => False, rfl, rfl, rfl, rfl, rfl, rfl, hr5, rfl, by have := HS8.out; omega, h5, OB.nil _ _, fun g hg => hg.elim, hqX, Nat.zero_le _, rfl, ?_, Nat.le_refl _⟩)
    exact (Kept.trans (S := fun g => w.heap.size ≤ g) (Kept.of_below HBV.out) hk5 (fun g _ e => by omega)).below (Nat.le_refl _) (fun _ h => h)
/-- What Decode tells of a body that cannot be. -/
theorem decode_bad (s : ByteArray) (w : World) (h : 65536 < s.size ∨ s.size % 4 ≠ 0 ∨ s.size < 8) : Calls Try.prog 16 #[.string s] w (DecPost s w) := by
  have HD := Lib.hid (show (65536 < s.size ∧ decC s = (zeroC, 2)) ∨ (¬ 65536 < s.size ∧ s.size % 4 ≠ 0 ∧ decC s = (zeroC, 90)) ∨ (¬ 65536 < s.size ∧ s.size % 4 = 0 ∧ s.size < 8 ∧ decC s = (zeroC, 60)) by
    unfold decC
    by_cases h1 : 65536 < s.size
    · exact .inl ⟨h1, by rw [if_pos h1]⟩
    · by_cases h2 : s.size % 4 ≠ 0
      · exact .inr (.inl ⟨h1, h2, by rw [if_neg h1, if_pos h2]⟩)
      · have h3 : s.size < 8 := by omega
        exact .inr (.inr ⟨h1, by omega, h3, by rw [if_neg h1, if_neg h2, if_pos h3]⟩))
  obtain ⟨Z, hZ⟩ : ∃ Z : Int, Z = (s.size : Int) := ⟨_, rfl⟩
  have HZ := Lib.hid hZ
  have hsz : (s.size : Int) = Z := hZ.symm
  have hz0 : 0 ≤ Z := by omega
  obtain ⟨q, hq⟩ : ∃ q, q = w.heap.size := ⟨_, rfl⟩
  obtain ⟨W0, hW0⟩ : ∃ W0, W0 = w.alloc (.cells #[.int .u32 0, .slice none 0 0, .int .u32 0] 25) := ⟨_, rfl⟩
  have hqc : W0.heap[q]? = some (.cells #[.int .u32 0, .slice none 0 0, .int .u32 0] 25 (0, 0)) := by rw [hW0, hq]; exact heap_alloc_new w _
  have HQ0 := Lib.hid hqc
  have HK0 := Lib.hid (show Below w.heap.size w (((W0.setCell ⟨q, 0, none⟩ (.int .u32 0)).setCell ⟨q, 1, none⟩ (.slice none 0 0)).setCell ⟨q, 2, none⟩ (.int .u32 0)) by
    have h1 : Kept (fun g => w.heap.size ≤ g) w W0 := by rw [hW0]; exact (Kept.refl _ w).alloc _
    exact (kept_store3 h1 (.inr (by omega)) _ _ _).below (Nat.le_refl _) (fun _ h => h))
  obtain ⟨z0, z1, z2⟩ := cells3 hqc
  have e0 := frozen_of hqc 0
  have e1 := frozen_of hqc 1
  have e2 := frozen_of hqc 2
  have HE := Lib.hid hq
  have HW0 := Lib.hid hW0
  have hcase : 65536 < Z ∨ (Z ≤ 65536 ∧ (Z % 4 == 0) = false) ∨ (Z ≤ 65536 ∧ (Z % 4 == 0) = true ∧ Z < 8) := by
    simp only [beq_eq_false_iff_ne, beq_iff_eq]
    omega
  clear hqc hq hW0 hZ h
  rcases hcase with h1 | ⟨h1, h2⟩ | ⟨h1, h2, h3⟩
  · have hd : decC s = (zeroC, 2) := by
      have := HZ.out
      rcases HD.out with ⟨g1, h⟩ | ⟨g1, g2, h⟩ | ⟨g1, g2, g3, h⟩
      · exact h
      · omega
      · omega
    have HDD := Lib.hid hd
    clear hd
    go_enter Try.func16, Try.ntmps16
    go_wp2
    rw [← HW0.out, ← HE.out]
    go_step3
    go_wp2_with fail
    rw [Exit.noGoto_ret]
    refine ret_decode (u := .int .i64 2) (stored3 HQ0.out) ?_ ?_ ?_ ?_
    · rfl
    · rfl
    · rfl
    · exact dec_zero HDD.out HK0.out
  · have hd : decC s = (zeroC, 90) := by
      have := HZ.out
      have h2' : ¬ Z % 4 = 0 := by simpa using h2
      rcases HD.out with ⟨g1, h⟩ | ⟨g1, g2, h⟩ | ⟨g1, g2, g3, h⟩
      · omega
      · exact h
      · omega
    have HDD := Lib.hid hd
    clear hd
    go_enter Try.func16, Try.ntmps16
    go_wp2
    rw [← HW0.out, ← HE.out]
    go_step3
    go_wp2_with fail
    rw [Exit.noGoto_ret]
    refine ret_decode (u := .int .i64 90) (stored3 HQ0.out) ?_ ?_ ?_ ?_
    · rfl
    · rfl
    · rfl
    · exact dec_zero HDD.out HK0.out
  · have hd : decC s = (zeroC, 60) := by
      have := HZ.out
      have h2' : Z % 4 = 0 := by simpa using h2
      rcases HD.out with ⟨g1, h⟩ | ⟨g1, g2, h⟩ | ⟨g1, g2, g3, h⟩
      · omega
      · omega
      · exact h
    have HDD := Lib.hid hd
    clear hd
    go_enter Try.func16, Try.ntmps16
    go_wp2
    rw [← HW0.out, ← HE.out]
    go_step3
    go_wp2_with fail
    rw [Exit.noGoto_ret]
    refine ret_decode (u := .int .i64 60) (stored3 HQ0.out) ?_ ?_ ?_ ?_
    · rfl
    · rfl
    · rfl
    · exact dec_zero HDD.out HK0.out
theorem decode_any (s : ByteArray) (w : World) : Calls Try.prog 16 #[.string s] w (DecPost s w) := by
  by_cases h : 65536 < s.size ∨ s.size % 4 ≠ 0 ∨ s.size < 8
  · exact decode_bad s w h
  · exact decode_main s w (by omega) (by omega) (by omega)
end Go.Proofs.Ytmkaflfhmpddbaa.Ccfb
