/- What Large and Copy tell; no condition but the ranges in each. -/
import Derived.Test.YtmkaflfhmpddbaaCcfbOwn
import Derived.Test.YtmkaflfhmpddbaaCcfbSame
namespace Go.Proofs.Ytmkaflfhmpddbaa.Ccfb
open Go.RowKit Go.Proofs.Ytmkaflfhmpddbaa.Plain Go.Proofs.Ytmkaflfhmpddbaa.Heap Go.Proofs.Ytmkaflfhmpddbaa.Open Go.Proofs.Ytmkaflfhmpddbaa.Rows Go.Proofs.Ytmkaflfhmpddbaa.Bits

def Larged (r : Rep) (w : World) (e : Ending) (w' : World) : Prop := ∃ b, e = .returned (.bool b) ∧ (b = false → small r) ∧ Below w.heap.size w w'
set_option maxRecDepth 10000 in
set_option maxHeartbeats 4000000 in
theorem large_any (v : Value) (r : Rep) (w : World) (h : CR w v r) :
    Calls Try.prog 8 #[v] w fun e w' => Larged r w e w' := by
  obtain ⟨A, c, rfl, hbl⟩ := h
  obtain ⟨sn, bs, st⟩ := r
  simp only at hbl
  obtain ⟨n, hn⟩ : ∃ n, n = bs.length := ⟨_, rfl⟩
  simp only [← hn] at hbl ⊢
  have HB := Lib.hid hbl
  have HN := Lib.hid hn
  clear hbl hn
  obtain ⟨b0, hb0⟩ : ∃ b0, b0 = w.heap.size := ⟨_, rfl⟩
  obtain ⟨W0, hW0⟩ : ∃ W0, W0 = w.alloc (.cells #[.int .u32 sn, .slice A n c, .int .u32 st] 25) := ⟨_, rfl⟩
  have hbx := heap_alloc_new w (.cells #[.int .u32 sn, .slice A n c, .int .u32 st] 25)
  rw [← hW0, ← hb0] at hbx
  have HW0 := Lib.hid (show Below w.heap.size w W0 by rw [hW0]; exact (Below.refl _ w).alloc (Nat.le_refl _) _)
  obtain ⟨_, bx1, _⟩ := cells3 hbx
  have BX1 := Lib.hid bx1
  have hb0l : b0 < W0.heap.size := World.block_lt_of_cell? _ _ bx1
  have HE0 := Lib.hid hb0
  have HE1 := Lib.hid hW0
  clear hbx hb0 hW0
  by_cases hlong : 40 < (n : Int)
  · go_enter Try.func8, Try.ntmps8
    go_wp2_with fail
    go_ret
    exact ⟨true, rfl, (fun e => nomatch e), (by have h := HW0.out; rw [HE1.out] at h; exact h)⟩
  · go_enter Try.func8, Try.ntmps8
    go_upto_region 1 with fail
    rw [← HE1.out, ← HE0.out]
    go_wp2_with fail
    go_loopw [3, 4] (fun sv iv wx => ∃ (i Z : Nat), (i : Int) ≤ (n : Int) ∧ iv = .int .i64 (i : Int) ∧ sv = .int .i64 (Z : Int) ∧ Z ≤ 5000 * i ∧ (∀ b ∈ bs.take i, b.2.2.length ≤ 5000) ∧ Below W0.heap.size W0 wx) (fun _ iv _ => ((n : Int) - intOf iv).toNat)
    case atStart => exact ⟨0, 0, by omega, rfl, rfl, by omega, by simp, Below.refl _ _⟩
    case round =>
      obtain ⟨i, Z, hi, rfl, rfl, hz, hall, hbw⟩ := hrel
      have HA := Lib.hid hall
      have HW := Lib.hid hbw
      have HWw := Lib.hid (below_then HW0.out HW0.out.size hbw)
      have t1 := (hbw.cell (p := ⟨b0, 1, none⟩) hb0l).trans BX1.out
      have hz' : (Z : Int) ≤ 5000 * (i : Int) := by omega
      clear hall hbw hz
      by_cases hil : (i : Int) < (n : Int)
      · obtain ⟨g, off, x, rfl, hg, hx, hxm, y0, y1, MA, mc, y2, hrd⟩ := (HB.out.below HWw.out).at (i := i) (by omega)
        obtain ⟨m, hm⟩ : ∃ m, m = x.2.2.length := ⟨_, rfl⟩
        rw [← hm] at y2
        have HM := Lib.hid hm
        have HX := Lib.hid hx
        clear hm hx hxm hrd y0 y1
        by_cases hml : 5000 < (m : Int)
        · go_wp2_with fail
          go_ret
          exact ⟨true, rfl, (fun e => nomatch e), HWw.out⟩
        · go_wp2_with fail
          go_roundw
          case rel =>
            refine ⟨i + 1, Z + m, by omega, by go_num, by go_num, by omega, fun b hb => ?_, HW.out⟩
            obtain ⟨hl, he⟩ := List.getElem?_eq_some_iff.1 HX.out
            rw [List.take_succ_eq_append_getElem hl] at hb
            rcases List.mem_append.1 hb with hb | hb
            · exact HA.out b hb
            · simp at hb
              rw [hb, he, ← HM.out]
              omega
          case measure => exact measN n i hil
      · have hin : i = n := by omega
        have hsm : small (sn, bs, st) := by
          have h1 := HA.out
          rw [hin, HN.out, List.take_length] at h1
          refine ⟨by show bs.length ≤ 1000; have := HN.out; omega, fun b hb => by have := h1 b hb; omega⟩
        have HS := Lib.hid hsm
        clear hsm
        go_wp2_with fail
        go_ret
        refine ⟨decide (40000 < (Z : Int)), ?_⟩
        exact And.intro rfl (And.intro (fun _ => HS.out) HWw.out)
theorem ccfb_size : (Try.prog.info? 25).map (·.size) = some 3 := by kernel_rfl
theorem stored3 {w : World} {b : Nat} {x y z u1 u2 u3 : Value} {t : TypeId} (h : w.heap[b]? = some (.cells #[x, y, z] t (0, 0))) : (((w.setCell ⟨b, 0, none⟩ u1).setCell ⟨b, 1, none⟩ u2).setCell ⟨b, 2, none⟩ u3).heap[b]? = some (.cells #[u1, u2, u3] t (0, 0)) := by
  simp [World.setCell, Array.getElem?_modify, h]
theorem ret_copy {R : Ending → World → Prop} {a : Act} {w : World} {b : Nat} {x y z : Value} (h : w.heap[b]? = some (.cells #[x, y, z] 25 (0, 0))) (ha : a.tmps.getD 2 undef = .pointer (some ⟨b, 0, none⟩)) (hd : a.defers = []) (hR : R (.returned (.agg #[x, y, z])) w) :
    bodyPost Try.prog Try.f10 R .ret a w :=
  bodyPost_ret (results_cell_row (P := Try.prog) rfl a.tmps w b _ _ _ _ ha h Try.underlying25 rfl ccfb_size) hd hR
theorem take_push {α : Type} {l : List α} {i : Nat} {x : α} (h : l[i]? = some x) : l.take (i + 1) = l.take i ++ [x] := by
  obtain ⟨hi, rfl⟩ := List.getElem?_eq_some_iff.1 h
  exact List.take_succ_eq_append_getElem hi
theorem rd_blk (w : World) (t : TypeId) (x y z : Value) : Rd (w.alloc (.cells #[x, y, z] t)) 3 (some ⟨w.heap.size, 0, none⟩) 1 [x, y, z] :=
  Rd.block (w := w.alloc (.cells #[x, y, z] t)) (heap_alloc_new w (.cells #[x, y, z] t)) (sz := 3) (n := 1) (by simp)
theorem frozen_of {w : World} {b : Nat} {cs : Array Value} {t : TypeId} (h : w.heap[b]? = some (.cells cs t (0, 0))) (i : Nat) : w.frozen? ⟨b, i, none⟩ = false := by simp [World.frozen?, h]
set_option maxRecDepth 10000 in
set_option maxHeartbeats 4000000 in
theorem copy_any (v : Value) (r : Rep) (w : World) (h : CR w v r) (hs : small r) :
    Calls Try.prog 10 #[v] w fun e w' => ∃ v', e = .returned v' ∧ CR w' v' r ∧ Below w.heap.size w w' := by
  obtain ⟨A, c, rfl, hbl⟩ := h
  obtain ⟨sn, bs, st⟩ := r
  simp only at hbl
  obtain ⟨n, hn⟩ : ∃ n, n = bs.length := ⟨_, rfl⟩
  simp only [← hn] at hbl ⊢
  have HB := Lib.hid hbl
  have HN := Lib.hid hn
  have HSM := Lib.hid hs.2
  have hn3 : (n : Int) ≤ 1000 := by have := hs.1; simp only at this; omega
  clear hbl hn hs
  go_enter Try.func10, Try.ntmps10
  go_wp2_with fail
  obtain ⟨b0, hb0⟩ : ∃ b0, b0 = w.heap.size := ⟨_, rfl⟩
  simp only [← hb0]
  generalize hW0 : World.alloc (World.alloc w _) _ = W0
  have hbx := heap_alloc_new w (.cells #[.int .u32 sn, .slice A n c, .int .u32 st] 25)
  have hby := heap_alloc_new (w.alloc (.cells #[.int .u32 sn, .slice A n c, .int .u32 st] 25)) (.cells #[.int .u32 0, .slice none 0 0, .int .u32 0] 25)
  have hbz := Below.heap_alloc (w.alloc (.cells #[.int .u32 sn, .slice A n c, .int .u32 st] 25)) (.cells #[.int .u32 0, .slice none 0 0, .int .u32 0] 25) w.heap.size (by simp)
  rw [hW0] at hby hbz
  rw [hbx] at hbz
  rw [World.size_alloc] at hby
  rw [← hb0] at hby hbz
  have HX0 := Lib.hid hbz
  have HY0 := Lib.hid hby
  have HW0 := Lib.hid (show Below w.heap.size w W0 by rw [← hW0]; exact ((Below.refl _ w).alloc (Nat.le_refl _) _).alloc (by simp) _)
  obtain ⟨bx0, bx1, bx2⟩ := cells3 hbz
  have BX1 := Lib.hid bx1
  have hb0l : b0 < W0.heap.size := World.block_lt_of_cell? _ _ bx1
  have HBS := Lib.hid hb0
  clear hW0 hbx hby hbz bx0 bx1 bx2 hb0
  go_loopw [3, 4] (fun lv iv wx => ∃ (i : Nat) (F : Nat → Prop), (i : Int) ≤ (n : Int) ∧ iv = .int .i64 (i : Int) ∧ OB W0.heap.size F wx lv (bs.take i) ∧ (∀ g, F g → g < wx.heap.size) ∧ Below W0.heap.size W0 wx) (fun _ iv _ => ((n : Int) - intOf iv).toNat)
  case atStart => exact ⟨0, _, by omega, rfl, OB.nil _ _, fun g hg => hg.elim, Below.refl _ _⟩
  case round =>
    obtain ⟨i, F, hi, rfl, hob, hF, hbw⟩ := hrel
    have HO := Lib.hid hob
    have HFl := Lib.hid hF
    have HW := Lib.hid hbw
    have HWw := Lib.hid (below_then HW0.out HW0.out.size hbw)
    have t1 := (hbw.cell (p := ⟨b0, 1, none⟩) hb0l).trans BX1.out
    clear hob hF hbw
    by_cases hil : (i : Int) < (n : Int)
    · obtain ⟨g, off, x, rfl, hg, hx, hxm, y0, y1, MA, mc, y2, hrd⟩ := (HB.out.below HWw.out).at (i := i) (by omega)
      have hxl : (bs.take i).length = i := by rw [List.length_take, ← HN.out]; omega
      have HTP := Lib.hid (take_push hx)
      have hm5 := HSM.out x hxm
      obtain ⟨ss, fi, ms⟩ := x
      simp only at y0 y1 y2 hrd hm5
      obtain ⟨m, hm⟩ : ∃ m, m = ms.length := ⟨_, rfl⟩
      rw [← hm] at y2 hm5 hrd
      have hm5' : m ≤ 1000000 := by omega
      have HM := Lib.hid hm
      have HRD := Lib.hid hrd
      have HXL := Lib.hid hxl
      obtain ⟨lA, lc, rfl⟩ : ∃ lA lc, u3 = .slice lA i lc := by have h := HO.out.shape; rw [hxl] at h; exact h
      clear hm hx hxm hrd hm5 hxl
      go_upto_region 6 with fail
      obtain ⟨q, hq⟩ : ∃ q, q = wr.heap.size := ⟨_, rfl⟩
      rw [← hq]
      generalize hW : World.alloc wr _ = W
      have hwW : Below wr.heap.size wr W := by rw [← hW]; exact (Below.refl _ wr).alloc (Nat.le_refl _) _
      have hqc : W.heap[q]? = some (.cells #[.int .u32 ss, .int .i64 fi, .slice MA m mc] 44 (0, 0)) := by rw [← hW, hq]; exact heap_alloc_new wr _
      obtain ⟨z0, z1, z2⟩ := cells3 hqc
      have zf := frozen_of hqc 2
      have hql : q < W.heap.size := World.block_lt_of_cell? _ _ z0
      have HWW := Lib.hid hwW
      have HQC := Lib.hid hqc
      have HQ := Lib.hid hq
      have HR := Lib.hid (HRD.out.below hwW)
      clear hW hwW hqc hq y0 y1 y2
      have HE0 := Lib.hid (show RW (W.alloc (.cells #[] 47)) 3 (.slice (some ⟨W.heap.size, 0, none⟩) 0 0) 0 [] from RW.fresh0 W _ 3)
      go_upto_region 7 with (first
        | (at_builtin
           refine wpList_src rfl (.tmp 18) (.tmp 20) 42 42 rfl 47 (.agg #[.bool false, .int .i64 0, .int .i64 0]) 3 24 Try.underlying42 info_metric rfl (by omega) W.heap.size 0 0 0 [] rfl HE0.out (.slice MA m mc) m (flatM ms) rfl (rd_src Try.underlying42 (HR.out.kept ((Kept.refl (fun _ => False) W).alloc _) (fun _ _ _ => id)) (flatM_one _)) (by omega) ?_
           intro v3 w3 hr3 hk3 hn3
           simp only [Nat.zero_add, List.nil_append] at hr3
           obtain ⟨A3, c3, rfl⟩ := hr3.shape
           have HR3 := Lib.hid hr3
           have hka : Kept (fun _ => False) W w3 := Kept.trans (S := fun _ => False) ((Kept.refl _ W).alloc _) hk3 (fun g hg e => by omega)
           have HA3 := Lib.hid (show ∀ b, isAt (.slice A3 m c3) b → W.heap.size ≤ b from fun b e => by
             have h1 := hn3 b e
             simp at h1
             omega)
           have HK3 := Lib.hid hka
           have z0' := ck hka z0 id
           have z1' := ck hka z1 id
           have z2' := ck hka z2 id
           have zf' := (hka.frozen (p := ⟨q, 2, none⟩) hql id).trans zf
           clear hr3 hk3 hn3 hka))
      generalize hS : World.setCell w3 _ _ = W3
      have hq3 : Kept (fun g => g = q) w3 W3 := by rw [← hS]; exact (Kept.refl (fun g => g = q) w3).setCell (p := ⟨q, 2, none⟩) (.inl rfl) _
      have hqs : W3.heap[q]? = some (.cells #[.int .u32 ss, .int .i64 fi, .slice A3 m c3] 44 (0, 0)) := by
        have h1 := (HK3.out.block q hql id).trans HQC.out
        rw [← hS]
        simp [World.setCell, Array.getElem?_modify, h1]
      obtain ⟨s0, s1, s2⟩ := cells3 hqs
      have hWr : Kept (fun _ => False) wr W3 := Kept.trans (S := fun _ => False) (below_kept HWW.out) (Kept.trans (S := fun g => g = q) (HK3.out.mono (S' := fun g => g = q) (fun _ _ e => e.elim)) hq3 (fun _ _ h => h)) (fun g hg e => by have := HQ.out; omega)
      have HO4 := Lib.hid (HO.out.run hWr)
      have HR4 := Lib.hid (HR3.out.kept hq3 (fun g hg e => by have := HA3.out g hg; omega))
      have HK4 := Lib.hid hWr
      obtain ⟨l, l1, l2, l3⟩ := HO4.out.ex
      have L1 := Lib.hid l1
      have L2 := Lib.hid (show RW W3 3 (.slice lA i lc) i (flatB l) by rw [HXL.out] at l2; exact l2)
      have L3 := Lib.hid l3
      clear hS hq3 hqs hWr l1 l2 l3 z0' z1' z2' zf' z0 z1 z2 zf
      go_wp2_with (first
        | (at_builtin
           refine wpList_row rfl (.tmp 23) (.tmp 25) 23 rfl 44 (.agg #[.int .u32 0, .int .i64 0, .slice none 0 0]) 3 40 Try.underlying23 info_block rfl (by omega) (.slice lA i lc) i (flatB l) rfl (L2.out.kept ((Kept.refl (fun _ => False) W3).alloc _) (fun _ _ => id)) _ _ (flatB [((ss, fi, ms), .slice A3 m c3)]) rfl (rd_blk W3 _ _ _ _) (by intro u hu; simp [flatB] at hu; rcases hu with rfl | rfl | rfl <;> rfl) (by omega) ?_
           intro v5 w5 hr5 hk5 hn5
           have HR5 := Lib.hid hr5
           have HK5 := Lib.hid hk5
           have HN5 := Lib.hid hn5
           clear hr5 hk5 hn5))
      go_roundw
      case rel =>
        have hs4 := HK4.out.size
        have hsW := HWW.out.size
        have hs0 := HW.out.size
        obtain ⟨W4, hW4⟩ : ∃ W4, W4 = W3.alloc (.cells #[.int .u32 ss, .int .i64 fi, .slice A3 m c3] 44) := ⟨_, rfl⟩
        have hk4 : Kept (fun _ => False) W3 W4 := by rw [hW4]; exact (Kept.refl _ W3).alloc _
        have hk5 := HK5.out
        have hn5 := HN5.out
        rw [← hW4] at hk5 hn5
        have hsz4 := hk4.size
        have hsz5 := hk5.size
        have hO4 := HO4.out.run hk4
        refine ⟨i + 1, fun g => F g ∨ (0 < ms.length ∧ ∃ off, A3 = some ⟨g, off, none⟩), by omega, by go_num, ?_, fun g hg => ?_, ?_⟩
        · rw [HTP.out]
          refine OB.push hO4 L1.out (fun x hx => ?_) (x := (ss, fi, ms)) (A := A3) (c := c3) (by omega) (by have h := (HR4.out.kept hk4 (fun _ _ => id)).rd; rw [HM.out] at h; exact h) (fun b off e h0 => ?_) (by have h := HR5.out; rw [HM.out] at h; rw [HXL.out]; exact h) hk5 hn5 (fun g hg => by have := HFl.out g hg; omega)
          · obtain ⟨A', c', e1, e2, e3⟩ := L3.out x hx
            exact ⟨A', c', e1, e2.kept hk4 (fun _ _ _ => id), e3⟩
          have h1 := HA3.out b ⟨off, m, c3, by rw [e]⟩
          refine ⟨by omega, fun h2 => ?_⟩
          have := HO.out.lt h2
          omega
        · rcases hg with hg | ⟨_, off, e⟩
          · have := HFl.out g hg; omega
          · have := HR4.out.lt (g := g) ⟨off, m, c3, by rw [e]⟩; omega
        · have h1 := HW.out
          have h2 : Kept (fun g => W0.heap.size ≤ g) W0 w5 := Kept.trans (S := fun g => W0.heap.size ≤ g) (Kept.of_below h1) (Kept.trans (S := fun g => W0.heap.size ≤ g) (HK4.out.mono (fun _ _ e => e.elim)) (Kept.trans (S := fun g => W0.heap.size ≤ g) (hk4.mono (fun _ _ e => e.elim)) hk5 (fun g _ hg => HO.out.own g hg)) (fun _ _ h => h)) (fun _ _ h => h)
          exact h2.below (Nat.le_refl _) (fun _ h => h)
      case measure => exact measN n i hil
    · have hin : i = n := by omega
      have hall : bs.take i = bs := by rw [hin, HN.out]; exact List.take_length
      rw [hall] at HO
      obtain ⟨lA, lc, rfl⟩ : ∃ lA lc, u3 = .slice lA n lc := by have h := HO.out.shape; rw [← HN.out] at h; exact h
      have hy0l : b0 + 1 < W0.heap.size := (Array.getElem?_eq_some_iff.1 HY0.out).1
      have hx := (HW.out.block b0 hb0l).trans HX0.out
      have hy := (HW.out.block (b0 + 1) hy0l).trans HY0.out
      obtain ⟨p0, p1, p2⟩ := cells3 hx
      obtain ⟨o0, o1, o2⟩ := cells3 hy
      have pf := frozen_of hx 1
      have of0 := frozen_of hy 0
      have of1 := frozen_of hy 1
      have of2 := frozen_of hy 2
      have HX := Lib.hid hx
      have HY := Lib.hid hy
      clear hx hy hall t1
      go_upto_region 9 with fail
      generalize hS : World.setCell wr _ _ = X
      have hkx : Kept (fun g => g = b0) wr X := by rw [← hS]; exact (Kept.refl (fun g => g = b0) wr).setCell (p := ⟨b0, 1, none⟩) (.inl rfl) _
      have hxs : X.heap[b0]? = some (.cells #[.int .u32 sn, .slice lA n lc, .int .u32 st] 25 (0, 0)) := by
        have h1 := HX.out
        rw [← hS]
        simp [World.setCell, Array.getElem?_modify, h1]
      have hys : X.heap[b0 + 1]? = some (.cells #[.int .u32 0, .slice none 0 0, .int .u32 0] 25 (0, 0)) := (hkx.block (b0 + 1) (by have := HW.out.size; omega) (by omega)).trans HY.out
      obtain ⟨r0, r1, r2⟩ := cells3 hxs
      obtain ⟨s0, s1, s2⟩ := cells3 hys
      have sf0 := frozen_of hys 0
      have sf1 := frozen_of hys 1
      have sf2 := frozen_of hys 2
      have HYS := Lib.hid hys
      have HKX := Lib.hid hkx
      clear hS hkx hxs hys p0 p1 p2 o0 o1 o2 pf of0 of1 of2
      go_wp2_with fail
      (try simp only [Exit.inBlock, Exit.then])
      refine ret_copy (stored3 HYS.out) ?_ ?_ ?_
      · rfl
      · rfl
      have hk : Kept (fun g => W0.heap.size ≤ g ∨ g = b0 ∨ g = b0 + 1) W0 (((X.setCell ⟨b0 + 1, 0, none⟩ (.int .u32 sn)).setCell ⟨b0 + 1, 1, none⟩ (.slice lA n lc)).setCell ⟨b0 + 1, 2, none⟩ (.int .u32 st)) :=
        (((Kept.trans (S := fun g => W0.heap.size ≤ g ∨ g = b0 ∨ g = b0 + 1) ((Kept.of_below HW.out)) HKX.out (fun _ _ e => .inr (.inl e))).setCell (p := ⟨b0 + 1, 0, none⟩) (.inl (.inr (.inr rfl))) _).setCell (p := ⟨b0 + 1, 1, none⟩) (.inl (.inr (.inr rfl))) _).setCell (p := ⟨b0 + 1, 2, none⟩) (.inl (.inr (.inr rfl))) _
      have hkb : Kept (fun g => g = b0 ∨ g = b0 + 1) wr (((X.setCell ⟨b0 + 1, 0, none⟩ (.int .u32 sn)).setCell ⟨b0 + 1, 1, none⟩ (.slice lA n lc)).setCell ⟨b0 + 1, 2, none⟩ (.int .u32 st)) :=
        (((HKX.out.mono (S' := fun g => g = b0 ∨ g = b0 + 1) (fun _ _ e => .inl e)).setCell (p := ⟨b0 + 1, 0, none⟩) (.inl (.inr rfl)) _).setCell (p := ⟨b0 + 1, 1, none⟩) (.inl (.inr rfl)) _).setCell (p := ⟨b0 + 1, 2, none⟩) (.inl (.inr rfl)) _
      refine ⟨_, rfl, ⟨lA, lc, by rw [← HN.out], ?_⟩, ?_⟩
      · have h1 := HO.out
        rw [HN.out] at h1
        exact (h1.kept hkb (fun g hg e => by have := h1.own g hg; rcases e with e | e <;> omega) (fun g hg e => by have := (h1.fb g hg).1; rcases e with e | e <;> omega)).blks
      · have hs0 := HW0.out.size
        have hbs := HBS.out
        exact (Kept.trans (S := fun g => w.heap.size ≤ g) (Kept.of_below HW0.out) hk (fun i _ e => by rcases e with e | e | e <;> omega)).below (Nat.le_refl _) (fun _ h => h)
end Go.Proofs.Ytmkaflfhmpddbaa.Ccfb
