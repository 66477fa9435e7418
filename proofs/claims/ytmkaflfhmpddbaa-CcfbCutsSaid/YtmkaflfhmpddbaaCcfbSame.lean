/- What Same, Large and Copy tell; no condition but the ranges in each. -/
import Derived.Test.YtmkaflfhmpddbaaCcfbEnc
namespace Go.Proofs.Ytmkaflfhmpddbaa.Ccfb
open Go.RowKit Go.Proofs.Ytmkaflfhmpddbaa.Plain Go.Proofs.Ytmkaflfhmpddbaa.Heap Go.Proofs.Ytmkaflfhmpddbaa.Open Go.Proofs.Ytmkaflfhmpddbaa.Rows Go.Proofs.Ytmkaflfhmpddbaa.Bits

instance eqB : DecidableEq Bl := instDecidableEqProd
instance eqR : DecidableEq Rep := instDecidableEqProd
theorem drew_heap (w : World) : w.drew.heap = w.heap := rfl
theorem two_newA (w : World) (x y : Obj) : ((w.alloc x).alloc y).drew.heap[w.heap.size]? = some x := (Below.heap_alloc (w.alloc x) y w.heap.size (by simp)).trans (heap_alloc_new w x)
theorem two_newB (w : World) (x y : Obj) : ((w.alloc x).alloc y).drew.heap[w.heap.size + 1]? = some y := by
  have := heap_alloc_new (w.alloc x) y
  simpa [drew_heap] using this
def same (r r' : Rep) : Bool := decide (r = r')
/-- Not too long. -/
def small (r : Rep) : Prop := r.2.1.length ≤ 1000 ∧ ∀ b ∈ r.2.1, b.2.2.length ≤ 10000
theorem ne_at {α : Type} {l l' : List α} {i : Nat} {x y : α} (hx : l[i]? = some x) (hy : l'[i]? = some y) (h : x ≠ y) : l ≠ l' := fun e => by
  rw [e, hy] at hx
  injection hx with hx
  exact h hx.symm
theorem take_eq {α : Type} {l l' : List α} {i : Nat} {x : α} (h : l.take i = l'.take i) (hx : l[i]? = some x) (hy : l'[i]? = some x) : l.take (i + 1) = l'.take (i + 1) := by
  obtain ⟨h1, rfl⟩ := List.getElem?_eq_some_iff.1 hx
  obtain ⟨h2, h3⟩ := List.getElem?_eq_some_iff.1 hy
  rw [List.take_succ_eq_append_getElem h1, List.take_succ_eq_append_getElem h2, h, h3]
set_option maxRecDepth 10000 in
set_option maxHeartbeats 4000000 in
theorem same_any (v v' : Value) (r r' : Rep) (w : World) (h : CR w v r) (h' : CR w v' r') (hs : small r) :
    Calls Try.prog 15 #[v, v'] w fun e w' => e = .returned (.bool (same r r')) ∧ Below w.heap.size w w' := by
  obtain ⟨A, c, rfl, hbl⟩ := h
  obtain ⟨A', c', rfl, hbl'⟩ := h'
  obtain ⟨sn, bs, st⟩ := r
  obtain ⟨sn', bs', st'⟩ := r'
  simp only at hbl hbl'
  obtain ⟨n, hn⟩ : ∃ n, n = bs.length := ⟨_, rfl⟩
  obtain ⟨n', hn'⟩ : ∃ n', n' = bs'.length := ⟨_, rfl⟩
  simp only [← hn, ← hn'] at hbl hbl' ⊢
  have HB := Lib.hid hbl
  have HB' := Lib.hid hbl'
  have HN := Lib.hid hn
  have HN' := Lib.hid hn'
  have HSM := Lib.hid hs.2
  have hn3 : (n : Int) ≤ 1000 := by have := hs.1; simp only at this; omega
  clear hbl hbl' hn hn' hs
  by_cases hd : sn = sn' ∧ st = st' ∧ n = n'
  · obtain ⟨rfl, rfl, rfl⟩ := hd
    go_enter Try.func15, Try.ntmps15
    go_wp2_with fail
    obtain ⟨b0, hb0⟩ : ∃ b0, b0 = w.heap.size := ⟨_, rfl⟩
    simp only [← hb0]
    generalize hW0 : World.alloc (World.alloc w _) _ = W0
    have hbx := two_newA w (.cells #[.int .u32 sn, .slice A n c, .int .u32 st] 25) (.cells #[.int .u32 sn, .slice A' n c', .int .u32 st] 25)
    have hbx' := two_newB w (.cells #[.int .u32 sn, .slice A n c, .int .u32 st] 25) (.cells #[.int .u32 sn, .slice A' n c', .int .u32 st] 25)
    rw [drew_heap, hW0, ← hb0] at hbx hbx'
    have HW0 := Lib.hid (show Below w.heap.size w W0 by rw [← hW0]; exact ((Below.refl _ w).alloc (Nat.le_refl _) _).alloc (by simp) _)
    obtain ⟨_, bx1, _⟩ := cells3 hbx
    obtain ⟨_, bx1', _⟩ := cells3 hbx'
    have BX1 := Lib.hid bx1
    have BX1' := Lib.hid bx1'
    have hb0l : b0 + 1 < W0.heap.size := World.block_lt_of_cell? _ _ bx1'
    clear hW0 hbx hbx' bx1 bx1' hb0
    go_loopw [5] (fun iv wx => ∃ i : Nat, (i : Int) ≤ (n : Int) ∧ iv = .int .i64 (i : Int) ∧ bs.take i = bs'.take i ∧ Below W0.heap.size W0 wx) (fun iv _ => ((n : Int) - intOf iv).toNat)
    case atStart => exact ⟨0, by omega, rfl, rfl, Below.refl _ _⟩
    case round =>
      obtain ⟨i, hi, rfl, htk, hbw⟩ := hrel
      have HT := Lib.hid htk
      have HW := Lib.hid hbw
      have HWw := Lib.hid (below_then HW0.out HW0.out.size hbw)
      have t1 := (hbw.cell (p := ⟨b0, 1, none⟩) (by show b0 < _; omega)).trans BX1.out
      have t1' := (hbw.cell (p := ⟨b0 + 1, 1, none⟩) hb0l).trans BX1'.out
      have hb0r : b0 < wr.heap.size := by have := hbw.size; omega
      have hb0s : b0 + 1 < wr.heap.size := by have := hbw.size; omega
      clear htk hbw
      by_cases hil : (i : Int) < (n : Int)
      · obtain ⟨g, off, x, rfl, hg, hx, hxm, y0, y1, MA, mc, y2, hrd⟩ := (HB.out.below HWw.out).at (i := i) (by omega)
        obtain ⟨g', off', x', rfl, hg', hx', hxm', y0', y1', MA', mc', y2', hrd'⟩ := (HB'.out.below HWw.out).at (i := i) (by omega)
        obtain ⟨ss, fi, ms⟩ := x
        obtain ⟨ss', fi', ms'⟩ := x'
        have hm5 := HSM.out _ hxm
        simp only at y0 y1 y2 hrd y0' y1' y2' hrd' hm5
        obtain ⟨m, hm⟩ : ∃ m, m = ms.length := ⟨_, rfl⟩
        obtain ⟨m', hm'⟩ : ∃ m', m' = ms'.length := ⟨_, rfl⟩
        rw [← hm] at y2 hm5
        rw [← hm'] at y2'
        have hm5' : (m : Int) ≤ 10000 := by omega
        have HM := Lib.hid hm
        have HM' := Lib.hid hm'
        have HX := Lib.hid hx
        have HX' := Lib.hid hx'
        have HRD := Lib.hid hrd
        have HRD' := Lib.hid hrd'
        clear hm hm' hx hx' hxm hxm' hrd hrd' hm5
        go_upto_region 6 with fail
        go_cut [6, 7] (fun s6 s7 wx => ∃ qa qb, s6 = .pointer (some ⟨qa, 0, none⟩) ∧ s7 = .pointer (some ⟨qb, 0, none⟩) ∧ wx.heap[qa]? = some (.cells #[.int .u32 ss, .int .i64 fi, .slice MA m mc] 44 (0, 0)) ∧ wx.heap[qb]? = some (.cells #[.int .u32 ss', .int .i64 fi', .slice MA' m' mc'] 44 (0, 0)) ∧ Below wr.heap.size wr wx)
        case first =>
          go_region
          all_goals
            go_wp2_with fail
            go_meet
            exact ⟨_, _, rfl, rfl, by first | exact two_newA _ _ _ | exact two_newB _ _ _, by first | exact two_newA _ _ _ | exact two_newB _ _ _, below_drewN (((Below.refl _ wr).alloc (Nat.le_refl _) _).alloc (by simp) _) 1⟩
        case rest =>
        obtain ⟨qa, qb, rfl, rfl, hqa, hqb, hbX⟩ := hcut
        rename World => X
        obtain ⟨a0, a1, a2⟩ := cells3 hqa
        obtain ⟨e0, e1, e2⟩ := cells3 hqb
        have HXw := Lib.hid (below_then HWw.out HWw.out.size hbX)
        have HX0 := Lib.hid (below_then HW.out HW.out.size hbX)
        have HRx := Lib.hid (HRD.out.below hbX)
        have HRx' := Lib.hid (HRD'.out.below hbX)
        have hqal : qa < X.heap.size := World.block_lt_of_cell? _ _ a0
        have hqbl : qb < X.heap.size := World.block_lt_of_cell? _ _ e0
        clear hqa hqb hbX y0 y1 y2 y0' y1' y2' t1 t1' hg hg'
        by_cases hd : ss = ss' ∧ fi = fi' ∧ m = m'
        · obtain ⟨rfl, rfl, rfl⟩ := hd
          go_wp2_with fail
          go_loopw [8] (fun kv wy => ∃ k : Nat, (k : Int) ≤ (m : Int) ∧ kv = .int .i64 (k : Int) ∧ ms.take k = ms'.take k ∧ Below X.heap.size X wy) (fun kv _ => ((m : Int) - intOf kv).toNat)
          case atStart => exact ⟨0, by omega, rfl, rfl, Below.refl _ _⟩
          case round =>
            obtain ⟨k, hk, rfl, htk, hbw⟩ := hrel
            have HTk := Lib.hid htk
            have HY := Lib.hid hbw
            have a2' := (hbw.cell (p := ⟨qa, 2, none⟩) hqal).trans a2
            have e2' := (hbw.cell (p := ⟨qb, 2, none⟩) hqbl).trans e2
            clear htk hbw
            by_cases hkl : (k : Int) < (m : Int)
            · obtain ⟨g2, off2, y, rfl, hg2, hy, hym, x0, x1, x2⟩ := met_at (HRx.out.below HY.out) (k := k) (by have := HM.out; omega)
              obtain ⟨g3, off3, z, rfl, hg3, hz, hzm, z0, z1, z2⟩ := met_at (HRx'.out.below HY.out) (k := k) (by have := HM'.out; omega)
              obtain ⟨gt, ec, ag⟩ := y
              obtain ⟨gt', ec', ag'⟩ := z
              simp only at x0 x1 x2 z0 z1 z2
              by_cases hd : gt = gt' ∧ ec = ec' ∧ ag = ag'
              · obtain ⟨rfl, rfl, rfl⟩ := hd
                have HTK := Lib.hid (take_eq HTk.out hy hz)
                clear hy hz hym hzm
                go_wp2_with fail
                go_quiet (fail)
                go_wp2
                go_roundw
                case rel => exact ⟨k + 1, by omega, by go_num, HTK.out, below_drewN HY.out _⟩
                case measure => exact measN m k hkl
              · have hno : same (sn, bs, st) (sn, bs', st) = false := by
                  refine decide_eq_false fun e => ?_
                  injection e with _ e
                  injection e with e _
                  refine ne_at HX.out HX'.out (fun e => ?_) e
                  injection e with e3 e
                  injection e with e4 e5
                  refine ne_at hy hz (fun e => hd ?_) e5
                  injection e with e6 e
                  injection e with e7 e8
                  exact ⟨e6, e7, e8⟩
                have HNO := Lib.hid hno
                have hd' : (gt == gt') = false ∨ (gt = gt' ∧ (ec == ec') = false) ∨ (gt = gt' ∧ ec = ec' ∧ (ag == ag') = false) := by
                  simp only [beq_eq_false_iff_ne]
                  by_cases h1 : gt = gt'
                  · by_cases h2 : ec = ec'
                    · exact .inr (.inr ⟨h1, h2, fun h3 => hd ⟨h1, h2, h3⟩⟩)
                    · exact .inr (.inl ⟨h1, h2⟩)
                  · exact .inl h1
                clear hd hno hy hz hym hzm
                rcases hd' with h1 | ⟨h0, h1⟩ | ⟨h0, h00, h1⟩
                · cases gt <;> cases gt'
                  · cases h1
                  · go_wp2_with fail
                    go_quiet (fail)
                    go_wp2
                    go_ret
                    exact ⟨ret_bool HNO.out.symm, below_drewN (below_then HXw.out HXw.out.size HY.out) _⟩
                  · go_wp2_with fail
                    go_quiet (fail)
                    go_wp2
                    go_ret
                    exact ⟨ret_bool HNO.out.symm, below_drewN (below_then HXw.out HXw.out.size HY.out) _⟩
                  · cases h1
                · subst h0
                  have h2 : ¬ ec = ec' := by simpa using h1
                  have h3 : decide (ec = ec') = false := decide_eq_false h2
                  go_wp2_with fail
                  go_quiet (fail)
                  go_wp2
                  go_ret
                  exact ⟨ret_bool HNO.out.symm, below_drewN (below_then HXw.out HXw.out.size HY.out) _⟩
                · subst h0 h00
                  have h2 : ¬ ag = ag' := by simpa using h1
                  have h3 : decide (ag = ag') = false := decide_eq_false h2
                  go_wp2_with fail
                  go_quiet (fail)
                  go_wp2
                  go_ret
                  exact ⟨ret_bool HNO.out.symm, below_drewN (below_then HXw.out HXw.out.size HY.out) _⟩
            · have hkm : k = m := by omega
              have h1 : ms.take k = ms := by rw [hkm, HM.out]; exact List.take_length
              have h2 : ms'.take k = ms' := by rw [hkm, HM'.out]; exact List.take_length
              have h3 := HTk.out
              rw [h1, h2] at h3
              have HTI := Lib.hid (take_eq HT.out HX.out (by rw [HX'.out, h3]))
              clear h1 h2 h3
              go_wp2_with fail
              go_roundw
              case rel => exact ⟨i + 1, by omega, by go_num, HTI.out, below_then HX0.out HX0.out.size HY.out⟩
              case measure => exact measN n i hil
        · have hno : same (sn, bs, st) (sn, bs', st) = false := by
            refine decide_eq_false fun e => ?_
            injection e with _ e
            injection e with e _
            refine ne_at HX.out HX'.out (fun e => hd ?_) e
            injection e with e3 e
            injection e with e4 e5
            exact ⟨e3, e4, by rw [HM.out, HM'.out, e5]⟩
          have HNO := Lib.hid hno
          have hd' : (ss == ss') = false ∨ (ss = ss' ∧ (fi == fi') = false) ∨ (ss = ss' ∧ fi = fi' ∧ ((m : Int) == (m' : Int)) = false) := by
            simp only [beq_eq_false_iff_ne]
            omega
          clear hd hno
          rcases hd' with h1 | ⟨h0, h1⟩ | ⟨h0, h00, h1⟩
          · have h2 : ¬ ss = ss' := by simpa using h1
            have h3 : decide (ss = ss') = false := decide_eq_false h2
            go_wp2_with fail
            go_ret
            exact ⟨ret_bool HNO.out.symm, HXw.out⟩
          · subst h0
            have h2 : ¬ fi = fi' := by simpa using h1
            have h3 : decide (fi = fi') = false := decide_eq_false h2
            go_wp2_with fail
            go_ret
            exact ⟨ret_bool HNO.out.symm, HXw.out⟩
          · subst h0 h00
            have h2 : ¬ m = m' := fun e => by rw [e] at h1; simp at h1
            have h3 : decide (m = m') = false := decide_eq_false h2
            go_wp2_with fail
            go_ret
            exact ⟨ret_bool HNO.out.symm, HXw.out⟩
      · have hin : i = n := by omega
        have h1 : bs.take i = bs := by rw [hin, HN.out]; exact List.take_length
        have h2 : bs'.take i = bs' := by rw [hin, HN'.out]; exact List.take_length
        have h3 := HT.out
        rw [h1, h2] at h3
        have HY := Lib.hid (show same (sn, bs, st) (sn, bs', st) = true by unfold same; rw [h3]; exact decide_eq_true rfl)
        clear h1 h2 h3
        go_wp2_with fail
        go_ret
        exact ⟨ret_bool HY.out.symm, HWw.out⟩
  · have hno : same (sn, bs, st) (sn', bs', st') = false := by
      refine decide_eq_false fun e => hd ?_
      injection e with e1 e
      injection e with e2 e3
      exact ⟨e1, e3, by rw [HN.out, HN'.out, e2]⟩
    have HNO := Lib.hid hno
    have hd' : (sn == sn') = false ∨ (sn = sn' ∧ (st == st') = false) ∨ (sn = sn' ∧ st = st' ∧ ((n : Int) == (n' : Int)) = false) := by
      simp only [beq_eq_false_iff_ne]
      omega
    clear hd hno
    have HD := Lib.hid (show Below w.heap.size w ((w.alloc (.cells #[.int .u32 sn, .slice A n c, .int .u32 st] 25)).alloc (.cells #[.int .u32 sn', .slice A' n' c', .int .u32 st'] 25)) from ((Below.refl _ w).alloc (Nat.le_refl _) _).alloc (by simp) _)
    rcases hd' with h1 | ⟨h0, h1⟩ | ⟨h0, h00, h1⟩
    · have h2 : ¬ sn = sn' := by simpa using h1
      have h3 : decide (sn = sn') = false := decide_eq_false h2
      go_enter Try.func15, Try.ntmps15
      go_wp2_with fail
      go_ret
      exact ⟨ret_bool HNO.out.symm, HD.out⟩
    · subst h0
      have h2 : ¬ st = st' := by simpa using h1
      have h3 : decide (st = st') = false := decide_eq_false h2
      go_enter Try.func15, Try.ntmps15
      go_wp2_with fail
      go_ret
      exact ⟨ret_bool HNO.out.symm, HD.out⟩
    · subst h0 h00
      have h2 : ¬ n = n' := fun e => by rw [e] at h1; simp at h1
      have h3 : decide (n = n') = false := decide_eq_false h2
      go_enter Try.func15, Try.ntmps15
      go_wp2_with fail
      go_ret
      exact ⟨ret_bool HNO.out.symm, HD.out⟩
end Go.Proofs.Ytmkaflfhmpddbaa.Ccfb
