/- What a header must be: the document's; no condition but the ranges in each. -/
import Derived.Test.YtccljgohekmjkaaRtpGood
namespace Go.Proofs.Ytccljgohekmjkaa.Rtp
open Go.RowKit Go.Proofs.Ytccljgohekmjkaa.Plain Go.Proofs.Ytccljgohekmjkaa.Heap Go.Proofs.Ytccljgohekmjkaa.Open Go.Proofs.Ytccljgohekmjkaa.Rows Go.Proofs.Ytccljgohekmjkaa.Bits
theorem hasId_take {l : List X2} {j i : Nat} {x : X2} {k : Int} (hx : l[j]? = some x) (h : hasId (l.take j) k = false) (hk : ¬ x.1 = k) (_ : j < i) : hasId (l.take (j + 1)) k = false := by
  obtain ⟨hl, rfl⟩ := List.getElem?_eq_some_iff.1 hx
  rw [List.take_succ_eq_append_getElem hl, hasId, List.any_append, ← hasId, h]
  simp [hk]
theorem hasId_hit {l : List X2} {j i : Nat} {x : X2} {k : Int} (hx : l[j]? = some x) (hk : x.1 = k) (hj : j < i) : hasId (l.take i) k = true := by
  refine List.any_eq_true.2 ⟨x, ?_, by simp [hk]⟩
  refine List.mem_of_getElem? (i := j) ?_
  rw [List.getElem?_take_of_lt hj]
  exact hx
set_option maxRecDepth 10000 in
set_option maxHeartbeats 4000000 in
theorem rgood_any (v : Value) (h : Hd) (w : World) (k : HR w v h) :
    Calls Try.prog 16 #[v] w fun e w' => e = .returned (.bool (goodH h)) ∧ Below w.heap.size w w' := by
  obtain ⟨A, c, B, d, rfl, k1, k2⟩ := k
  obtain ⟨b0, hb0⟩ : ∃ b0, b0 = w.heap.size := ⟨_, rfl⟩
  obtain ⟨W0, hW0⟩ : ∃ W0, W0 = w.alloc (.cells (hcs h A c B d) 26) := ⟨_, rfl⟩
  have H0 := Lib.hid (show HX w W0 b0 h A c B d by rw [hb0]; exact HX.new (Below.refl _ w) k1 k2 hW0)
  have HE := Lib.hid hb0
  have HW := Lib.hid hW0
  clear k1 k2 hb0 hW0
  obtain ⟨n, hn⟩ : ∃ n, n = h.src.length := ⟨_, rfl⟩
  obtain ⟨m, hm⟩ : ∃ m, m = h.xs.length := ⟨_, rfl⟩
  have HN := Lib.hid hn
  have HM := Lib.hid hm
  have x1 := H0.out.c1
  have x2 := H0.out.c2
  have x5 := H0.out.c5
  have x6 := H0.out.c6
  rw [← hn] at x5
  rw [← hm] at x6
  clear hn hm
  go_enter Try.func16, Try.ntmps16
  go_upto_region 1 with fail
  rw [← HW.out, ← HE.out]
  rcases goodR_ways h.ty h.sq n m with h0 | h0 | h0 | h0 | h0 | h0 | h0
  case inr.inr.inr.inr.inr.inr =>
    obtain ⟨a1, a2, a3, a4, a5, a6⟩ := h0
    have HGR := Lib.hid (show goodR h = true from goodR_mk ⟨by omega, by omega, by omega, by omega, by have := HN.out; omega, by have := HM.out; omega⟩)
    go_wp2_with fail
    go_loopw [3] (fun iv wx => ∃ i : Nat, (i : Int) ≤ (m : Int) ∧ iv = .int .i64 (i : Int) ∧ goodTo h.xs i = true ∧ HX w wx b0 h A c B d) (fun iv _ => ((m : Int) - intOf iv).toNat)
    case atStart => exact ⟨0, by omega, rfl, rfl, H0.out⟩
    case round =>
      obtain ⟨i, hi, rfl, hgt, hx⟩ := hrel
      have H1 := Lib.hid hx
      have HGT := Lib.hid hgt
      have t6 := H1.out.c6
      rw [← HM.out] at t6
      clear hx hgt
      by_cases hil : (i : Int) < (m : Int)
      · obtain ⟨g, off, x, e, hg, hx, hxm, y0, y1⟩ := ext_at H1.out.r2 (k := i) (by have := HM.out; omega)
        subst e
        have HX := Lib.hid hx
        obtain ⟨id, dt⟩ := x
        simp only at y0 y1
        obtain ⟨L, hL⟩ : ∃ L : Int, (dt.size : Int) = L := ⟨_, rfl⟩
        clear hx hxm
        go_upto_region 7 with fail
        obtain ⟨q, hq⟩ : ∃ q, q = wr.heap.size := ⟨_, rfl⟩
        rw [← hq]
        generalize hW2 : World.alloc wr _ = W2
        have hqc : W2.heap[q]? = some (.cells #[.int .i64 id, .string dt] 47 (0, 0)) := by rw [← hW2, hq]; exact heap_alloc_new wr _
        obtain ⟨z0, z1⟩ := cells2 hqc
        have H2 := Lib.hid (H1.out.run (w' := W2) (by rw [← hW2]; exact (Below.refl _ wr).alloc (Nat.le_refl _) _))
        have s6 := H2.out.c6
        rw [← HM.out] at s6
        have HST := Lib.hid (show (goodX (id, dt) = false ∨ hasId (h.xs.take i) id = true) → goodH h = false from fun hb => by
          unfold goodH
          rw [goodTo_stop HX.out hb _ (by have := HM.out; omega), Bool.and_false])
        have HL := Lib.hid hL
        clear hW2 hqc hq y0 y1 t6
        by_cases i1 : id < 1
        · have HF := Lib.hid (HST.out (.inl (goodX_no (.inl i1))))
          go_wp2_with fail
          go_ret
          exact ⟨by rw [HF.out]; rfl, H2.out.bw⟩
        · by_cases i2 : 14 < id
          · have HF := Lib.hid (HST.out (.inl (goodX_no (.inr (.inl i2)))))
            go_wp2_with fail
            go_ret
            exact ⟨by rw [HF.out]; rfl, H2.out.bw⟩
          · by_cases l1 : L < 1
            · have HF := Lib.hid (HST.out (.inl (goodX_no (.inr (.inr (.inl (by show dt.size < 1; omega)))))))
              go_wp2_with fail
              go_ret
              exact ⟨by rw [HF.out]; rfl, H2.out.bw⟩
            · by_cases l2 : 16 < L
              · have HF := Lib.hid (HST.out (.inl (goodX_no (.inr (.inr (.inr (by show 16 < dt.size; omega)))))))
                go_wp2_with fail
                go_ret
                exact ⟨by rw [HF.out]; rfl, H2.out.bw⟩
              · have HGX := Lib.hid (show goodX (id, dt) = true from goodX_mk (by show 1 ≤ id; omega) (by show id ≤ 14; omega) (by show 1 ≤ dt.size; omega) (by show dt.size ≤ 16; omega))
                go_wp2_with fail
                go_loopw [5] (fun jv wx => ∃ j : Nat, (j : Int) ≤ (i : Int) ∧ jv = .int .i64 (j : Int) ∧ hasId (h.xs.take j) id = false ∧ Below W2.heap.size W2 wx) (fun jv _ => ((i : Int) - intOf jv).toNat)
                case atStart => exact ⟨0, by omega, rfl, rfl, Below.refl _ _⟩
                case round =>
                  obtain ⟨j, hj, rfl, hh, hbw⟩ := hrel
                  have HH := Lib.hid hh
                  have HB := Lib.hid hbw
                  have H3 := Lib.hid (H2.out.run hbw)
                  have t0 := (hbw.cell (p := ⟨q, 0, none⟩) (World.block_lt_of_cell? _ _ z0)).trans z0
                  have t6 := H3.out.c6
                  rw [← HM.out] at t6
                  clear hh hbw
                  by_cases hjl : (j : Int) < (i : Int)
                  · obtain ⟨g', off', x', e', hg', hx', hxm', y0', y1'⟩ := ext_at H3.out.r2 (k := j) (by have := HM.out; omega)
                    injection e' with e'
                    injection e' with e1' e2'
                    subst e1' e2'
                    obtain ⟨id', dt'⟩ := x'
                    simp only at y0' y1'
                    have HX' := Lib.hid hx'
                    clear hx' hxm' y1'
                    by_cases hii : id' = id
                    · subst hii
                      have HF := Lib.hid (HST.out (.inr (hasId_hit HX'.out rfl (by omega))))
                      go_upto_region 12 with fail
                      go_quiet (fail)
                      go_wp2_with fail
                      go_ret
                      exact ⟨by rw [HF.out]; rfl, below_drewN H3.out.bw _⟩
                    · have hii' : (id' == id) = false := by rw [beq_eq_false_iff_ne]; exact hii
                      have HJ := Lib.hid (hasId_take (i := i) HX'.out HH.out hii (by omega))
                      clear hii
                      go_upto_region 12 with fail
                      go_quiet (fail)
                      go_wp2_with fail
                      go_roundw
                      case rel => exact ⟨j + 1, by omega, by go_num, HJ.out, below_drewN HB.out _⟩
                      case measure => exact measN i j hjl
                  · have hji : j = i := by omega
                    have HOK := Lib.hid (goodTo_succ HX.out HGT.out HGX.out (by have := HH.out; rwa [hji] at this))
                    go_wp2_with fail
                    go_roundw
                    case rel => exact ⟨i + 1, by omega, by go_num, HOK.out, H3.out⟩
                    case measure => exact measN m i hil
      · have hin : i = m := by omega
        have HF := Lib.hid (show goodH h = true by
          unfold goodH
          rw [HGR.out, ← HM.out, ← hin, HGT.out]
          rfl)
        go_wp2_with fail
        go_ret
        exact ⟨by rw [HF.out]; rfl, H1.out.bw⟩
  all_goals
    have HF := Lib.hid (show goodH h = false from goodR_no (by have := HN.out; have := HM.out; omega))
    first
      | obtain ⟨a1, a2, a3, a4, a5, a6⟩ := h0
      | obtain ⟨a1, a2, a3, a4, a5⟩ := h0
      | obtain ⟨a1, a2, a3, a4⟩ := h0
      | obtain ⟨a1, a2, a3⟩ := h0
      | obtain ⟨a1, a2⟩ := h0
      | skip
    go_wp2_with fail
    go_ret
    exact ⟨by rw [HF.out]; rfl, H0.out.bw⟩
end Go.Proofs.Ytccljgohekmjkaa.Rtp
