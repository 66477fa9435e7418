/- Hear's walk; no condition but the ranges in each. -/
import Derived.Test.YtfemmbipglpalaaHistHear
import Derived.Deep.RegionHeld3
namespace Go.Proofs.Ytfemmbipglpalaa.History
open Go.RowKit Go.Proofs.Ytfemmbipglpalaa.Plain Go.Proofs.Ytfemmbipglpalaa.Heap Go.Proofs.Ytfemmbipglpalaa.Maps

set_option maxHeartbeats 400000 in
theorem hear_nil (v : Value) (now : Int) (w : World) : Calls Try.prog 14 #[.pointer none, v, .int .i64 now] w fun e w' => e = .returned (.tuple #[.slice none 0 0, .slice none 0 0]) ∧ w = w' := by
  go_enter Try.func14, Try.ntmps14
  go_wp2
  go_ret2
  exact ⟨rfl, rfl⟩
set_option maxHeartbeats 400000 in
theorem hear_zero (p r : Nat) (h : HS) (v : Value) (now : Int) (w : World) (hr : HR w p r h) (hn : h.next = 0) : Calls Try.prog 14 #[.pointer (some ⟨p, 0, none⟩), v, .int .i64 now] w fun e w' => e = .returned (.tuple #[.slice none 0 0, .slice none 0 0]) ∧ w = w' := by
  obtain ⟨c0, c1, c2, c3, c4, c5, hf, _, _⟩ := hr.cells
  rw [hn] at c1
  clear hr hf hn
  go_enter Try.func14, Try.ntmps14
  go_wp2
  go_ret2
  exact ⟨rfl, rfl⟩
theorem meas2 (n k : Nat) (h : k < n) : n - (intOf (.int .i64 ((k : Int) + 1))).toNat < n - (intOf (.int .i64 (k : Int))).toNat := by
  simp [intOf]
  omega
set_option maxRecDepth 10000 in
set_option maxHeartbeats 2000000 in
theorem hear_any (p r : Nat) (h : HS) (A : Option Addr) (n c : Nat) (rs : List R5) (now : Int) (w : World) (hr : HR w p r h) (ok : okH h) (hnx : 0 < h.next) (hrd : Rd w 5 A n (flat5 rs)) (hlen : rs.length = n) (hn1 : n ≤ 1000000) (hA : ∀ b off, A = some ⟨b, off, none⟩ → b ≠ p ∧ b ≠ r) :
    Calls Try.prog 14 #[.pointer (some ⟨p, 0, none⟩), .slice A n c, .int .i64 now] w
      fun e w' => ∃ gv lv mg ml, e = .returned (.tuple #[gv, lv]) ∧ HH w w' p r w.heap.size (hearL h rs) gv lv mg ml := by
  obtain ⟨c0, c1, c2, c3, c4, c5, hf, hp, hrl⟩ := hr.cells
  have hz : (h.next == 0) = false := by simp; omega
  have H0 := Lib.hid (show HH w w p r w.heap.size (hearL h (rs.take 0)) (.slice none 0 0) (.slice none 0 0) 0 0 from
    ⟨hr, ok, ⟨by simp [flat6, hearL], .inl ⟨rfl, rfl⟩⟩, ⟨by simp [flat3, hearL], .inl ⟨rfl, rfl⟩⟩, rfl, rfl, (fun b e => by simp [Value.ownBlock] at e), Nat.le_refl _, hp, hrl, Kept.refl _ _⟩)
  have HOK := Lib.hid ok
  have HRd := Lib.hid hrd
  have HLen := Lib.hid hlen
  clear hr ok hrd hlen hf c0 c2 c3 c4 c5
  go_enter Try.func14, Try.ntmps14
  go_wp2_with fail
  go_loopw [8, 9, 25] (fun gv lv iv wr => ∃ (k mg ml : Nat), k ≤ n ∧ iv = .int .i64 (k : Int) ∧ HH w wr p r w.heap.size (hearL h (rs.take k)) gv lv mg ml) (fun _ _ iv _ => n - (intOf iv).toNat)
  case atStart => exact ⟨0, 0, 0, by omega, rfl, H0.out⟩
  case round =>
    obtain ⟨k, mg, ml, hk, rfl, hh⟩ := hrel
    have HHr := Lib.hid hh
    clear hh H0
    by_cases hlt : k < n
    · have hki : (k : Int) < (n : Int) := by omega
      have hk1 : k + 1 ≤ n := hlt
      obtain ⟨b, off, rfl, hb, hc⟩ := HRd.out.2 (by omega)
      obtain ⟨hbp, hbr⟩ := hA b off rfl
      obtain ⟨x, hx⟩ : ∃ x, rs[k]? = some x := ⟨_, List.getElem?_eq_getElem (by rw [HLen.out]; exact hlt)⟩
      obtain ⟨t0, t1, t2, t3, t4⟩ := flat5_get rs k x hx
      have hkc : ∀ j v, w.cell? ⟨b, off + j, none⟩ = some v → wr.cell? ⟨b, off + j, none⟩ = some v := fun j v hv => (HHr.out.kp.cell (p := ⟨b, off + j, none⟩) hb (by show ¬ (b = p ∨ b = r ∨ w.heap.size ≤ b); omega)).trans hv
      have x0 := hkc _ _ (hc _ _ t0)
      have x1 := hkc _ _ (hc _ _ t1)
      have x2 := hkc _ _ (hc _ _ t2)
      have x3 := hkc _ _ (hc _ _ t3)
      have x4 := hkc _ _ (hc _ _ t4)
      rw [← Nat.add_assoc] at x1 x2 x3 x4
      have HSt := Lib.hid (hear_take (h := h) hx)
      obtain ⟨s, hs⟩ : ∃ s, s = hearL h (rs.take k) := ⟨_, rfl⟩
      rw [← hs] at HSt HHr
      have hnxt : s.1.next = h.next := by rw [hs]; exact (hear_ok HOK.out _).2.1
      have hsz2 := (hear_ok HOK.out (rs.take k)).2.2
      rw [← hs] at hsz2
      have hmg : mg ≤ 1024 ∧ ml ≤ 1024 := by have h1 := HHr.out.lg; have h2 := HHr.out.ll; have h3 := HOK.out.len; omega
      have HS := Lib.hid hs
      clear hs t0 t1 t2 t3 t4 hkc hc hx hsz2
      obtain ⟨xs, xg, xa, xl, xe⟩ := x
      simp only at x0 x1 x2 x3 x4
      have hwr := HHr.out.sz
      go_upto_region 8 with fail
      generalize hW : World.alloc wr _ = W
      have hkW : Kept (fun _ => False) wr W := by rw [← hW]; exact (Kept.refl _ wr).alloc _
      have hrep : W.heap[wr.heap.size]? = some (.cells #[.int .i64 xs, .bool xg, .int .i64 xa, .bool xl, .bool xe] 51 (0, 0)) := by rw [← hW]; exact heap_alloc_new wr _
      have HW := Lib.hid (HHr.out.run hkW)
      obtain ⟨d0, d1, d2, d3, d4, d5, df, dp, dr⟩ := HW.out.hr.cells
      rw [hnxt] at d1
      have y0 : W.cell? ⟨wr.heap.size, 0, none⟩ = some (.int .i64 xs) := by simp [World.cell?, hrep]
      have hrlt : wr.heap.size < W.heap.size := (Array.getElem?_eq_some_iff.1 hrep).1
      have HRep := Lib.hid hrep
      clear hW hkW hrep x0 x1 x2 x3 x4 d0 d2 d3 d5 df HHr
      obtain ⟨key, hke⟩ : ∃ z, hkey h xs = z := ⟨_, rfl⟩
      have hke2 : hkey s.1 xs = key := by unfold hkey at hke ⊢; rw [hnxt]; exact hke
      obtain ⟨⟨vn, vs, va⟩, okb, hv⟩ : ∃ (vv : E3) (okb : Bool), (findE key s.1.l = none ∧ okb = false ∧ vv = (0, 0, 0)) ∨ (findE key s.1.l = some vv ∧ okb = true) := by
        cases hf : findE key s.1.l with
        | none => exact ⟨(0, 0, 0), false, .inl ⟨rfl, rfl, rfl⟩⟩
        | some e => exact ⟨e, true, .inr ⟨rfl, rfl⟩⟩
      have look : ∀ V : World, MH V r (s.1.l.map ent) → (Instr.lookup 70 (.map (some r)) (.int .i64 key) true).run Try.prog V = .ok (.tuple #[.agg #[.int .i64 vn, .int .i64 vs, .int .i64 va], .bool okb]) V := fun V hm => by
        rcases hv with ⟨h1, h2, h3⟩ | ⟨h1, h2⟩
        · rw [h2]
          injection h3 with h3 h4
          injection h4 with h4 h5
          rw [h3, h4, h5]
          exact hm.run_none Try.underlying70 Try.underlying2 (zero_sent V) (by rw [find_ent, h1]; rfl)
        · rw [h2]
          exact hm.run_some Try.underlying70 Try.underlying2 (v := eval3 (vn, vs, va)) (by rw [find_ent, h1]; rfl)
      have k0 := look W HW.out.hr.m
      have k1 := look W.drew HW.out.hr.m
      have k2 := fun z => look (W.alloc z) (HW.out.hr.m.kept ((Kept.refl (fun _ => False) W).alloc z) id)
      have k3 := fun z => look (W.alloc z).drew (HW.out.hr.m.kept ((Kept.refl (fun _ => False) W).alloc z).drew id)
      have HV := Lib.hid hv
      have HK2 := Lib.hid hke2
      have HKey := Lib.hid (show Fn.near (Fn.hold60 (h.next - 1)) xs 65536 32768 = key from hke)
      have TW := Lib.hid (show IntKind.i64.wrap (h.next - 1) = h.next - 1 by have h1 := HOK.out.next1; exact IntWalk.i64_in _ (by omega))
      have tn : wrap64 (h.next - 1) = h.next - 1 := by have h1 := HOK.out.next1; exact w64 (by omega) (by omega)
      have e0 : ∀ z, (W.alloc z).cell? ⟨p, 1, none⟩ = some (.int .i64 h.next) := fun z => ((Kept.refl (fun _ => False) W).alloc z).cell (p := ⟨p, 1, none⟩) dp id |>.trans d1
      have e1 : ∀ z, (W.alloc z).cell? ⟨p, 4, none⟩ = some (.map (some r)) := fun z => ((Kept.refl (fun _ => False) W).alloc z).cell (p := ⟨p, 4, none⟩) dp id |>.trans d4
      have e2 : ∀ z, (W.alloc z).cell? ⟨wr.heap.size, 0, none⟩ = some (.int .i64 xs) := fun z => ((Kept.refl (fun _ => False) W).alloc z).cell (p := ⟨wr.heap.size, 0, none⟩) hrlt id |>.trans y0
      clear hv hke hke2 look
      go_cut [12, 13] (fun s12 s13 wx => ∃ q, W.heap.size ≤ q ∧ s12 = .pointer (some ⟨q, 0, none⟩) ∧ s13 = .bool okb ∧ wx.heap[q]? = some (.cells #[.int .i64 vn, .int .i64 vs, .int .i64 va] 38 (0, 0)) ∧ Kept (fun _ => False) W wx)
      case first =>
        go_region_held3 (fun w' => w'.cell? ⟨p, 1, none⟩ = some (.int .i64 h.next) ∧ w'.cell? ⟨p, 4, none⟩ = some (.map (some r)) ∧ w'.cell? ⟨wr.heap.size, 0, none⟩ = some (.int .i64 xs)) (first | exact ⟨d1, d4, y0⟩ | exact ⟨e0 _, e1 _, e2 _⟩)
          (first
            | (go_at_call 30
               refine (Fn.near_yes _ _ 16 65536 32768 _ (by decide) (by decide) (by decide) (by decide) (by decide) (by decide) (by decide)).mono ?_
               rintro e w2 ⟨rfl, rfl⟩
               rw [TW.out, HKey.out]))
        all_goals (go_wp2_with fail; go_meet; exact ⟨_, Nat.le_refl _, rfl, rfl, heap_alloc_new W _, ((Kept.refl _ W).alloc _).drew⟩)
      case rest =>
      obtain ⟨q, hqW, rfl, rfl, hq, hk3⟩ := hcut
      rename World => X
      have HX := Lib.hid (HW.out.run hk3)
      have hrep := (hk3.block wr.heap.size hrlt id).trans HRep.out
      have hrlx : wr.heap.size < X.heap.size := Nat.lt_of_lt_of_le hrlt hk3.size
      have hqx : q < X.heap.size := (Array.getElem?_eq_some_iff.1 hq).1
      have hbase := HX.out.sz
      have hpb := HX.out.pb
      have hrb := HX.out.rb
      have hws := HX.out.kp.size
      clear d1 d4 y0 k0 k1 k2 k3 e0 e1 e2 dp dr hrlt
      rcases HV.out with ⟨h1, rfl, h3⟩ | ⟨h1, rfl⟩
      · go_wp2_with fail
        go_roundw
        case rel =>
          refine ⟨k + 1, mg, ml, hk1, by go_num, ?_⟩
          rw [HSt.out]
          unfold hear1
          simp only [HK2.out, h1]
          exact HX.out
        case measure => exact meas2 n k hlt
      · have g0 : X.cell? ⟨q, 0, none⟩ = some (.int .i64 vn) := by simp [World.cell?, hq]
        have g1 : X.cell? ⟨q, 1, none⟩ = some (.int .i64 vs) := by simp [World.cell?, hq]
        have g2 : X.cell? ⟨q, 2, none⟩ = some (.int .i64 va) := by simp [World.cell?, hq]
        obtain ⟨hvn, hmem⟩ := findE_key h1
        simp only at hvn
        have hfd : findE vn s.1.l = some (vn, vs, va) := (congrArg (fun z => findE z s.1.l) hvn).trans h1
        have hsz := HX.out.ok.size _ hmem
        have hfl := HX.out.ok.fly
        simp only at hsz
        have Hvn := Lib.hid hvn
        have HF := Lib.hid h1
        have HFd := Lib.hid hfd
        have HQ := Lib.hid hq
        have HRep2 := Lib.hid hrep
        clear hvn h1 hmem hq hrep HRep hfd
        go_wp2_with fail
        refine (drop_any p r X s.1 (vn, vs, va) HX.out.hr HFd.out (by omega) (by omega) hsz.1 hsz.2).mono ?_
        rintro e w3 ⟨rfl, h3, k3⟩
        have H4 := Lib.hid (HH.drop HX.out HF.out h3 k3)
        have hnew : ∀ z, W.heap.size ≤ z ∨ z = wr.heap.size → ¬ (z = p ∨ z = r) := fun z hz => by have h1 := HW.out.sz; have h2 := hwr; rcases hz with hz | hz <;> omega
        have hrep3 := (k3.block wr.heap.size hrlx (hnew _ (.inr rfl))).trans HRep2.out
        have hq3 := (k3.block q hqx (hnew _ (.inl hqW))).trans HQ.out
        have r1 : w3.cell? ⟨wr.heap.size, 1, none⟩ = some (.bool xg) := by simp [World.cell?, hrep3]
        have r2 : w3.cell? ⟨wr.heap.size, 2, none⟩ = some (.int .i64 xa) := by simp [World.cell?, hrep3]
        have r3 : w3.cell? ⟨wr.heap.size, 3, none⟩ = some (.bool xl) := by simp [World.cell?, hrep3]
        have r4 : w3.cell? ⟨wr.heap.size, 4, none⟩ = some (.bool xe) := by simp [World.cell?, hrep3]
        have q0 : w3.cell? ⟨q, 0, none⟩ = some (.int .i64 vn) := by simp [World.cell?, hq3]
        have q1 : w3.cell? ⟨q, 1, none⟩ = some (.int .i64 vs) := by simp [World.cell?, hq3]
        have q2 : w3.cell? ⟨q, 2, none⟩ = some (.int .i64 va) := by simp [World.cell?, hq3]
        clear h3 k3 hrep3 hq3 hnew g0 g1 g2 hsz hfl
        cases xg with
        | true =>
          go_wp2_with (first
            | (at_builtin
               refine wpList_app rfl (.tmp 52) (.tmp 61) 33 rfl w.heap.size 40 (.agg #[.int .i64 0, .int .i64 0, .int .i64 0, .int .i64 0, .bool false, .bool false]) 6 40 Try.underlying33 info_acked rfl (by omega) u8 mg (flat6 s.2.1) rfl (H4.out.og.alloc _) (some ⟨w3.heap.size, 0, none⟩) 1 1 (flat6 [((vn, vs, va), xa, xl, xe)]) rfl (rd_six w3 _ ((vn, vs, va), xa, xl, xe)) (flat6_one _) (by simp only [maxLen]; omega) (by omega) (by have := H4.out.sz; simp; omega) ?_
               intro v2 w4 hown hg hat
               have H5 := Lib.hid (HH.got (H4.out.run ((Kept.refl (fun _ => False) w3).alloc _)) hown hg (by simpa using hat))
               clear hown hg hat))
          go_roundw
          case rel =>
            refine ⟨k + 1, mg + 1, ml, hk1, by go_num, ?_⟩
            rw [HSt.out]
            unfold hear1
            simp only [HK2.out, HF.out]
            exact H5.out
          case measure => exact meas2 n k hlt
        | false =>
          go_wp2_with (first
            | (at_builtin
               refine wpList_app rfl (.tmp 63) (.tmp 65) 34 rfl w.heap.size 38 (.agg #[.int .i64 0, .int .i64 0, .int .i64 0]) 3 24 Try.underlying34 info_sent rfl (by omega) u9 ml (flat3 s.2.2) rfl (H4.out.ol.alloc _) (some ⟨w3.heap.size, 0, none⟩) 1 1 (flat3 [(vn, vs, va)]) rfl (rd_three w3 _ (vn, vs, va)) (flat3_one _) (by simp only [maxLen]; omega) (by omega) (by have := H4.out.sz; simp; omega) ?_
               intro v2 w4 hown hg hat
               have H5 := Lib.hid (HH.lost (H4.out.run ((Kept.refl (fun _ => False) w3).alloc _)) hown hg (by simpa using hat))
               clear hown hg hat))
          go_roundw
          case rel =>
            refine ⟨k + 1, mg, ml + 1, hk1, by go_num, ?_⟩
            rw [HSt.out]
            unfold hear1
            simp only [HK2.out, HF.out]
            exact H5.out
          case measure => exact meas2 n k hlt
    · obtain rfl : k = n := by omega
      go_wp2_with fail
      have hl : rs.take k = rs := by rw [← HLen.out]; exact List.take_length
      rw [hl] at HHr
      go_ret2
      exact ⟨_, _, _, _, rfl, HHr.out⟩
end Go.Proofs.Ytfemmbipglpalaa.History
