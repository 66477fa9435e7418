/- What Expire comes to; no condition but the ranges in each. -/
import Derived.Test.YtfemmbipglpalaaHistLaw
namespace Go.Proofs.Ytfemmbipglpalaa.History
open Go.RowKit Go.Proofs.Ytfemmbipglpalaa.Plain Go.Proofs.Ytfemmbipglpalaa.Heap Go.Proofs.Ytfemmbipglpalaa.Maps

abbrev H2 : Type := HS × List E3
/-- What is given up, from number n on. -/
def expLoop (now : Int) : Nat → Int → H2 → H2
  | 0, _, s => s
  | f + 1, n, s => match findE n s.1.l with
    | none => expLoop now f (n + 1) s
    | some e => if Sat.clamp64 (now - e.2.2) ≤ s.1.timeout then s else expLoop now f (n + 1) (dropE s.1 e, s.2 ++ [e])
def firstLoop : Nat → HS → HS
  | 0, h => h
  | f + 1, h => match findE h.first h.l with
    | none => firstLoop f { h with first := h.first + 1 }
    | some _ => h
def expire (h : HS) (now : Int) : H2 :=
  let s := expLoop now (h.next - h.first).toNat h.first (h, [])
  (firstLoop (h.next - h.first).toNat s.1, s.2)
theorem eraseE_len {k : Int} {l : List E3} {x : E3} (h : findE k l = some x) : (eraseE k l).length + 1 = l.length := (eraseE_sum h).2
theorem HR.setFirst {w : World} {p r : Nat} {h : HS} (hr : HR w p r h) (f : Int) : HR (w.setCell ⟨p, 2, none⟩ (.int .i64 f)) p r { h with first := f } := by
  have hk := (Kept.refl (fun g => g = p) w).setCell (p := ⟨p, 2, none⟩) (.inl rfl) (.int .i64 f)
  refine ⟨?_, hr.m.kept hk (fun e => hr.ne e.symm), hr.ne⟩
  have hb := hr.b
  simp [World.setCell, Array.getElem?_modify, hb, hcells]
theorem HH.setFirst {w0 w : World} {p r base : Nat} {h : HS} {G : List A6} {L : List E3} {gv lv : Value} {mg ml : Nat} (hh : HH w0 w p r base (h, G, L) gv lv mg ml) (f : Int) : HH w0 (w.setCell ⟨p, 2, none⟩ (.int .i64 f)) p r base ({ h with first := f }, G, L) gv lv mg ml := by
  have hk := (Kept.refl (fun g => g = p) w).setCell (p := ⟨p, 2, none⟩) (.inl rfl) (.int .i64 f)
  have hok := hh.ok
  exact ⟨hh.hr.setFirst f, ⟨hok.next0, hok.next1, hok.lt, hok.size, hok.len, hok.sum⟩, hk.own hh.og (fun b e hp => by have h1 := own_ge hh.og e; have h2 := hh.pb; have h3 : b = p := hp; omega), hk.own hh.ol (fun b e hp => by have h1 := own_ge hh.ol e; have h2 := hh.pb; have h3 : b = p := hp; omega), hh.lg, hh.ll, hh.ne, Nat.le_trans hh.sz hk.size, hh.pb, hh.rb, hh.kp.trans hk (fun i _ hi => .inl hi)⟩
theorem meas4 {N n : Int} (h : n < N) : (N - intOf (.int .i64 (n + 1))).toNat < (N - intOf (.int .i64 n)).toNat := by
  simp only [intOf]
  omega
theorem toNat_succ {N n : Int} (h : n < N) : (N - n).toNat = (N - (n + 1)).toNat + 1 := by omega
set_option maxRecDepth 10000 in
set_option maxHeartbeats 4000000 in
theorem expire_any (p r : Nat) (h : HS) (now : Int) (w : World) (hr : HR w p r h) (ok : okH h) (hf0 : 0 ≤ h.first) (hf1 : h.first ≤ h.next) (hnow : -9223372036854775808 ≤ now ∧ now ≤ 9223372036854775807) (hat : ∀ x ∈ h.l, 0 ≤ x.2.2 ∧ x.2.2 ≤ 1125899906842624) :
    Calls Try.prog 18 #[.pointer (some ⟨p, 0, none⟩), .int .i64 now] w
      fun e w' => ∃ lv ml, e = .returned lv ∧ HH w w' p r w.heap.size ((expire h now).1, [], (expire h now).2) (.slice none 0 0) lv 0 ml := by
  obtain ⟨c0, c1, c2, c3, c4, c5, hf, hp, hrl⟩ := hr.cells
  have H0 := Lib.hid (show HH w w p r w.heap.size (h, [], []) (.slice none 0 0) (.slice none 0 0) 0 0 from
    ⟨hr, ok, ⟨by simp [flat6], .inl ⟨rfl, rfl⟩⟩, ⟨by simp [flat3], .inl ⟨rfl, rfl⟩⟩, rfl, rfl, (fun b e => by simp [Value.ownBlock] at e), Nat.le_refl _, hp, hrl, Kept.refl _ _⟩)
  have HOK := Lib.hid ok
  have HAt := Lib.hid hat
  obtain ⟨fin, hfin⟩ : ∃ s, s = expLoop now (h.next - h.first).toNat h.first (h, []) := ⟨_, rfl⟩
  have HFin := Lib.hid hfin
  have hn1 := ok.next1
  clear hr ok hat hf c0 c1 c3 c4 c5 hfin
  go_enter Try.func18, Try.ntmps18
  go_upto_region 4 with fail
  go_cut [6] (fun s6 wx => s6 = .int .i64 h.first ∧ wx = w)
  case first =>
    go_wp2_with fail
    go_meet
    exact ⟨rfl, rfl⟩
  case rest =>
  obtain ⟨rfl, hw⟩ := hcut
  rw [hw]
  clear hw
  go_step
  go_cut [5] (fun lv wx => ∃ ml, fin.1.next = h.next ∧ fin.1.first = h.first ∧ HH w wx p r w.heap.size (fin.1, [], fin.2) (.slice none 0 0) lv 0 ml)
  case first =>
    go_wp2_with fail
    go_loopw [5, 6] (fun lv nv wr => ∃ (n : Int) (s : H2) (ml : Nat), nv = .int .i64 n ∧ h.first ≤ n ∧ n ≤ h.next ∧ fin = expLoop now (h.next - n).toNat n s ∧ s.1.next = h.next ∧ s.1.first = h.first ∧ s.1.timeout = h.timeout ∧ (∀ x ∈ s.1.l, x ∈ h.l) ∧ s.2.length + s.1.l.length = h.l.length ∧ HH w wr p r w.heap.size (s.1, [], s.2) (.slice none 0 0) lv 0 ml) (fun _ nv _ => (h.next - intOf nv).toNat)
    case atStart => exact ⟨h.first, (h, []), 0, rfl, Int.le_refl _, hf1, HFin.out, rfl, rfl, rfl, fun _ h => h, by simp, H0.out⟩
    case round =>
      obtain ⟨n, s, ml, rfl, hn0, hnx, hfi, hsn, hsf, hst, hsub, hlen, hh⟩ := hrel
      have HFi := Lib.hid hfi
      have HHr := Lib.hid hh
      have HSub := Lib.hid hsub
      have HSf := Lib.hid hsf
      have HLn := Lib.hid hlen
      obtain ⟨d0, d1, d2, d3, d4, d5, df, dp, dr⟩ := hh.hr.cells
      rw [hsn] at d1
      rw [hst] at d0
      have HSn := Lib.hid hsn
      have HSt := Lib.hid hst
      clear hfi hh hsub d2 d3 d5 df hsn hst hsf hlen H0
      by_cases hlt : n < h.next
      · obtain ⟨⟨vn, vs, va⟩, okb, hv⟩ : ∃ (vv : E3) (okb : Bool), (findE n s.1.l = none ∧ okb = false ∧ vv = (0, 0, 0)) ∨ (findE n s.1.l = some vv ∧ okb = true) := by
          cases hf : findE n s.1.l with
          | none => exact ⟨(0, 0, 0), false, .inl ⟨rfl, rfl, rfl⟩⟩
          | some e => exact ⟨e, true, .inr ⟨rfl, rfl⟩⟩
        have k0 : (Instr.lookup 70 (.map (some r)) (.int .i64 n) true).run Try.prog wr = .ok (.tuple #[.agg #[.int .i64 vn, .int .i64 vs, .int .i64 va], .bool okb]) wr := by
          rcases hv with ⟨h1, h2, h3⟩ | ⟨h1, h2⟩
          · rw [h2]
            injection h3 with h3 h4
            injection h4 with h4 h5
            rw [h3, h4, h5]
            exact HHr.out.hr.m.run_none Try.underlying70 Try.underlying2 (zero_sent wr) (by rw [find_ent, h1]; rfl)
          · rw [h2]
            exact HHr.out.hr.m.run_some Try.underlying70 Try.underlying2 (v := eval3 (vn, vs, va)) (by rw [find_ent, h1]; rfl)
        have HV := Lib.hid hv
        have t1 : wrap64 (n + 1) = n + 1 := w64 (by omega) (by omega)
        clear hv
        go_upto_region 8 with fail
        generalize hW : World.alloc wr _ = W
        have hkW : Kept (fun _ => False) wr W := by rw [← hW]; exact (Kept.refl _ wr).alloc _
        have hq : W.heap[wr.heap.size]? = some (.cells #[.int .i64 vn, .int .i64 vs, .int .i64 va] 38 (0, 0)) := by rw [← hW]; exact heap_alloc_new wr _
        have HW := Lib.hid (HHr.out.run hkW)
        have e0 : W.cell? ⟨p, 0, none⟩ = some (.int .i64 h.timeout) := (hkW.cell (p := ⟨p, 0, none⟩) dp id).trans d0
        have hqlt : wr.heap.size < W.heap.size := (Array.getElem?_eq_some_iff.1 hq).1
        have hwr := HHr.out.sz
        have hpb := HHr.out.pb
        have hrb := HHr.out.rb
        have g0 : W.cell? ⟨wr.heap.size, 0, none⟩ = some (.int .i64 vn) := by simp [World.cell?, hq]
        have g1 : W.cell? ⟨wr.heap.size, 1, none⟩ = some (.int .i64 vs) := by simp [World.cell?, hq]
        have g2 : W.cell? ⟨wr.heap.size, 2, none⟩ = some (.int .i64 va) := by simp [World.cell?, hq]
        have HQ := Lib.hid hq
        clear hW hkW hq k0 d0 d1 d4 dp dr HHr
        rcases HV.out with ⟨h1, rfl, h3⟩ | ⟨h1, rfl⟩
        · have H1 := Lib.hid h1
          clear h1 h3
          go_wp2_with fail
          go_roundw
          case rel =>
            refine ⟨n + 1, s, ml, rfl, by omega, by omega, ?_, HSn.out, HSf.out, HSt.out, HSub.out, HLn.out, HW.out⟩
            rw [HFi.out, toNat_succ hlt]
            show (match findE n s.1.l with | none => _ | some e => _) = _
            rw [H1.out]
          case measure => exact meas4 hlt
        · have hmem := findE_key h1
          obtain ⟨ha0, ha1⟩ := HAt.out _ (HSub.out _ hmem.2)
          have hsz := HW.out.ok.size _ hmem.2
          have hfl := HW.out.ok.fly
          obtain ⟨hvn, _⟩ := hmem
          simp only at hvn ha0 ha1 hsz
          have H1 := Lib.hid h1
          have Hvn := Lib.hid hvn
          have hl24 : ml ≤ 1024 := by have h1 := HW.out.ll; have h2 := HLn.out; have h3 := HOK.out.len; simp only at h1; omega
          have hpW := HW.out.hr.cells.2.2.2.2.2.2.2.1
          clear h1 hvn
          go_upto_region 9 with fail
          go_region_held3 (fun w' => w'.cell? ⟨wr.heap.size, 2, none⟩ = some (.int .i64 va) ∧ w'.cell? ⟨p, 0, none⟩ = some (.int .i64 h.timeout)) (first | exact ⟨g2, e0⟩ | exact Y2)
            (first
              | (go_at_call 32
                 refine (Sat.sub_any now va _ hnow.1 hnow.2 (by omega) (by omega)).mono ?_
                 rintro e w2 ⟨rfl, h2⟩
                 have hk2 : Kept (fun _ => False) W w2 := (Kept.refl (fun _ => False) W).drew.trans (Kept.of_below (S := fun _ => False) h2) (fun _ _ h => h)
                 have Y2 : w2.cell? ⟨wr.heap.size, 2, none⟩ = some (.int .i64 va) ∧ w2.cell? ⟨p, 0, none⟩ = some (.int .i64 h.timeout) := ⟨(hk2.cell (p := ⟨wr.heap.size, 2, none⟩) hqlt id).trans g2, (hk2.cell (p := ⟨p, 0, none⟩) hpW id).trans e0⟩
                 have q0 := (hk2.cell (p := ⟨wr.heap.size, 0, none⟩) hqlt id).trans g0
                 have q1 := (hk2.cell (p := ⟨wr.heap.size, 1, none⟩) hqlt id).trans g1
                 have q2 := (hk2.cell (p := ⟨wr.heap.size, 2, none⟩) hqlt id).trans g2
                 have HW2 := Lib.hid (HW.out.run hk2)
                 have hz2 : wr.heap.size < w2.heap.size := Nat.lt_of_lt_of_le hqlt hk2.size
                 clear h2 hk2))
          clear g0 g1 g2 e0 Y2
          by_cases hle : Sat.clamp64 (now - va) ≤ h.timeout
          · go_wp2_with fail
            go_meet
            have hfs : fin = s := by
              rw [HFi.out, toNat_succ hlt]
              show (match findE n s.1.l with | none => _ | some e => _) = _
              rw [H1.out]
              show (if Sat.clamp64 (now - va) ≤ s.1.timeout then s else _) = s
              rw [HSt.out, if_pos hle]
            rw [hfs]
            first | exact ⟨ml, HSn.out, HSf.out, HW2.out⟩ | exact ⟨ml, HSn.out, HSf.out, HW2.out.run (Kept.refl _ _).drew⟩
          · have hfd : findE vn s.1.l = some (vn, vs, va) := (congrArg (fun z => findE z s.1.l) Hvn.out).trans H1.out
            have HFd := Lib.hid hfd
            clear hfd
            go_wp2_with fail
            refine (drop_any p r _ s.1 (vn, vs, va) HW2.out.hr HFd.out (by omega) (by omega) hsz.1 hsz.2).mono ?_
            rintro e w3 ⟨rfl, h3, k3⟩
            have H4 := Lib.hid (HH.drop HW2.out H1.out h3 k3)
            have hnew : ¬ (wr.heap.size = p ∨ wr.heap.size = r) := by omega
            have r0 := (k3.cell (p := ⟨wr.heap.size, 0, none⟩) hz2 hnew).trans q0
            have r1 := (k3.cell (p := ⟨wr.heap.size, 1, none⟩) hz2 hnew).trans q1
            have r2 := (k3.cell (p := ⟨wr.heap.size, 2, none⟩) hz2 hnew).trans q2
            clear h3 k3 q0 q1 q2 hnew hsz hfl
            go_wp2_with (first
              | (at_builtin
                 refine wpList_app rfl (.tmp 48) (.tmp 50) 34 rfl w.heap.size 38 (.agg #[.int .i64 0, .int .i64 0, .int .i64 0]) 3 24 Try.underlying34 info_sent rfl (by omega) u5 ml (flat3 s.2) rfl (H4.out.ol.alloc _) (some ⟨w3.heap.size, 0, none⟩) 1 1 (flat3 [(vn, vs, va)]) rfl (rd_three w3 _ (vn, vs, va)) (flat3_one _) (by simp only [maxLen]; omega) (by omega) (by have := H4.out.sz; simp; omega) ?_
                 intro v2 w4 hown hg hat'
                 have H5 := Lib.hid (HH.lost (H4.out.run ((Kept.refl (fun _ => False) w3).alloc _)) hown hg (by simpa using hat'))
                 clear hown hg hat'))
            go_roundw
            case rel =>
              refine ⟨n + 1, (dropE s.1 (vn, vs, va), s.2 ++ [(vn, vs, va)]), ml + 1, rfl, by omega, by omega, ?_, HSn.out, HSf.out, HSt.out, fun y hy => HSub.out y (eraseE_mem hy), ?_, H5.out⟩
              · rw [HFi.out, toNat_succ hlt]
                show (match findE n s.1.l with | none => _ | some e => _) = _
                rw [H1.out]
                show (if Sat.clamp64 (now - va) ≤ s.1.timeout then s else _) = _
                rw [HSt.out, if_neg (by omega)]
              · have h1 := eraseE_len HFd.out
                have h2 := HLn.out
                show (s.2 ++ [(vn, vs, va)]).length + (eraseE vn s.1.l).length = _
                rw [List.length_append]
                simp only [List.length_cons, List.length_nil]
                omega
            case measure => exact meas4 hlt
      · obtain rfl : n = h.next := by omega
        have hfs : fin = s := by rw [HFi.out]; simp [expLoop]
        have HFs := Lib.hid hfs
        clear hfs
        go_wp2_with fail
        go_meet
        rw [HFs.out]
        exact ⟨ml, HSn.out, HSf.out, HHr.out⟩
  case rest =>
  obtain ⟨ml, hn, hf, hh⟩ := hcut
  rename World => X
  have HX := Lib.hid hh
  obtain ⟨f2, hf2⟩ : ∃ z, z = firstLoop (h.next - h.first).toNat fin.1 := ⟨_, rfl⟩
  have HF2 := Lib.hid hf2
  have hnx : h.next ≤ 1000000000 := hn1
  clear hh hf2 c2 H0
  go_wp2_with fail
  go_loopw [] (fun wr => ∃ (f : Int), h.first ≤ f ∧ f ≤ h.next ∧ f2 = firstLoop (h.next - f).toNat { fin.1 with first := f } ∧ HH w wr p r w.heap.size ({ fin.1 with first := f }, [], fin.2) (.slice none 0 0) u5 0 ml) (fun wr => (h.next - intOf ((wr.cell? ⟨p, 2, none⟩).getD (.int .i64 0))).toNat)
  case atStart =>
    refine ⟨h.first, Int.le_refl _, hf1, ?_, ?_⟩
    · rw [HF2.out, ← hf]
    · rw [← hf]; exact HX.out
  case round =>
    obtain ⟨f, hg0, hg1, hfe, hh⟩ := hrel
    have HFe := Lib.hid hfe
    have HHr := Lib.hid hh
    obtain ⟨d0, d1, d2, d3, d4, d5, df, dp, dr⟩ := hh.hr.cells
    simp only at d1 d2
    rw [hn] at d1
    have y2 := df 2
    have tf : wrap64 (f + 1) = f + 1 := w64 (by omega) (by omega)
    clear hfe hh d0 d3 d5 df
    have fin2 : f2 = { fin.1 with first := f } → (expire h now).1 = { fin.1 with first := f } ∧ (expire h now).2 = fin.2 := fun e => by
      unfold expire
      simp only [← HFin.out, ← HF2.out, e]
      exact ⟨trivial, trivial⟩
    have FIN2 := Lib.hid fin2
    clear fin2
    by_cases hlt : f < h.next
    · obtain ⟨⟨vn, vs, va⟩, okb, hv⟩ : ∃ (vv : E3) (okb : Bool), (findE f fin.1.l = none ∧ okb = false ∧ vv = (0, 0, 0)) ∨ (findE f fin.1.l = some vv ∧ okb = true) := by
        cases hf : findE f fin.1.l with
        | none => exact ⟨(0, 0, 0), false, .inl ⟨rfl, rfl, rfl⟩⟩
        | some e => exact ⟨e, true, .inr ⟨rfl, rfl⟩⟩
      have look : ∀ V : World, MH V r (fin.1.l.map ent) → (Instr.lookup 70 (.map (some r)) (.int .i64 f) true).run Try.prog V = .ok (.tuple #[.agg #[.int .i64 vn, .int .i64 vs, .int .i64 va], .bool okb]) V := fun V hm => by
        rcases hv with ⟨h1, h2, h3⟩ | ⟨h1, h2⟩
        · rw [h2]
          injection h3 with h3 h4
          injection h4 with h4 h5
          rw [h3, h4, h5]
          exact hm.run_none Try.underlying70 Try.underlying2 (zero_sent V) (by rw [find_ent, h1]; rfl)
        · rw [h2]
          exact hm.run_some Try.underlying70 Try.underlying2 (v := eval3 (vn, vs, va)) (by rw [find_ent, h1]; rfl)
      have HV := Lib.hid hv
      clear hv
      go_upto_region 12 with fail
      go_quiet (fail)
      go_upto_region 13 with fail
      generalize hW : World.drewN wr _ = W
      have hk : Kept (fun _ => False) wr W := by rw [← hW]; exact (Kept.refl _ wr).drewN _
      have HW := Lib.hid (HHr.out.run hk)
      have d1' := (hk.cell (p := ⟨p, 1, none⟩) dp id).trans d1
      have d2' := (hk.cell (p := ⟨p, 2, none⟩) dp id).trans d2
      have d4' := (hk.cell (p := ⟨p, 4, none⟩) dp id).trans d4
      have dpW := Nat.lt_of_lt_of_le dp hk.size
      have HD2 := Lib.hid d2
      clear hW hk d1 d2 d4 dp dr y2 HHr
      have k0 := look W HW.out.hr.m
      have k1 := look W.drew HW.out.hr.m
      have k2 := fun z => look (W.alloc z) (HW.out.hr.m.kept ((Kept.refl (fun _ => False) W).alloc z) id)
      have k3 := fun z => look (W.alloc z).drew (HW.out.hr.m.kept ((Kept.refl (fun _ => False) W).alloc z).drew id)
      have e2 : ∀ z, (W.alloc z).cell? ⟨p, 2, none⟩ = some (.int .i64 f) := fun z => ((Kept.refl (fun _ => False) W).alloc z).cell (p := ⟨p, 2, none⟩) dpW id |>.trans d2'
      have e4 : ∀ z, (W.alloc z).cell? ⟨p, 4, none⟩ = some (.map (some r)) := fun z => ((Kept.refl (fun _ => False) W).alloc z).cell (p := ⟨p, 4, none⟩) dpW id |>.trans d4'
      clear look
      go_cut [10] (fun s10 wx => s10 = .bool okb ∧ Kept (fun _ => False) W wx)
      case first =>
        go_region_held3 (fun w' => w'.cell? ⟨p, 2, none⟩ = some (.int .i64 f) ∧ w'.cell? ⟨p, 4, none⟩ = some (.map (some r))) (first | exact ⟨d2', d4'⟩ | exact ⟨e2 _, e4 _⟩) (fail)
        all_goals (go_wp2_with fail; go_meet; exact ⟨rfl, ((Kept.refl _ W).alloc _).drew⟩)
      case rest =>
      obtain ⟨rfl, hk5⟩ := hcut
      rename World => V
      have HVV := Lib.hid (HW.out.run hk5)
      have g2 := (hk5.cell (p := ⟨p, 2, none⟩) dpW id).trans d2'
      have y2 := HVV.out.hr.cells.2.2.2.2.2.2.1 2
      clear d1' d2' d4' k0 k1 k2 k3 e2 e4
      rcases HV.out with ⟨h1, rfl, h3⟩ | ⟨h1, rfl⟩
      · have H1 := Lib.hid h1
        clear h1 h3
        go_wp2_with fail
        go_roundw
        case rel =>
          refine ⟨f + 1, by omega, by omega, ?_, HVV.out.setFirst (f + 1)⟩
          rw [HFe.out, toNat_succ hlt]
          show (match findE f fin.1.l with | none => _ | some _ => _) = _
          rw [H1.out]
        case measure =>
          have h1 := (HVV.out.setFirst (f + 1)).hr.cells.2.2.1
          rw [h1, HD2.out]
          exact meas4 hlt
      · have H1 := Lib.hid h1
        clear h1
        go_wp2_with fail
        go_ret
        have he : f2 = { fin.1 with first := f } := by
          rw [HFe.out, toNat_succ hlt]
          show (match findE f fin.1.l with | none => _ | some _ => _) = _
          rw [H1.out]
        refine ⟨_, rfl, ml, ?_⟩
        rw [(FIN2.out he).1, (FIN2.out he).2]
        exact HVV.out
    · obtain rfl : f = h.next := by omega
      go_upto_region 12 with fail
      go_quiet (fail)
      go_wp2_with fail
      go_ret
      have he : f2 = { fin.1 with first := h.next } := by
        rw [HFe.out]
        simp [firstLoop]
      refine ⟨_, rfl, ml, ?_⟩
      rw [(FIN2.out he).1, (FIN2.out he).2]
      exact HHr.out.run ((Kept.refl _ wr).drewN _)
end Go.Proofs.Ytfemmbipglpalaa.History
