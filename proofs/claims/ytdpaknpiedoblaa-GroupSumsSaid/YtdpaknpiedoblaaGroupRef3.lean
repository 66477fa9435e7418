/- The reference's Add behind the open group; no condition but the ranges in each. -/
import Derived.Test.YtdpaknpiedoblaaGroupRef
import Derived.Deep.DeepCutAuto
namespace Go.Proofs.Ytdpaknpiedoblaa.Group
open Go.RowKit Go.Proofs.Ytdpaknpiedoblaa.Plain Go.Proofs.Ytdpaknpiedoblaa.Heap

theorem drew_heap (w : World) : w.drew.heap = w.heap := rfl
theorem set_at1 {w : World} {p : Nat} {b : Int} {so sd v : Value} (h : QR w p b so sd) : QR (w.setCell ⟨p, 1, none⟩ v) p b v sd := by
  unfold QR at h ⊢
  simp [World.setCell, Array.getElem?_modify, h]
theorem set_at2 {w : World} {p : Nat} {b : Int} {so sd v : Value} (h : QR w p b so sd) : QR (w.setCell ⟨p, 2, none⟩ v) p b so v := by
  unfold QR at h ⊢
  simp [World.setCell, Array.getElem?_modify, h]
theorem QR.kept {S : Nat → Prop} {w w' : World} {p : Nat} {b : Int} {so sd : Value} (h : QR w p b so sd) (hk : Kept S w w') (hp : ¬ S p) : QR w' p b so sd := (hk.block p h.cells.2.2.2.2 hp).trans h
theorem SL.kept {S : Nat → Prop} {w w' : World} {p : Nat} {v : Value} {o : Option G4} (h : SL w p v o) (hk : Kept S w w') (hS : ∀ i, S i → i = p) : SL w' p v o := by
  rcases h with h | ⟨f, l, c, s, k, t, h1, h2, h3, h4⟩
  · exact .inl h
  · exact .inr ⟨f, l, c, s, k, t, h1, h2, h3, (hk.block k (Array.getElem?_eq_some_iff.1 h4).1 (fun e => h3 (hS k e))).trans h4⟩
theorem SL.kept2 {S : Nat → Prop} {w w' : World} {q : Nat} {v : Value} {o : Option G4} (h : SL w q v o) (hk : Kept S w w') (hS : ∀ k c0 c1 c2 c3 t, w.heap[k]? = some (.cells #[c0, c1, c2, c3] t (0, 0)) → ¬ S k) : SL w' q v o := by
  rcases h with h | ⟨f, l, c, s, k, t, h1, h2, h3, h4⟩
  · exact .inl h
  · exact .inr ⟨f, l, c, s, k, t, h1, h2, h3, (hk.block k (Array.getElem?_eq_some_iff.1 h4).1 (hS _ _ _ _ _ _ h4)).trans h4⟩
/-- The deltas of a done group and the one ahead of it. -/
def dl (l c s : Int) (d : Option G4) : Dl := match d with
  | none => (0, 0, 0, false)
  | some (_, l0, c0, s0) => (Sat.clamp64 (l - l0), Sat.clamp64 (c - c0), s - s0, true)
set_option maxRecDepth 10000 in
set_option maxHeartbeats 4000000 in
theorem ref_add_done (seq size sent came : Int) (ecn : Bool) (p : Nat) (w : World) (b : Int) (sd : Value) (d : Option G4) (f l c s : Int) (k : Nat) (t : TypeId) (h : QR w p b (.slice (some ⟨k, 0, none⟩) 1 1) sd) (hk : w.heap[k]? = some (.cells #[.int .i64 f, .int .i64 l, .int .i64 c, .int .i64 s] t (0, 0))) (hd : SL w p sd d)
    (h1 : ¬ size < 0) (h2 : ¬ 1500 < size) (h3 : ¬ sent < 0) (h4 : ¬ 1125899906842624 < sent) (h5 : ¬ came < -1125899906842624) (h6 : ¬ 1125899906842624 < came) (h7 : ¬ sent < f) (h8 : IntKind.i64.wrap (sent - f) = sent - f) (h9 : ¬ sent - f ≤ b)
    (hl : -4503599627370496 ≤ l ∧ l ≤ 4503599627370496) (hc : -4503599627370496 ≤ c ∧ c ≤ 4503599627370496) (hs : 0 ≤ s ∧ s ≤ 4611686018427387904) (hdb : ∀ g, d = some g → (-4503599627370496 ≤ g.2.1 ∧ g.2.1 ≤ 4503599627370496) ∧ (-4503599627370496 ≤ g.2.2.1 ∧ g.2.2.1 ≤ 4503599627370496) ∧ 0 ≤ g.2.2.2 ∧ g.2.2.2 ≤ 4611686018427387904) :
    Calls Try.prog 13 #[.pointer (some ⟨p, 0, none⟩), ack seq size sent came false ecn] w fun e w' => e = .returned (dval (dl l c s d)) ∧
      ∃ so' sd', QR w' p b so' sd' ∧ SL w' p so' (some (sent, sent, came, size)) ∧ SL w' p sd' (some (f, l, c, s)) ∧ Kept (fun k => k = p) w w' := by
  unfold ack
  obtain ⟨c0, c1, c2, hf, hp⟩ := h.cells
  obtain ⟨x0, x1, x2, x3⟩ := block4 hk
  have hkl : k < w.heap.size := (Array.getElem?_eq_some_iff.1 hk).1
  have H := Lib.hid h
  have HD0 := Lib.hid hd
  have f1 := hf 1
  have z0 := cell4 c0 hp
  have z1 := cell3 c1 hp
  have z2 := froz4 f1 hp
  have y0 := cell3 x0 hkl
  have y1 := cell3 x1 hkl
  have y2 := cell3 x2 hkl
  have y3 := cell3 x3 hkl
  have n1 : p ≠ w.heap.size + 1 := by omega
  have n2 : w.heap.size + 1 ≠ p := by omega
  have d7 : decide (sent < f) = false := decide_eq_false h7
  have d9 : decide (sent - f ≤ b) = false := decide_eq_false h9
  have Hdb := Lib.hid hdb
  clear h hf c0 c2 x0 x1 x2 x3 hk hd hdb
  go_enter Try.func13, Try.ntmps13
  go_upto_region 11 with fail
  go_quiet (fail)
  go_upto_region 15 with fail
  generalize hW : World.drewN _ _ = W4
  have hA := alloc4_facts w (.cells #[.int .i64 seq, .int .i64 size, .int .i64 sent, .int .i64 came, .bool false, .bool ecn] 39) (.cells #[.int .i64 0, .int .i64 0, .int .i64 0] 47) (.cells #[.int .i64 sent, .int .i64 sent, .int .i64 came, .int .i64 size] 31) (.cells #[.int .i64 f, .int .i64 l, .int .i64 c, .int .i64 s] 31)
  have hK : Kept (fun _ => False) w W4 := by rw [← hW]; exact (hA _).1
  have hS : W4.heap.size = w.heap.size + 1 + 1 + 1 + 1 := by rw [← hW]; exact (hA _).2.1
  have hO : W4.heap[w.heap.size + 1 + 1 + 1]? = some (.cells #[.int .i64 f, .int .i64 l, .int .i64 c, .int .i64 s] 31 (0, 0)) := by rw [← hW]; exact (hA _).2.2.1
  have hF : W4.heap[w.heap.size + 1 + 1]? = some (.cells #[.int .i64 sent, .int .i64 sent, .int .i64 came, .int .i64 size] 31 (0, 0)) := by rw [← hW]; exact (hA _).2.2.2.1
  have hD : W4.heap[w.heap.size + 1]? = some (.cells #[.int .i64 0, .int .i64 0, .int .i64 0] 47 (0, 0)) := by rw [← hW]; exact (hA _).2.2.2.2.1
  clear hW hA z0 z1 z2 y0 y1 y2 y3 c1 f1 d7 d9
  have hQ : QR W4 p b (.slice (some ⟨k, 0, none⟩) 1 1) sd := H.out.kept hK id
  have HS4 := Lib.hid (HD0.out.kept hK (fun _ h => h.elim))
  obtain ⟨g0, g1, g2, g3⟩ := block4 hF
  have p1 : ∀ x, (W4.alloc x).cell? ⟨p, 1, none⟩ = some (.slice (some ⟨k, 0, none⟩) 1 1) := fun x => ((Kept.refl (fun _ => False) W4).alloc x).cell (p := ⟨p, 1, none⟩) (by show p < _; omega) id |>.trans hQ.cells.2.1
  have p2 : ∀ x, (W4.alloc x).frozen? ⟨p, 1, none⟩ = false := fun x => ((Kept.refl (fun _ => False) W4).alloc x).frozen (p := ⟨p, 1, none⟩) (by show p < _; omega) id |>.trans (hQ.cells.2.2.2.1 1)
  have HQ := Lib.hid hQ
  have HO := Lib.hid hO
  have HD := Lib.hid hD
  have HK := Lib.hid hK
  clear hQ hO hD hK hF
  go_cut [] (fun wx => ∃ so, QR wx p b so sd ∧ SL wx p so (some (sent, sent, came, size)) ∧ Kept (fun g => g = p) W4 wx)
  case first =>
    go_wp2_with fail
    go_meet
    have hk1 := (Kept.refl (fun g => g = p) W4).alloc (.cells #[.int .i64 sent, .int .i64 sent, .int .i64 came, .int .i64 size] 31)
    have hq1 : QR (W4.alloc (.cells #[.int .i64 sent, .int .i64 sent, .int .i64 came, .int .i64 size] 31)) p b (.slice (some ⟨k, 0, none⟩) 1 1) sd := HQ.out.kept ((Kept.refl (fun _ => False) W4).alloc _) id
    have hn := heap_alloc_new W4 (.cells #[.int .i64 sent, .int .i64 sent, .int .i64 came, .int .i64 size] 31)
    rw [hS] at hn
    refine ⟨_, set_at1 hq1, .inr ⟨_, _, _, _, w.heap.size + 1 + 1 + 1 + 1, 31, rfl, rfl, by omega, ?_⟩, hk1.setCell (p := ⟨p, 1, none⟩) (.inl rfl) _⟩
    exact (((Kept.refl (fun g => g = p) (W4.alloc _)).setCell (p := ⟨p, 1, none⟩) (.inl rfl) _).block _ (by simp; omega) (by omega)).trans hn
  case rest =>
  obtain ⟨so, hQ1, hS1, hK1⟩ := hcut
  rename World => X
  have hX := hK1.size
  have hO1 := (hK1.block (w.heap.size + 1 + 1 + 1) (by omega) (by omega)).trans HO.out
  have hD1 := (hK1.block (w.heap.size + 1) (by omega) (by omega)).trans HD.out
  have hKX : Kept (fun g => g = p) w X := (HK.out.mono (fun _ _ h => h.elim)).trans hK1 (fun _ _ h => h)
  obtain ⟨o0, o1, o2, o3⟩ := block4 hO1
  have q2 : X.cell? ⟨p, 2, none⟩ = some sd := hQ1.cells.2.2.1
  have q3 : ∀ x, (X.alloc x).cell? ⟨p, 2, none⟩ = some sd := fun x => ((Kept.refl (fun _ => False) X).alloc x).cell (p := ⟨p, 2, none⟩) (by show p < _; omega) id |>.trans hQ1.cells.2.2.1
  have q4 : ∀ x, (X.alloc x).frozen? ⟨p, 2, none⟩ = false := fun x => ((Kept.refl (fun _ => False) X).alloc x).frozen (p := ⟨p, 2, none⟩) (by show p < _; omega) id |>.trans (hQ1.cells.2.2.2.1 2)
  have HQ1 := Lib.hid hQ1
  have HS1 := Lib.hid hS1
  have HO1 := Lib.hid hO1
  have HD1 := Lib.hid hD1
  have HKX := Lib.hid hKX
  have hSX : w.heap.size + 1 + 1 + 1 < X.heap.size := by omega
  clear hQ1 hS1 hO1 hD1 hKX hK1 g0 g1 g2 g3 p1 p2 HQ HO HD HK HS4
  go_upto_region 17 with fail
  go_cut [] (fun wx => ∃ sd', QR wx p b so sd' ∧ SL wx p so (some (sent, sent, came, size)) ∧ SL wx p sd' (some (f, l, c, s)) ∧ Kept (fun g => g = p) X wx)
  case first =>
    go_wp2_with fail
    go_meet
    have hk1 := (Kept.refl (fun g => g = p) X).alloc (.cells #[.int .i64 f, .int .i64 l, .int .i64 c, .int .i64 s] 31)
    have hq1 : QR (X.alloc (.cells #[.int .i64 f, .int .i64 l, .int .i64 c, .int .i64 s] 31)) p b so sd := HQ1.out.kept ((Kept.refl (fun _ => False) X).alloc _) id
    have hn := heap_alloc_new X (.cells #[.int .i64 f, .int .i64 l, .int .i64 c, .int .i64 s] 31)
    have hk2 := hk1.setCell (p := ⟨p, 2, none⟩) (.inl rfl) (.slice (some ⟨X.heap.size, 0, none⟩) 1 1)
    refine ⟨_, set_at2 hq1, HS1.out.kept hk2 (fun _ h => h), .inr ⟨_, _, _, _, X.heap.size, 31, rfl, rfl, by omega, ?_⟩, hk2⟩
    exact (((Kept.refl (fun g => g = p) (X.alloc _)).setCell (p := ⟨p, 2, none⟩) (.inl rfl) _).block _ (by simp) (by omega)).trans hn
  case rest =>
  obtain ⟨sd', hQ2, hS2, hS3, hK2⟩ := hcut
  rename World => Y
  have hY := hK2.size
  have hO2 := (hK2.block (w.heap.size + 1 + 1 + 1) (by omega) (by omega)).trans HO1.out
  have hD2 := (hK2.block (w.heap.size + 1) (by omega) (by omega)).trans HD1.out
  have hKY : Kept (fun g => g = p) w Y := HKX.out.trans hK2 (fun _ _ h => h)
  have hdY := HD0.out.kept hKY (fun _ h => h)
  clear o0 o1 o2 o3 q2 q3 q4 HQ1 HS1 HO1 HD1 HKX hK2
  obtain ⟨o0, o1, o2, o3⟩ := block4 hO2
  obtain ⟨e0, e1, e2, e3, e4, e5⟩ := block3 hD2
  have HD2 := Lib.hid hD2
  have HQ2 := Lib.hid hQ2
  have HS2 := Lib.hid hS2
  have HS3 := Lib.hid hS3
  have HKY := Lib.hid hKY
  clear hQ2 hS2 hS3 hKY hO2 hD2
  have fin : ∀ x y z, ∃ so' sd', QR (((Y.setCell ⟨w.heap.size + 1, 0, none⟩ x).setCell ⟨w.heap.size + 1, 1, none⟩ y).setCell ⟨w.heap.size + 1, 2, none⟩ z) p b so' sd' ∧ SL (((Y.setCell ⟨w.heap.size + 1, 0, none⟩ x).setCell ⟨w.heap.size + 1, 1, none⟩ y).setCell ⟨w.heap.size + 1, 2, none⟩ z) p so' (some (sent, sent, came, size)) ∧ SL (((Y.setCell ⟨w.heap.size + 1, 0, none⟩ x).setCell ⟨w.heap.size + 1, 1, none⟩ y).setCell ⟨w.heap.size + 1, 2, none⟩ z) p sd' (some (f, l, c, s)) ∧ Kept (fun k => k = p) w (((Y.setCell ⟨w.heap.size + 1, 0, none⟩ x).setCell ⟨w.heap.size + 1, 1, none⟩ y).setCell ⟨w.heap.size + 1, 2, none⟩ z) := fun x y z => by
    have T := tail3' Y (w.heap.size + 1) x y z
    have hne : ∀ k c0 c1 c2 c3 t, Y.heap[k]? = some (.cells #[c0, c1, c2, c3] t (0, 0)) → ¬ (fun i => i = w.heap.size + 1) k := fun k c0 c1 c2 c3 t hk e => by
      simp only at e
      subst e
      rw [HD2.out] at hk
      simp at hk
    exact ⟨so, sd', HQ2.out.kept T (by omega), HS2.out.kept2 T hne, HS3.out.kept2 T hne, tail3 HKY.out (by omega) x y z⟩
  have FIN := Lib.hid fin
  clear fin
  rcases hdY with ⟨rfl, rfl⟩ | ⟨f0, l0, q0, s0, k0, t0, rfl, rfl, hk0, hk⟩
  · go_wp2_with fail
    refine bodyPost_ret (v := .tuple #[.agg #[.int .i64 0, .int .i64 0, .int .i64 0], .bool false]) (by simp [results, Try.results13, go_sem, *]) rfl ⟨rfl, ?_⟩
    exact FIN.out _ _ _
  · obtain ⟨y0, y1, y2, y3⟩ := block4 hk
    have hkn : k0 ≠ w.heap.size + 1 := by
      intro e
      subst e
      rw [HD2.out] at hk
      simp at hk
    have hkY : k0 < Y.heap.size := (Array.getElem?_eq_some_iff.1 hk).1
    have hb := Hdb.out _ rfl
    simp only at hb
    have SK : ∀ x y z, (fun w' : World => w'.cell? ⟨w.heap.size + 1 + 1 + 1, 1, none⟩ = some (.int .i64 l) ∧ w'.cell? ⟨w.heap.size + 1 + 1 + 1, 2, none⟩ = some (.int .i64 c) ∧ w'.cell? ⟨w.heap.size + 1 + 1 + 1, 3, none⟩ = some (.int .i64 s) ∧ w'.cell? ⟨k0, 1, none⟩ = some (.int .i64 l0) ∧ w'.cell? ⟨k0, 2, none⟩ = some (.int .i64 q0) ∧ w'.cell? ⟨k0, 3, none⟩ = some (.int .i64 s0)) (((Y.setCell ⟨w.heap.size + 1, 0, none⟩ x).setCell ⟨w.heap.size + 1, 1, none⟩ y).setCell ⟨w.heap.size + 1, 2, none⟩ z) := fun x y z => by
      have T := tail3' Y (w.heap.size + 1) x y z
      exact ⟨(T.cell (p := ⟨w.heap.size + 1 + 1 + 1, 1, none⟩) (show w.heap.size + 1 + 1 + 1 < Y.heap.size by omega) (show ¬ w.heap.size + 1 + 1 + 1 = w.heap.size + 1 by omega)).trans o1, (T.cell (p := ⟨w.heap.size + 1 + 1 + 1, 2, none⟩) (show w.heap.size + 1 + 1 + 1 < Y.heap.size by omega) (show ¬ w.heap.size + 1 + 1 + 1 = w.heap.size + 1 by omega)).trans o2, (T.cell (p := ⟨w.heap.size + 1 + 1 + 1, 3, none⟩) (show w.heap.size + 1 + 1 + 1 < Y.heap.size by omega) (show ¬ w.heap.size + 1 + 1 + 1 = w.heap.size + 1 by omega)).trans o3,
        (T.cell (p := ⟨k0, 1, none⟩) hkY hkn).trans y1, (T.cell (p := ⟨k0, 2, none⟩) hkY hkn).trans y2, (T.cell (p := ⟨k0, 3, none⟩) hkY hkn).trans y3⟩
    have u1 : IntKind.i64.wrap (s - s0) = s - s0 := IntWalk.i64_in _ (by omega)
    have u2 : wrap64 (s - s0) = s - s0 := w64 (by omega) (by omega)
    clear hk hb y0 o0
    go_upto_region 20 with fail
    go_region_held3 (fun w' => w'.cell? ⟨w.heap.size + 1 + 1 + 1, 1, none⟩ = some (.int .i64 l) ∧ w'.cell? ⟨w.heap.size + 1 + 1 + 1, 2, none⟩ = some (.int .i64 c) ∧ w'.cell? ⟨w.heap.size + 1 + 1 + 1, 3, none⟩ = some (.int .i64 s) ∧ w'.cell? ⟨k0, 1, none⟩ = some (.int .i64 l0) ∧ w'.cell? ⟨k0, 2, none⟩ = some (.int .i64 q0) ∧ w'.cell? ⟨k0, 3, none⟩ = some (.int .i64 s0)) (first | exact ⟨o1, o2, o3, y1, y2, y3⟩ | exact SK _ _ _)
      (first
        | (go_at_call_of 19 l
           refine (Sat.ref_sub_any _ _ _ ?b1 ?b2 ?b3 ?b4).mono ?_
           case b1 => have := Hdb.out _ rfl; omega
           case b2 => have := Hdb.out _ rfl; omega
           case b3 => have := Hdb.out _ rfl; simp only at this; omega
           case b4 => have := Hdb.out _ rfl; simp only at this; omega
           rintro e w2 ⟨rfl, rfl⟩)
        | (go_at_call_of 19 c
           refine (Sat.ref_sub_any _ _ _ ?b1 ?b2 ?b3 ?b4).mono ?_
           case b1 => have := Hdb.out _ rfl; omega
           case b2 => have := Hdb.out _ rfl; omega
           case b3 => have := Hdb.out _ rfl; simp only at this; omega
           case b4 => have := Hdb.out _ rfl; simp only at this; omega
           rintro e w2 ⟨rfl, rfl⟩))
    all_goals
      go_wp2_with fail
      generalize hZ : World.drew _ = Z
      have hfin := FIN.out (.int .i64 (Sat.clamp64 (l - l0))) (.int .i64 (Sat.clamp64 (c - q0))) (.int .i64 (s - s0))
      have hZc : Z.heap[w.heap.size + 1]? = some (.cells #[.int .i64 (Sat.clamp64 (l - l0)), .int .i64 (Sat.clamp64 (c - q0)), .int .i64 (s - s0)] 47 (0, 0)) := by
        have h := HD2.out
        rw [← hZ, drew_heap]
        simp [World.setCell, Array.getElem?_modify, h]
      obtain ⟨v0, v1, v2, _⟩ := block3 hZc
      refine bodyPost_ret (v := .tuple #[.agg #[.int .i64 (Sat.clamp64 (l - l0)), .int .i64 (Sat.clamp64 (c - q0)), .int .i64 (s - s0)], .bool true]) (by simp [results, Try.results13, go_sem, v0, v1, v2]) rfl ⟨rfl, ?_⟩
      rw [← hZ]
      obtain ⟨so', sd', r1, r2, r3, r4⟩ := hfin
      exact ⟨so', sd', r1, r2, r3, r4.drew⟩
end Go.Proofs.Ytdpaknpiedoblaa.Group
