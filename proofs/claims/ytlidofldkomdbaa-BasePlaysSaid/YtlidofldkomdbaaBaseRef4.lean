/- The reference's Add; no condition but the ranges in each. -/
import Derived.Test.YtlidofldkomdbaaBaseRef3
import Derived.Deep.DeepCutAuto
namespace Go.Proofs.Ytlidofldkomdbaa.Base
open Go.RowKit Go.Proofs.Ytlidofldkomdbaa.Plain Go.Proofs.Ytlidofldkomdbaa.Heap Go.Proofs.Ytlidofldkomdbaa.Open

theorem RCell.alloc {w : World} {p : Addr} {v : Value} (h : w.cell? p = some v) (x : Obj) : (w.alloc x).cell? p = some v := by
  have hg : p.block < w.heap.size := by
    rcases Nat.lt_or_ge p.block w.heap.size with h1 | h1
    · exact h1
    · simp [World.cell?, Array.getElem?_eq_none h1] at h
  exact (((Kept.refl (fun _ => False) w).alloc x).cell hg id).trans h
theorem rd_two (w : World) (t : TypeId) (u v : Value) : Rd (w.alloc (.cells #[u, v] t)) 2 (some ⟨w.heap.size, 0, none⟩) 1 [u, v] :=
  Rd.block (cs := #[u, v]) (heap_alloc_new w _) rfl
theorem rd_two' (w : World) (t : TypeId) (u v : Value) (k : Nat) (hk : w.heap.size = k) : Rd (w.alloc (.cells #[u, v] t)) 2 (some ⟨k, 0, none⟩) 1 [u, v] := hk ▸ rd_two w t u v
theorem own_empty' (w : World) (base : Nat) (e : TypeId) (size : Nat) (hb : base ≤ w.heap.size) (k : Nat) (hk : w.heap.size = k) : (w.alloc (.cells #[] e)).ownsRow base e size (.slice (some ⟨k, 0, none⟩) 0 0) 0 [] := hk ▸ own_empty w base e size hb
theorem own_ge {w : World} {base : Nat} {e : TypeId} {size n : Nat} {v : Value} {xs : List Value} (h : w.ownsRow base e size v n xs) {k : Nat} (hk : v.ownBlock = some k) : base ≤ k := by
  rcases h.2 with ⟨rfl, _⟩ | ⟨g, cap, cur, rfl, hb, _⟩
  · simp [Value.ownBlock] at hk
  · simp [Value.ownBlock] at hk
    omega
theorem own_rel {X W : World} {e : TypeId} {v : Value} {n : Nat} {xs : List Value} (h : W.ownsRow X.heap.size e 2 v (n + 1) xs) (hk : Kept (fun _ => False) X W) :
    ∃ A c, v = .slice A (n + 1) c ∧ Rd W 2 A (n + 1) xs ∧ (∀ b off, A = some ⟨b, off, none⟩ → X.heap.size ≤ b) ∧ Kept (fun _ => False) X W := by
  obtain ⟨g, c, rfl⟩ := own_form h (by omega)
  exact ⟨_, _, rfl, Rd.of_own h, (fun b off e => by injection e with e; injection e with e; rw [← e]; exact own_ge h rfl), hk⟩
theorem own_shape {w : World} {base n : Nat} {e : TypeId} {size : Nat} {v : Value} {xs : List Value} (h : w.ownsRow base e size v n xs) : ∃ A c, v = .slice A n c := by
  rcases h.2 with ⟨rfl, rfl⟩ | ⟨g, cap, cur, rfl, _⟩
  · exact ⟨_, _, rfl⟩
  · exact ⟨_, _, rfl⟩
theorem own_blk {w : World} {base n c : Nat} {e : TypeId} {size : Nat} {A : Option Addr} {xs : List Value} (h : w.ownsRow base e size (.slice A n c) n xs) : ∀ a, A = some a → base ≤ a.block := by
  intro a ha
  rcases h.2 with ⟨he, _⟩ | ⟨g, cap, cur, he, hb, _⟩
  · injection he with he
    rw [ha] at he
    cases he
  · injection he with he
    rw [ha] at he
    injection he with he
    rw [he]
    exact hb
theorem rleast_bd {l : List (Int × Int)} (h : rok l) : -1125899906842624 ≤ (rleast l).1 ∧ (rleast l).1 ≤ 1125899906842624 := by
  rcases rleast_isL l (-1) (fun x hx => by have := h x hx; omega) with ⟨e, _⟩ | ⟨_, ⟨x, h1, _, h2⟩, _⟩
  · rw [e]; omega
  · have := h x h1; omega
theorem info_sm : (Try.prog.info? 57).map (fun i => (i.zero, i.size, i.bytes)) = some (some (.agg #[.int .i64 0, .int .i64 0]), 2, 16) := by kernel_rfl
theorem drewN_heap (w : World) (k : Nat) : (w.drewN k).heap = w.heap := rfl
theorem drew_heap (w : World) : w.drew.heap = w.heap := rfl
set_option maxRecDepth 10000 in
set_option maxHeartbeats 1000000 in
theorem ref_add (q : Nat) (w : World) (r : RS) (A : Option Addr) (n c : Nat) (h : QR w q r (.slice A n c)) (hn : r.l.length = n) (hr : Rd w 2 A n (flat r.l)) (hA : ∀ b off, A = some ⟨b, off, none⟩ → b ≠ q) (hm : n ≤ 1000) (hw : 1 ≤ r.width) (hr0 : 1 ≤ r.rows) (hr1 : r.rows ≤ 64)
    (hn0 : 0 ≤ r.newest) (hn1 : r.newest ≤ 1125899906842624) (hok : rok r.l) (at_ delay N D : Int) (hN : hold at_ 0 1125899906842624 / r.width = N) (hD : hold delay (-1125899906842624) 1125899906842624 = D) :
    Calls Try.prog 14 #[.pointer (some ⟨q, 0, none⟩), .int .i64 at_, .int .i64 delay] w
      fun e w' => e = .returned (.int .i64 (rstep r N D).queue) ∧ (∃ A' n' c', QR w' q (rstep r N D) (.slice A' n' c') ∧ (rstep r N D).l.length = n' ∧ Rd w' 2 A' n' (flat (rstep r N D).l) ∧ (∀ a, A' = some a → w.heap.size ≤ a.block)) ∧ Kept (fun g => g = q) w w' := by
  obtain ⟨c0, c1, c2, c3, c4, c5, hf, hp⟩ := h.cells
  have ba := hold_bd at_ (show (0 : Int) ≤ 1125899906842624 by omega)
  have bd := hold_bd delay (show (-1125899906842624 : Int) ≤ 1125899906842624 by omega)
  have bN0 : 0 ≤ N := by rw [← hN]; exact Int.ediv_nonneg ba.1 (by omega)
  have bN1 : N ≤ 1125899906842624 := by rw [← hN]; exact Int.le_trans (Int.ediv_le_self _ ba.1) ba.2
  rw [hD] at bd
  obtain ⟨TT, hTT⟩ : ∃ t, hold at_ 0 1125899906842624 = t := ⟨_, rfl⟩
  rw [hTT] at hN ba
  obtain ⟨wd, hwd⟩ : ∃ t, r.width = t := ⟨_, rfl⟩
  rw [hwd] at hN hw c0
  have u1 : TT.tdiv wd = N := by rw [Int.tdiv_eq_ediv_of_nonneg ba.1]; exact hN
  have u2 : (wd == 0) = false := by simp; omega
  have u3 : ¬ wd = 0 := by omega
  have t1 : wrap64 N = N := w64 (by omega) (by omega)
  have i1 : IntKind.i64.wrap N = N := IntWalk.i64_in _ (by omega)
  have H := Lib.hid h
  have HR := Lib.hid hr
  have HOk := Lib.hid hok
  have HTT := Lib.hid hTT
  have HD := Lib.hid hD
  have HN := Lib.hid hN
  have HLn := Lib.hid hn
  clear h hr hok hTT hD hN hn
  go_enter Try.func14, Try.ntmps14
  have d0 : ∀ x, (w.alloc x).cell? ⟨q, 0, none⟩ = some (.int .i64 wd) := fun x => RCell.alloc c0 x
  go_upto_region 1 with fail
  go_cut [7] (fun s7 wx => s7 = .pointer (some ⟨w.heap.size, 0, none⟩) ∧ wx = (w.alloc (.cells #[.int .i64 N, .int .i64 D] 57)).drew)
  case first =>
    go_region_held3 (fun w' => w'.cell? ⟨q, 0, none⟩ = some (.int .i64 wd)) (first | exact c0 | exact d0 _)
      (first
        | (go_at_call_of 21 at_
           refine (held_any _ _ _ _ (by decide)).mono ?_
           rintro e w2 ⟨rfl, rfl⟩
           rw [HTT.out])
        | (go_at_call_of 21 delay
           refine (held_any _ _ _ _ (by decide)).mono ?_
           rintro e w2 ⟨rfl, rfl⟩
           rw [HD.out]))
    all_goals (go_wp2_with fail; go_meet; exact ⟨rfl, rfl⟩)
  case rest =>
  obtain ⟨rfl, rfl⟩ := hcut
  generalize hW : World.drew (World.alloc w _) = W
  have kW : Kept (fun g => g = q) w W := by rw [← hW]; exact ((Kept.refl _ w).alloc _).drew
  have hsb : W.heap[w.heap.size]? = some (.cells #[.int .i64 N, .int .i64 D] 57 (0, 0)) := by rw [← hW]; exact heap_alloc_new w _
  have hQ : QR W q r (.slice A n c) := by
    have := H.out.kept (((Kept.refl (fun _ => False) w).alloc (.cells #[.int .i64 N, .int .i64 D] 57)).drew) id
    rwa [hW] at this
  have HRd := Lib.hid (show Rd W 2 A n (flat r.l) by
    have := HR.out.kept (((Kept.refl (fun _ => False) w).alloc (.cells #[.int .i64 N, .int .i64 D] 57)).drew) (fun _ _ _ => id)
    rwa [hW] at this)
  have hlt : w.heap.size < W.heap.size := (Array.getElem?_eq_some_iff.1 hsb).1
  clear hW d0 c0 c1 c2 c3 c4 c5 hf u1 u2 u3
  obtain ⟨c0, c1, c2, c3, c4, c5, hf, hpW⟩ := hQ.cells
  have z0 : W.cell? ⟨w.heap.size, 0, none⟩ = some (.int .i64 N) := by simp [World.cell?, hsb]
  have z1 : W.cell? ⟨w.heap.size, 1, none⟩ = some (.int .i64 D) := by simp [World.cell?, hsb]
  have f3 := hf 3
  have f4 := hf 4
  have HQ := Lib.hid hQ
  have HKW := Lib.hid kW
  have HSb := Lib.hid hsb
  clear hQ kW hsb hf
  go_upto_region 2 with fail
  go_cut [36] (fun s36 wx => s36 = .bool (decide (r.some = false ∨ r.newest < N)) ∧ wx = W.drew)
  case first =>
    cases hs : r.some with
    | false =>
      rw [hs] at c4
      go_region
      all_goals (go_wp2_with fail; go_meet; exact ⟨by simp [hs], rfl⟩)
    | true =>
      rw [hs] at c4
      go_region
      all_goals (go_wp2_with fail; go_meet; exact ⟨by simp [hs], rfl⟩)
  case rest =>
  obtain ⟨rfl, rfl⟩ := hcut
  go_upto_if 36 with fail
  go_cut [] (fun wx => QR wx q { r with newest := rnew r N, some := true } (.slice A n c) ∧ Kept (fun g => g = q) W wx)
  case first =>
    by_cases hu : r.some = false ∨ r.newest < N
    · have e := decide_eq_true hu
      have en : rnew r N = N := if_pos hu
      simp only [e]
      go_wp2_with fail
      go_meet
      refine ⟨?_, ?_⟩
      · have hq := HQ.out
        unfold QR at hq ⊢
        rw [en]
        simp [World.setCell, Array.getElem?_modify, drew_heap, hq]
      · exact (((Kept.refl (fun g => g = q) W).setCell (p := ⟨q, 3, none⟩) (.inl rfl) _).setCell (p := ⟨q, 4, none⟩) (.inl rfl) _).drew
    · have e := decide_eq_false hu
      have en : rnew r N = r.newest := if_neg hu
      simp only [e]
      go_wp2_with fail
      go_meet
      refine ⟨?_, ?_⟩
      · have hq := HQ.out
        have es : r.some = true := by
          cases h : r.some with
          | false => exact absurd (.inl h) hu
          | true => rfl
        unfold QR at hq ⊢
        rw [en]
        rw [es] at hq
        exact hq
      · exact (Kept.refl _ W).drew
  case rest =>
  obtain ⟨hQ1, hK1⟩ := hcut
  rename World => X
  have hlt1 : w.heap.size < X.heap.size := Nat.lt_of_lt_of_le hlt hK1.size
  have hRd1 := Lib.hid (HRd.out.kept hK1 (fun b off e => hA b off e))
  have hsb1 := (hK1.block w.heap.size hlt (by omega)).trans HSb.out
  have HK1 := Lib.hid (HKW.out.trans hK1 (fun _ _ h => h))
  generalize hr1' : ({ r with newest := rnew r N, some := true } : RS) = r1 at hQ1
  clear hK1 c0 c1 c2 c3 c4 c5 z0 z1 f3 f4 HQ HSb hlt HRd hpW
  obtain ⟨c0, c1, c2, c3, c4, c5, hf, hpW⟩ := hQ1.cells
  have z0 : X.cell? ⟨w.heap.size, 0, none⟩ = some (.int .i64 N) := by simp [World.cell?, hsb1]
  have z1 : X.cell? ⟨w.heap.size, 1, none⟩ = some (.int .i64 D) := by simp [World.cell?, hsb1]
  go_upto_region 5 with fail
  go_cut [9] (fun s9 wx => ∃ A9 c9, s9 = .slice A9 (n + 1) c9 ∧ Rd wx 2 A9 (n + 1) (flat (r.l ++ [(N, D)])) ∧ (∀ b off, A9 = some ⟨b, off, none⟩ → X.heap.size ≤ b) ∧ Kept (fun _ => False) X wx)
  case first =>
    go_region_law (first
      | (refine step_app (by rfl) (.tmp 45) (.tmp 49) 53 (by rfl) X.heap.size 57 (.agg #[.int .i64 0, .int .i64 0]) 2 16 Try.underlying53 info_sm rfl (by omega) (.slice (some ⟨X.heap.size, 0, none⟩) 0 0) 0 [] (by rfl) (Kept.own (S := fun _ => False) (w := X.alloc (.cells #[] 57)) (by (repeat (first | exact Kept.refl _ _ | refine Kept.drew ?_ | refine Kept.alloc ?_ _)); first | done | fail) (own_empty X _ _ 2 (Nat.le_refl _)) (fun _ _ => id)) A n c (flat r.l) (by rfl) (hRd1.out.kept (S := fun _ => False) (by (repeat (first | exact Kept.refl _ _ | refine Kept.drew ?_ | refine Kept.alloc ?_ _)); first | done | fail) (fun _ _ _ => id)) (flat_one _) (by simp only [maxLen]; omega) (by omega) (by simp <;> omega) ?_
         intro v1 w1 hown hg hat
         have HO1 := Lib.hid (show w1.ownsRow X.heap.size 57 2 v1 n (flat r.l) by simpa using hown)
         have k1 : Kept (fun _ => False) X w1 := (show Kept (fun _ => False) X _ from (by (repeat (first | exact Kept.refl _ _ | refine Kept.drew ?_ | refine Kept.alloc ?_ _)); first | done | fail)).trans (Kept.of_grown hg) (fun i hi hk => by simp [Value.ownBlock] at hk; omega)
         have z0' : w1.cell? ⟨w.heap.size, 0, none⟩ = some (.int .i64 N) := (k1.cell (p := ⟨w.heap.size, 0, none⟩) hlt1 id).trans z0
         have z1' : w1.cell? ⟨w.heap.size, 1, none⟩ = some (.int .i64 D) := (k1.cell (p := ⟨w.heap.size, 1, none⟩) hlt1 id).trans z1
         have HK := Lib.hid k1
         try have RS := Lib.hid (((rd_two' (X.alloc (.cells #[] 57)) 57 (.int .i64 N) (.int .i64 D) (X.heap.size + 1) (by simp)).kept (S := fun _ => False) (by (repeat (first | exact Kept.refl _ _ | refine Kept.drew ?_ | refine Kept.alloc ?_ _)); first | done | fail) (fun _ _ _ => id)).kept (Kept.of_grown hg) (fun b off e hk => by simp [Value.ownBlock] at hk e; omega))
         clear hown hg hat k1)
      | (refine step_app (by rfl) (.tmp 45) (.tmp 49) 53 (by rfl) X.heap.size 57 (.agg #[.int .i64 0, .int .i64 0]) 2 16 Try.underlying53 info_sm rfl (by omega) (.slice (some ⟨X.heap.size + 1, 0, none⟩) 0 0) 0 [] (by rfl) (Kept.own (S := fun _ => False) (w := (X.alloc (.cells #[.int .i64 N, .int .i64 D] 57)).alloc (.cells #[] 57)) (by (repeat (first | exact Kept.refl _ _ | refine Kept.drew ?_ | refine Kept.alloc ?_ _)); first | done | fail) (own_empty' (X.alloc (.cells #[.int .i64 N, .int .i64 D] 57)) _ _ 2 (by simp) _ (by simp)) (fun _ _ => id)) A n c (flat r.l) (by rfl) (hRd1.out.kept (S := fun _ => False) (by (repeat (first | exact Kept.refl _ _ | refine Kept.drew ?_ | refine Kept.alloc ?_ _)); first | done | fail) (fun _ _ _ => id)) (flat_one _) (by simp only [maxLen]; omega) (by omega) (by simp <;> omega) ?_
         intro v1 w1 hown hg hat
         have HO1 := Lib.hid (show w1.ownsRow X.heap.size 57 2 v1 n (flat r.l) by simpa using hown)
         have k1 : Kept (fun _ => False) X w1 := (show Kept (fun _ => False) X _ from (by (repeat (first | exact Kept.refl _ _ | refine Kept.drew ?_ | refine Kept.alloc ?_ _)); first | done | fail)).trans (Kept.of_grown hg) (fun i hi hk => by simp [Value.ownBlock] at hk; omega)
         have z0' : w1.cell? ⟨w.heap.size, 0, none⟩ = some (.int .i64 N) := (k1.cell (p := ⟨w.heap.size, 0, none⟩) hlt1 id).trans z0
         have z1' : w1.cell? ⟨w.heap.size, 1, none⟩ = some (.int .i64 D) := (k1.cell (p := ⟨w.heap.size, 1, none⟩) hlt1 id).trans z1
         have HK := Lib.hid k1
         try have RS := Lib.hid (((rd_two' X 57 (.int .i64 N) (.int .i64 D) (X.heap.size) (by simp)).kept (S := fun _ => False) (by (repeat (first | exact Kept.refl _ _ | refine Kept.drew ?_ | refine Kept.alloc ?_ _)); first | done | fail) (fun _ _ _ => id)).kept (Kept.of_grown hg) (fun b off e hk => by simp [Value.ownBlock] at hk e; omega))
         clear hown hg hat k1)
      | (refine step_app (by rfl) (.tmp 50) (.tmp 52) 53 (by rfl) X.heap.size 57 (.agg #[.int .i64 0, .int .i64 0]) 2 16 Try.underlying53 info_sm rfl (by omega) v1 n (flat r.l) (by rfl) (Kept.own (S := fun _ => False) (w := w1) (by (repeat (first | exact Kept.refl _ _ | refine Kept.drew ?_ | refine Kept.alloc ?_ _)); first | done | fail) HO1.out (fun _ _ => id)) (some ⟨w1.heap.size, 0, none⟩) 1 1 [.int .i64 N, .int .i64 D] (by rfl) ((rd_two w1 57 (.int .i64 N) (.int .i64 D)).kept (S := fun _ => False) (by (repeat (first | exact Kept.refl _ _ | refine Kept.drew ?_ | refine Kept.alloc ?_ _)); first | done | fail) (fun _ _ _ => id)) (by simp [Value.oneCell']) (by simp only [maxLen]; omega) (by omega) (by have := HK.out.size; simp <;> omega) ?_
         intro v2 w2 hown hg hat
         have HO2 := Lib.hid (show w2.ownsRow X.heap.size 57 2 v2 (n + 1) (flat (r.l ++ [(N, D)])) by rw [flat_append]; exact hown)
         have HK2 := Lib.hid (HK.out.trans ((Kept.mono (S' := fun g => X.heap.size ≤ g) (show Kept (fun _ => False) w1 _ from (by (repeat (first | exact Kept.refl _ _ | refine Kept.drew ?_ | refine Kept.alloc ?_ _)); first | done | fail)) (fun _ _ h => h.elim)).trans (Kept.of_grown hg) (fun i hi hk => own_ge HO1.out hk)) (fun i hi h => absurd hi (Nat.not_lt.2 h)))
         clear hown hg hat)
      | (refine step_app (by rfl) (.tmp 50) (.tmp 52) 53 (by rfl) X.heap.size 57 (.agg #[.int .i64 0, .int .i64 0]) 2 16 Try.underlying53 info_sm rfl (by omega) v1 n (flat r.l) (by rfl) (Kept.own (S := fun _ => False) (w := w1) (by (repeat (first | exact Kept.refl _ _ | refine Kept.drew ?_ | refine Kept.alloc ?_ _)); first | done | fail) HO1.out (fun _ _ => id)) (some ⟨X.heap.size + 1, 0, none⟩) 1 1 [.int .i64 N, .int .i64 D] (by rfl) (RS.out.kept (S := fun _ => False) (by (repeat (first | exact Kept.refl _ _ | refine Kept.drew ?_ | refine Kept.alloc ?_ _)); first | done | fail) (fun _ _ _ => id)) (by simp [Value.oneCell']) (by simp only [maxLen]; omega) (by omega) (by have := HK.out.size; simp <;> omega) ?_
         intro v2 w2 hown hg hat
         have HO2 := Lib.hid (show w2.ownsRow X.heap.size 57 2 v2 (n + 1) (flat (r.l ++ [(N, D)])) by rw [flat_append]; exact hown)
         have HK2 := Lib.hid (HK.out.trans ((Kept.mono (S' := fun g => X.heap.size ≤ g) (show Kept (fun _ => False) w1 _ from (by (repeat (first | exact Kept.refl _ _ | refine Kept.drew ?_ | refine Kept.alloc ?_ _)); first | done | fail)) (fun _ _ h => h.elim)).trans (Kept.of_grown hg) (fun i hi hk => own_ge HO1.out hk)) (fun i hi h => absurd hi (Nat.not_lt.2 h)))
         clear hown hg hat)
      | (refine step_app (by rfl) (.tmp 50) (.tmp 52) 53 (by rfl) X.heap.size 57 (.agg #[.int .i64 0, .int .i64 0]) 2 16 Try.underlying53 info_sm rfl (by omega) v1 n (flat r.l) (by rfl) (Kept.own (S := fun _ => False) (w := w1) (by (repeat (first | exact Kept.refl _ _ | refine Kept.drew ?_ | refine Kept.alloc ?_ _)); first | done | fail) HO1.out (fun _ _ => id)) (some ⟨X.heap.size, 0, none⟩) 1 1 [.int .i64 N, .int .i64 D] (by rfl) (RS.out.kept (S := fun _ => False) (by (repeat (first | exact Kept.refl _ _ | refine Kept.drew ?_ | refine Kept.alloc ?_ _)); first | done | fail) (fun _ _ _ => id)) (by simp [Value.oneCell']) (by simp only [maxLen]; omega) (by omega) (by have := HK.out.size; simp <;> omega) ?_
         intro v2 w2 hown hg hat
         have HO2 := Lib.hid (show w2.ownsRow X.heap.size 57 2 v2 (n + 1) (flat (r.l ++ [(N, D)])) by rw [flat_append]; exact hown)
         have HK2 := Lib.hid (HK.out.trans ((Kept.mono (S' := fun g => X.heap.size ≤ g) (show Kept (fun _ => False) w1 _ from (by (repeat (first | exact Kept.refl _ _ | refine Kept.drew ?_ | refine Kept.alloc ?_ _)); first | done | fail)) (fun _ _ h => h.elim)).trans (Kept.of_grown hg) (fun i hi hk => own_ge HO1.out hk)) (fun i hi h => absurd hi (Nat.not_lt.2 h)))
         clear hown hg hat))
    all_goals (go_wp2_with fail; go_meet; first | exact own_rel HO2.out HK2.out | exact own_rel (Kept.own (S := fun _ => False) (Kept.refl (fun _ => False) _).drew HO2.out (fun _ _ => id)) HK2.out.drew)
  case rest =>
  obtain ⟨A9, c9, rfl, hRd9, hA9, hK9⟩ := hcut
  rename World => Y
  obtain ⟨g9, off9, rfl, hg9, hc9⟩ := hRd9.2 (by omega)
  have hXY := hK9.size
  have hltY : w.heap.size < Y.heap.size := Nat.lt_of_lt_of_le hlt1 hXY
  have hQY : QR Y q r1 (.slice A n c) := hQ1.kept hK9 id
  have hsbY := (hK9.block w.heap.size hlt1 id).trans hsb1
  have hrok : rok (r.l ++ [(N, D)]) := fun x hx => by
    rcases List.mem_append.1 hx with hx | hx
    · exact HOk.out x hx
    · simp at hx; rw [hx]; exact ⟨bN0, bN1, bd.1, bd.2⟩
  have hll : (r.l ++ [(N, D)]).length = n + 1 := by simp [HLn.out]
  have hrw : r1.rows = r.rows := by rw [← hr1']
  have hnw : r1.newest = rnew r N := by rw [← hr1']
  have hnb : 0 ≤ rnew r N ∧ rnew r N ≤ 1125899906842624 := by unfold rnew; split <;> omega
  have hres : ∀ L, L = rkeep (r1.newest - r1.rows) (r.l ++ [(N, D)]) → rstep r N D = { r1 with l := L, queue := if r1.newest - r1.rows < N then D - (rleast L).1 else 0 } := fun L hL => by
    rw [hL, ← hr1']
    rfl
  have HRes := Lib.hid hres
  have HQY := Lib.hid hQY
  have HSbY := Lib.hid hsbY
  have HRok := Lib.hid hrok
  have HLl := Lib.hid hll
  have HC9 := Lib.hid hc9
  have HK9 := Lib.hid (HK1.out.trans hK9 (fun _ _ h => h.elim))
  clear hQ1 hsb1 hK9 hres hQY hsbY hrok hll hRd9 hc9 z0 z1 c0 c1 c2 c3 c4 c5 hf
  generalize hll2 : r.l ++ [(N, D)] = ll at *
  obtain ⟨nw, hnw2⟩ : ∃ x, x = r1.newest := ⟨_, rfl⟩
  obtain ⟨rw_, hrw2⟩ : ∃ x, x = r1.rows := ⟨_, rfl⟩
  have bnw : 0 ≤ nw ∧ nw ≤ 1125899906842624 := by omega
  have brw : 1 ≤ rw_ ∧ rw_ ≤ 64 := by omega
  have t2 : wrap64 (nw - rw_) = nw - rw_ := w64 (by omega) (by omega)
  have i2 : IntKind.i64.wrap (nw - rw_) = nw - rw_ := IntWalk.i64_in _ (by omega)
  obtain ⟨lo, hlo⟩ : ∃ x, x = nw - rw_ := ⟨_, rfl⟩
  rw [← hlo] at t2 i2
  have HLo := Lib.hid hlo
  have tlo : wrap64 (nw - rw_) = lo := by rw [← hlo]; exact t2
  have ilo : IntKind.i64.wrap (nw - rw_) = lo := by rw [← hlo]; exact i2
  have HRw2 := Lib.hid hrw2
  have HNw2 := Lib.hid hnw2
  clear t2 i2 hlo hrw hnw hrw2 hnw2 hll2
  go_wp2
  go_loopw [8, 10] (fun sv iv wr => ∃ (k m : Nat), k ≤ n + 1 ∧ iv = .int .i64 (k : Int) ∧ wr.ownsRow Y.heap.size 57 2 sv m (flat (rkeep lo (ll.take k))) ∧ m = (rkeep lo (ll.take k)).length ∧ Below Y.heap.size Y wr) (fun _ iv _ => n + 1 - (intOf iv).toNat)
  case atStart => exact ⟨0, 0, by omega, rfl, ⟨by simp [flat, rkeep], .inl ⟨rfl, rfl⟩⟩, by simp [rkeep], Below.refl _ _⟩
  case round =>
    obtain ⟨k, m, hk, rfl, hown, hm2, hbel⟩ := hrel
    have HOwn := Lib.hid hown
    have HBel := Lib.hid hbel
    have HM := Lib.hid hm2
    have hszr := hbel.size
    have hQr := HQY.out.kept (Kept.of_below (S := fun _ => False) hbel) id
    obtain ⟨c0, c1, c2, c3, c4, c5, hf, hpr⟩ := hQr.cells
    rw [← HRw2.out] at c1
    rw [← HNw2.out] at c3
    have HQr := Lib.hid hQr
    clear hown hbel hQr c0 c2 c4 c5 hm2
    by_cases hlt : k < n + 1
    · have hx : ll[k]? = some (ll.getD k (0, 0)) := by rw [List.getD_eq_getElem?_getD, List.getElem?_eq_getElem (by rw [HLl.out]; exact hlt)]; rfl
      obtain ⟨e0, e1⟩ := flat_get ll k _ hx
      have y0 : wr.cell? ⟨g9, off9 + k * 2, none⟩ = some (.int .i64 (ll.getD k (0, 0)).1) := (HBel.out.cell (p := ⟨g9, off9 + k * 2, none⟩) hg9).trans (HC9.out _ _ e0)
      have y1 : wr.cell? ⟨g9, off9 + k * 2 + 1, none⟩ = some (.int .i64 (ll.getD k (0, 0)).2) := (HBel.out.cell (p := ⟨g9, off9 + k * 2 + 1, none⟩) hg9).trans (HC9.out (k * 2 + 1) _ e1)
      have HTake := Lib.hid (rkeep_take_succ lo ll k (by rw [HLl.out]; exact hlt))
      have HLen := Lib.hid (show m ≤ n + 1 by
        have h0 := HM.out
        have h1 := rkeep_len lo (ll.take k)
        have h2 : (ll.take k).length ≤ ll.length := by simp; omega
        have := HLl.out
        omega)
      have k0 : (0 : Int) ≤ (k : Int) := by omega
      have k1 : (k : Int) < ((n + 1 : Nat) : Int) := by omega
      have k2 : (k : Int) < (n : Int) + 1 := by omega
      clear hx e0 e1 hf
      generalize hX1 : ll.getD k (0, 0) = x1 at *
      obtain ⟨xa, xb⟩ := x1
      simp only at y0 y1
      by_cases hkeep : lo < xa
      · go_wp2_with fail
        go_quiet (fail)
        generalize hwd : World.drewN wr _ = wd
        have HOD := Lib.hid (show wd.ownsRow Y.heap.size 57 2 u8 m (flat (rkeep lo (ll.take k))) by rw [← hwd]; exact Kept.own (S := fun _ => False) ((Kept.refl _ wr).drewN _) HOwn.out (fun _ _ => id))
        have HBD := Lib.hid (show Below Y.heap.size Y wd by rw [← hwd]; exact below_drewN HBel.out _)
        have y0' : wd.cell? ⟨g9, off9 + k * 2, none⟩ = some (.int .i64 xa) := by rw [← hwd]; exact y0
        have y1' : wd.cell? ⟨g9, off9 + k * 2 + 1, none⟩ = some (.int .i64 xb) := by rw [← hwd]; exact y1
        have hszd := HBD.out.size
        clear hwd y0 y1 c1 c3
        go_wp2_with (first
          | (at_builtin
             refine wpList_app rfl (.tmp 75) (.tmp 80) 53 rfl Y.heap.size 57 (.agg #[.int .i64 0, .int .i64 0]) 2 16 Try.underlying53 info_sm rfl (by omega) u8 m (flat (rkeep lo (ll.take k))) rfl (HOD.out.alloc _) (some ⟨wd.heap.size, 0, none⟩) 1 1 [.int .i64 xa, .int .i64 xb] rfl (rd_two wd _ _ _) (by simp [Value.oneCell']) (by have := HLen.out; simp only [maxLen]; omega) (by have := HLen.out; omega) (by simp; omega) ?_
             intro v2 w2 hown hg hat
             have HO2 := Lib.hid (show w2.ownsRow Y.heap.size 57 2 v2 (m + 1) (flat (rkeep lo (ll.take (k + 1)))) by
               have e := HTake.out
               rw [if_pos hkeep] at e
               rw [e, flat_append]
               exact hown)
             have HB2 := Lib.hid (show Below Y.heap.size Y w2 from (HBD.out.alloc hszd _).grown hg (by simp; omega) (fun k hk => (HOD.out.lt k hk).1))
             clear hown hg hat))
        go_roundw
        case rel => exact ⟨k + 1, m + 1, by omega, by go_num, HO2.out, (by
          have e := HTake.out
          rw [if_pos hkeep] at e
          rw [e, List.length_append, ← HM.out]
          rfl), HB2.out⟩
        case measure => simp [intOf]; omega
      · go_wp2_with fail
        go_quiet (fail)
        generalize hwd : World.drewN wr _ = wd
        have HOD := Lib.hid (show wd.ownsRow Y.heap.size 57 2 u8 m (flat (rkeep lo (ll.take k))) by rw [← hwd]; exact Kept.own (S := fun _ => False) ((Kept.refl _ wr).drewN _) HOwn.out (fun _ _ => id))
        have HBD := Lib.hid (show Below Y.heap.size Y wd by rw [← hwd]; exact below_drewN HBel.out _)
        clear hwd y0 y1 c1 c3
        go_wp2_with fail
        go_roundw
        case rel => exact ⟨k + 1, m, by omega, by go_num, (by
          have e := HTake.out
          rw [if_neg (by omega), List.append_nil] at e
          rw [e]
          exact HOD.out), (by
          have e := HTake.out
          rw [if_neg (by omega), List.append_nil] at e
          rw [e]
          exact HM.out), HBD.out⟩
        case measure => simp [intOf]; omega
    · obtain rfl : k = n + 1 := by omega
      obtain ⟨A8, c8, rfl⟩ := own_shape HOwn.out
      have hall : ll.take (n + 1) = ll := by rw [← HLl.out]; exact List.take_length
      rw [hall] at HOwn HM
      obtain ⟨L8, hL8⟩ : ∃ L8, L8 = rkeep lo ll := ⟨_, rfl⟩
      rw [← hL8] at HOwn HM
      have HL8 := Lib.hid hL8
      have f2 := hf 2
      have f5 := hf 5
      have HF := Lib.hid hf
      clear hf hL8 hall
      obtain ⟨_, _, c2, _, _, c5, _⟩ := HQr.out.cells
      go_wp2_with fail
      generalize hW2 : World.setCell (World.setCell wr _ _) _ _ = W2
      have hk2 : Kept (fun g => g = q) wr W2 := by rw [← hW2]; exact ((Kept.refl (fun g => g = q) wr).setCell (p := ⟨q, 2, none⟩) (.inl rfl) _).setCell (p := ⟨q, 5, none⟩) (.inl rfl) _
      have hQ2 : QR W2 q { r1 with l := L8, queue := 0 } (.slice A8 m c8) := by
        have hq := HQr.out
        rw [← hW2]
        unfold QR at hq ⊢
        simp [World.setCell, Array.getElem?_modify, hq]
      have hltr : w.heap.size < wr.heap.size := Nat.lt_of_lt_of_le hltY hszr
      have hsb2 := (hk2.block w.heap.size hltr (by omega)).trans ((HBel.out.block w.heap.size hltY).trans HSbY.out)
      have hA8 := own_blk HOwn.out
      have hrd2 := (Rd.of_own HOwn.out).kept hk2 (fun b off e => by have := hA8 _ e; simp only at this; omega)
      have z0 : W2.cell? ⟨w.heap.size, 0, none⟩ = some (.int .i64 N) := by simp [World.cell?, hsb2]
      have z1 : W2.cell? ⟨w.heap.size, 1, none⟩ = some (.int .i64 D) := by simp [World.cell?, hsb2]
      have d1 : W2.cell? ⟨q, 1, none⟩ = some (.int .i64 rw_) := by rw [HRw2.out]; exact hQ2.cells.2.1
      have d3 : W2.cell? ⟨q, 3, none⟩ = some (.int .i64 nw) := by rw [HNw2.out]; exact hQ2.cells.2.2.2.1
      have d5 : W2.cell? ⟨q, 5, none⟩ = some (.int .i64 0) := hQ2.cells.2.2.2.2.2.1
      have g5 : W2.frozen? ⟨q, 5, none⟩ = false := hQ2.cells.2.2.2.2.2.2.1 5
      have HL8' : L8 = rkeep (r1.newest - r1.rows) ll := by rw [HL8.out, HLo.out, HNw2.out, HRw2.out]
      have hlr : r1.newest - r1.rows = lo := by rw [HLo.out, HNw2.out, HRw2.out]
      have hrs := HRes.out L8 HL8'
      rw [hlr] at hrs
      have HQ2 := Lib.hid hQ2
      have HK2 := Lib.hid ((HK9.out.trans (Kept.of_below (S := fun g => g = q) HBel.out) (fun _ _ h => h)).trans hk2 (fun _ _ h => h))
      have HRd2 := Lib.hid hrd2
      have hok8 : rok L8 := fun x hx => HRok.out x (by rw [HL8.out] at hx; exact (rkeep_mem.1 hx).1)
      have bl := rleast_bd hok8
      have hm3 : m ≤ n + 1 := by
        have h1 := rkeep_len lo ll
        have h2 := HLl.out
        rw [HM.out, HL8.out]
        omega
      have HA8 := Lib.hid hA8
      have HRs := Lib.hid hrs
      clear hQ2 hsb2 hrd2 hk2 hW2 hA8 hrs hlr HL8' hok8 c1 c2 c3 c5 f2 f5
      by_cases hin : lo < N
      · go_wp2_with fail
        go_quiet (fail)
        generalize hW3 : World.drewN W2 _ = W3
        have HQ3 := Lib.hid (show QR W3 q { r1 with l := L8, queue := 0 } (.slice A8 m c8) by rw [← hW3]; exact HQ2.out)
        have HK3 := Lib.hid (show Kept (fun g => g = q) w W3 by rw [← hW3]; exact HK2.out.drewN _)
        have HRd3 := Lib.hid (show Rd W3 2 A8 m (flat L8) by rw [← hW3]; exact HRd2.out.kept ((Kept.refl (fun _ => False) W2).drewN _) (fun _ _ _ => id))
        have z1' : W3.cell? ⟨w.heap.size, 1, none⟩ = some (.int .i64 D) := by rw [← hW3]; exact z1
        have d5' : W3.cell? ⟨q, 5, none⟩ = some (.int .i64 0) := by rw [← hW3]; exact d5
        have g5' : W3.frozen? ⟨q, 5, none⟩ = false := by rw [← hW3]; exact g5
        clear hW3 z0 z1 d1 d3 d5 g5
        go_wp2_with fail
        refine (ref_least q _ { r1 with l := L8, queue := 0 } A8 m c8 HQ3.out HM.out.symm HRd3.out (by omega)).mono ?_
        rintro e w4 ⟨rfl, kd, rfl⟩
        simp only
        obtain ⟨lst8, hlst⟩ : ∃ x, (rleast L8).1 = x := ⟨_, rfl⟩
        rw [hlst] at bl ⊢
        generalize (rleast L8).2 = ok8
        have HLst := Lib.hid hlst
        have t3 : wrap64 (D - lst8) = D - lst8 := w64 (by omega) (by omega)
        clear hlst
        go_wp2_with fail
        have hst : rstep r N D = { r1 with l := L8, queue := D - lst8 } := by rw [HRs.out, if_pos hin, HLst.out]
        rw [hst]
        go_ret
        refine ⟨rfl, ⟨A8, m, c8, ?_, HM.out.symm, HRd3.out.kept (S := fun g => g = q) ?_ (fun b off e => by have := HA8.out _ e; simp only at this; omega), fun a ha => Nat.le_trans (Nat.le_of_lt hltY) (HA8.out a ha)⟩, HK3.out.trans (S' := fun g => g = q) ?_ (fun _ _ h => h)⟩
        · have hq := HQ3.out
          unfold QR at hq ⊢
          simp [World.setCell, Array.getElem?_modify, hq]
        · first | exact ((Kept.refl (fun g => g = q) W3).drewN _).setCell (p := ⟨q, 5, none⟩) (.inl rfl) _ | exact (((Kept.refl (fun g => g = q) W3).drewN _).setCell (p := ⟨q, 5, none⟩) (.inl rfl) _).drew | exact ((Kept.refl (fun g => g = q) W3).setCell (p := ⟨q, 5, none⟩) (.inl rfl) _).drewN _ | exact (((Kept.refl (fun g => g = q) W3).setCell (p := ⟨q, 5, none⟩) (.inl rfl) _).drewN _).drew
        · first | exact ((Kept.refl (fun g => g = q) W3).drewN _).setCell (p := ⟨q, 5, none⟩) (.inl rfl) _ | exact (((Kept.refl (fun g => g = q) W3).drewN _).setCell (p := ⟨q, 5, none⟩) (.inl rfl) _).drew | exact ((Kept.refl (fun g => g = q) W3).setCell (p := ⟨q, 5, none⟩) (.inl rfl) _).drewN _ | exact (((Kept.refl (fun g => g = q) W3).setCell (p := ⟨q, 5, none⟩) (.inl rfl) _).drewN _).drew
      · go_wp2_with fail
        go_quiet (fail)
        go_wp2_with fail
        have hst : rstep r N D = { r1 with l := L8, queue := 0 } := by rw [HRs.out, if_neg (by omega)]
        rw [hst]
        go_ret
        refine ⟨rfl, ⟨A8, m, c8, ?_, HM.out.symm, HRd2.out.kept (S := fun g => g = q) ?_ (fun b off e => by have := HA8.out _ e; simp only at this; omega), fun a ha => Nat.le_trans (Nat.le_of_lt hltY) (HA8.out a ha)⟩, HK2.out.trans (S' := fun g => g = q) ?_ (fun _ _ h => h)⟩
        · first | exact HQ2.out | exact HQ2.out.kept ((Kept.refl (fun _ => False) W2).drewN _) id
        · first | exact Kept.refl _ _ | exact (Kept.refl _ _).drewN _
        · first | exact Kept.refl _ _ | exact (Kept.refl _ _).drewN _
end Go.Proofs.Ytlidofldkomdbaa.Base
