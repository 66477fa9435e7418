/- What the program's Decode tells; no condition but the ranges in each. -/
import Derived.Test.YtmedlplgeeeodaaTwChunk
import Derived.Test.YtmedlplgeeeodaaScope
import Derived.Test.YtmedlplgeeeodaaTail
namespace Go.Proofs.Ytmedlplgeeeodaa.Tw
open Go.RowKit Go.Proofs.Ytmedlplgeeeodaa.Plain Go.Proofs.Ytmedlplgeeeodaa.Heap Go.Proofs.Ytmedlplgeeeodaa.Open Go.Proofs.Ytmedlplgeeeodaa.Rows Go.Proofs.Ytmedlplgeeeodaa.Bits Go.Proofs.Ytmedlplgeeeodaa.Tail
def DecPost (s : ByteArray) (w : World) (e : Ending) (w' : World) : Prop := ∃ v, e = .returned (.tuple #[v, .int .i64 (decT s).2]) ∧ TC w' v (decT s).1 ∧ Below w.heap.size w w'
theorem tc_zero (w : World) : TC w (.agg zcs) zeroT := ⟨none, 0, none, 0, rfl, ⟨rfl, fun h => absurd h (Nat.lt_irrefl _)⟩, ⟨rfl, fun h => absurd h (Nat.lt_irrefl _)⟩, Nat.le_refl _⟩
theorem dec_zero {s : ByteArray} {w w' : World} {c : Int} (h : decT s = (zeroT, c)) (hb : Below w.heap.size w w') : DecPost s w (.returned (.tuple #[.agg zcs, .int .i64 c])) w' := by
  unfold DecPost
  rw [h]
  exact ⟨.agg zcs, rfl, tc_zero _, hb⟩
theorem ret_dec {R : Ending → World → Prop} {a : Act} {w : World} {b : Nat} {cs : Array Value} {u : Value} (h : w.heap[b]? = some (.cells cs 25 (0, 0))) (hs : cs.size = 7) (ha : a.tmps.getD 2 undef = .pointer (some ⟨b, 0, none⟩)) (hu : a.tmps.getD 3 undef = u) (hd : a.defers = []) (hR : R (.returned (.tuple #[.agg cs, u])) w) :
    bodyPost Try.prog Try.f16 R .ret a w :=
  ret_cell_tmp (P := Try.prog) rfl ha h Try.underlying25 rfl (by rw [hs]; exact twcc_size) hd (by rw [hu]; exact hR)
/-- Behind so many chunks. -/
def JD (s : ByteArray) (w : World) (many q : Nat) (act : Act) (w' : World) : Prop :=
  ∃ (p o f r : Nat) (l : List Int) (lv : Value), act.defers = [] ∧ act.tmps.size = 124 ∧ act.tmps.getD 2 undef = .pointer (some ⟨q, 0, none⟩) ∧ act.tmps.getD 4 undef = .pointer (some ⟨p, 0, none⟩) ∧ act.tmps.getD 5 undef = .pointer (some ⟨o, 0, none⟩) ∧ act.tmps.getD 6 undef = .int .i64 (many : Int) ∧
    q < p ∧ p < o ∧ o < w'.heap.size ∧ w'.heap[q]? = some (.cells zcs 25 (0, 0)) ∧ w'.heap[o]? = some (.cells (dcs (val s 0 32) (val s 32 32) (val s 64 16) (sg 24 (val s 96 24)) (val s 120 8) lv (.slice none 0 0)) 25 (0, 0)) ∧
    RW w' 1 lv l.length (nums .i64 l) ∧ (∀ g, isAt lv g → w.heap.size ≤ g ∧ g ≠ q ∧ g ≠ p ∧ g ≠ o) ∧ RR 77 w' p s r false ∧ r ≤ 8 * s.size ∧ decT s = outT s (decC s many f r l) ∧ many < f + l.length ∧ l.length ≤ many ∧ (∀ y ∈ l, 0 ≤ y ∧ y ≤ 2) ∧ many ≤ 4096 ∧ Below w.heap.size w w'
def muD (act : Act) (w : World) : Nat := match act.tmps.getD 5 undef with
  | .pointer (some a) => (match w.cell? ⟨a.block, 5, none⟩ with
    | some (.slice _ n _) => (intOf (act.tmps.getD 6 undef) - (n : Int)).toNat
    | _ => 0)
  | _ => 0
theorem range124 : List.range 124 = [0, 1, 2, 3, 4, 5, 6, 7, 8, 9, 10, 11, 12, 13, 14, 15, 16, 17, 18, 19, 20, 21, 22, 23, 24, 25, 26, 27, 28, 29, 30, 31, 32, 33, 34, 35, 36, 37, 38, 39, 40, 41, 42, 43, 44, 45, 46, 47, 48, 49, 50, 51, 52, 53, 54, 55, 56, 57, 58, 59, 60, 61, 62, 63, 64, 65, 66, 67, 68, 69, 70, 71, 72, 73, 74, 75, 76, 77, 78, 79, 80, 81, 82, 83, 84, 85, 86, 87, 88, 89, 90, 91, 92, 93, 94, 95, 96, 97, 98, 99, 100, 101, 102, 103, 104, 105, 106, 107, 108, 109, 110, 111, 112, 113, 114, 115, 116, 117, 118, 119, 120, 121, 122, 123] := rfl
theorem stored7' {w : World} {b : Nat} {cs : Array Value} {x0 x1 x2 x3 x4 x5 x6 : Value} (h : w.heap[b]? = some (.cells cs 25 (0, 0))) (e : cs = #[x0, x1, x2, x3, x4, x5, x6]) (u0 u1 u2 u3 u4 u5 u6 : Value) :
    (((((((w.setCell ⟨b, 0, none⟩ u0).setCell ⟨b, 1, none⟩ u1).setCell ⟨b, 2, none⟩ u2).setCell ⟨b, 3, none⟩ u3).setCell ⟨b, 4, none⟩ u4).setCell ⟨b, 5, none⟩ u5).setCell ⟨b, 6, none⟩ u6).heap[b]? = some (.cells #[u0, u1, u2, u3, u4, u5, u6] 25 (0, 0)) := by
  subst e
  exact stored7 h
set_option linter.unusedSimpArgs false in
set_option maxRecDepth 10000 in
set_option maxHeartbeats 8000000 in
theorem decode_any (s : ByteArray) (w : World) (hs : s.size ≤ 1099511627776) : Calls Try.prog 16 #[.string s] w (DecPost s w) := by
  have HS := bx hs
  obtain ⟨Z, hZ⟩ : ∃ Z : Int, Z = (s.size : Int) := ⟨_, rfl⟩
  have hsz : (s.size : Int) = Z := hZ.symm
  have hz0 : 0 ≤ Z := by omega
  have hz1 : Z ≤ 1099511627776 := by omega
  have HZ := bx hZ
  clear hs hZ
  obtain ⟨q, hq⟩ : ∃ q, q = w.heap.size := ⟨_, rfl⟩
  obtain ⟨W0, hW0⟩ : ∃ W0, W0 = w.alloc (.cells zcs 25) := ⟨_, rfl⟩
  have HQ0 := bx (show W0.heap[q]? = some (.cells zcs 25 (0, 0)) by rw [hW0, hq]; exact heap_alloc_new w _)
  have HB0 := bx (show Below w.heap.size w W0 by rw [hW0]; exact (Below.refl _ w).alloc (Nat.le_refl _) _)
  have HQW := bx (show w.heap.size ≤ q by omega)
  have HE := bx hq
  have HW0 := bx hW0
  clear hq hW0
  obtain ⟨many, hmany⟩ : ∃ many, many = manyT s := ⟨_, rfl⟩
  have HMN := bx hmany
  clear hmany
  go_enter Try.func16, Try.ntmps16
  go_wp2
  rw [← HW0.out, ← HE.out]
  refine wp_scope_pass 0 (JD s w many q) muD rfl ?_ ?_
  · rintro ⟨ts, ds⟩ X ⟨p, o, f, r, l, lv, hd, hts, s2, s4, s5, s6, hpq, hpo, hol, hqx, hox, hrw, hat, hrr, hr, hdec, hf, hlm, h02, hm4', hbw⟩
    obtain rfl : ds = [] := hd
    obtain ⟨fn, hf', hts⟩ := arr_fun ts 124 hts
    have f2 : fn 2 = .pointer (some ⟨q, 0, none⟩) := (hf' 2 (by omega)).trans s2
    have f4 : fn 4 = .pointer (some ⟨p, 0, none⟩) := (hf' 4 (by omega)).trans s4
    have f5 : fn 5 = .pointer (some ⟨o, 0, none⟩) := (hf' 5 (by omega)).trans s5
    have f6 : fn 6 = .int .i64 (many : Int) := (hf' 6 (by omega)).trans s6
    rw [range124] at hts
    simp only [List.map_cons, List.map_nil, f2, f4, f5, f6] at hts
    subst hts
    obtain ⟨n, hn⟩ : ∃ n, n = l.length := ⟨_, rfl⟩
    obtain ⟨lA, lc, rfl⟩ : ∃ lA lc, lv = .slice lA n lc := by rw [hn]; exact hrw.shape
    rw [← hn] at hrw hf hlm
    obtain ⟨f', rfl⟩ : ∃ f', f = f' + 1 := ⟨f - 1, by omega⟩
    have HN := bx hn
    have HPQ := bx hpq
    have HPO := bx hpo
    have HQX := bx hqx
    have HOX := bx hox
    have HRW := bx hrw
    have HAT := bx hat
    have HRR := bx hrr
    have HR := bx hr
    have HDC := bx hdec
    have HF := bx hf
    have H02 := bx h02
    have HBW := bx hbw
    have HM4 := bx hm4'
    have hm4 : (many : Int) ≤ 4096 := by have := HM4.out; omega
    have hnm : (n : Int) ≤ (many : Int) := by omega
    obtain ⟨y0, y1, y2, y3, y4, y5, y6⟩ := cells7 hox
    clear hf' s2 s4 s5 s6 f2 f4 f5 f6 hpq hpo hol hqx hox hrw hat hrr hr hdec hf hlm h02 hm4' hbw hn y0 y1 y2 y3 y4 y6
    by_cases hlt : (n : Int) < (many : Int)
    · obtain ⟨lack, hlk⟩ : ∃ lack : Nat, (many : Int) - (n : Int) = (lack : Int) := ⟨many - n, by omega⟩
      have HLK := bx (show many - l.length = lack by have := HN.out; omega)
      have HNL := bx (show ¬ many ≤ l.length by have := HN.out; omega)
      have hl1 : 1 ≤ (lack : Int) := by omega
      have hl2 : (lack : Int) ≤ 4096 := by omega
      have q1 : decide ((0 : Int) < (lack : Int)) = true := decide_eq_true (by omega)
      have q1' : decide (0 < lack) = true := decide_eq_true (by omega)
      clear hlt
      go_wp2_with fail
      refine (chunk_any s r lack p X HRR.out HR.out HS.out hl1 hl2).mono ?_
      intro e X2 hpost
      unfold ChunkPost at hpost
      by_cases hsh : 8 * s.size < r + 16
      · rw [if_pos hsh] at hpost
        obtain ⟨rfl, hk1⟩ := hpost
        have HD := bx (show decT s = (zeroT, 60) by rw [HDC.out, decC_short HNL.out hsh]; rfl)
        have HG2 := bx ((hk1.block q (Array.getElem?_eq_some_iff.1 HQX.out).1 id).trans HQX.out)
        have HB2 := bx (below_then HBW.out HBW.out.size (hk1.below (Nat.le_refl _) (fun _ e => e.elim)))
        clear hk1 hsh y5
        have hcb := HG2.out
        obtain ⟨z0, z1, z2, z3, z4, z5, z6⟩ := cells7 hcb
        have e0 := frozen_of hcb 0
        have e1 := frozen_of hcb 1
        have e2 := frozen_of hcb 2
        have e3 := frozen_of hcb 3
        have e4 := frozen_of hcb 4
        have e5 := frozen_of hcb 5
        have e6 := frozen_of hcb 6
        clear hcb
        go_wp2_with fail
        try simp only [Exit.jump]
        refine ret_dec (u := .int .i64 60) (stored7 HG2.out) rfl rfl rfl rfl ?_
        exact dec_zero HD.out ((kept_store7 (S := fun k => w.heap.size ≤ k) (Kept.of_below HB2.out) (.inl HQW.out) _ _ _ _ _ _ _).below (Nat.le_refl _) (fun _ h => h))
      · rw [if_neg hsh] at hpost
        have HSH := bx hsh
        cases hcd : chunkD s r lack with
        | none =>
          rw [hcd] at hpost
          obtain ⟨rfl, hk1⟩ := hpost
          have HD := bx (show decT s = (zeroT, 100) by rw [HDC.out, decC_bad HNL.out HSH.out (by rw [HLK.out]; exact hcd)]; rfl)
          have HG2 := bx ((hk1.block q (Array.getElem?_eq_some_iff.1 HQX.out).1 (fun e => by have := HPQ.out; omega)).trans HQX.out)
          have HB2 := bx (show Below w.heap.size w X2 from (Kept.trans (S := fun k => w.heap.size ≤ k) (Kept.of_below HBW.out) hk1 (fun k _ e => by have := HPQ.out; have := HQW.out; omega)).below (Nat.le_refl _) (fun _ h => h))
          clear hk1 hsh y5
          have hcb := HG2.out
          obtain ⟨z0, z1, z2, z3, z4, z5, z6⟩ := cells7 hcb
          have e0 := frozen_of hcb 0
          have e1 := frozen_of hcb 1
          have e2 := frozen_of hcb 2
          have e3 := frozen_of hcb 3
          have e4 := frozen_of hcb 4
          have e5 := frozen_of hcb 5
          have e6 := frozen_of hcb 6
          clear hcb
          go_wp2_with fail
          try simp only [Exit.jump]
          refine ret_dec (u := .int .i64 100) (stored7 HG2.out) rfl rfl rfl rfl ?_
          exact dec_zero HD.out ((kept_store7 (S := fun k => w.heap.size ≤ k) (Kept.of_below HB2.out) (.inl HQW.out) _ _ _ _ _ _ _).below (Nat.le_refl _) (fun _ h => h))
        | some x =>
          rw [hcd] at hpost
          obtain ⟨xA, xc, rfl, hrx, hax, hr2, hk1⟩ := hpost
          obtain ⟨m, hm⟩ : ∃ m, m = x.length := ⟨_, rfl⟩
          obtain ⟨c1, c2, c3⟩ := chunkD_some (by omega) hcd
          rw [← hm] at hrx hax c1 c2 ⊢
          have HDC2 := bx (show decT s = outT s (decC s many f' (r + 16) (l ++ x)) by rw [HDC.out, decC_next HNL.out HSH.out (by rw [HLK.out]; exact hcd)])
          have HM := bx hm
          have hmb : (m : Int) ≤ (lack : Int) := by omega
          have HM1 := bx c1
          have HC3 := bx c3
          have HRX := bx hrx
          have HAX := bx hax
          have HR2 := bx hr2
          have HK1 := bx hk1
          have HQ2 := bx ((hk1.block q (Array.getElem?_eq_some_iff.1 HQX.out).1 (fun e => by have := HPQ.out; omega)).trans HQX.out)
          have HO2 := bx ((hk1.block o (Array.getElem?_eq_some_iff.1 HOX.out).1 (fun e => by have := HPO.out; omega)).trans HOX.out)
          have HRW2 := bx (HRW.out.kept hk1 (fun g hg e => (HAT.out g hg).2.2.1 e))
          have HB2 := bx (show Below w.heap.size w X2 from (Kept.trans (S := fun k => w.heap.size ≤ k) (Kept.of_below HBW.out) hk1 (fun k _ e => by have := HPQ.out; have := HQW.out; omega)).below (Nat.le_refl _) (fun _ h => h))
          have hcb := HO2.out
          obtain ⟨y0, y1, y2, y3, y4, y5', y6⟩ := cells7 hcb
          have e5 := frozen_of hcb 5
          clear hcb hm hcd hrx hax hr2 hk1 c1 c2 c3 hsh y5 y0 y1 y2 y3 y4 y6
          go_wp2_with (first
            | (at_builtin
               refine wpList_many rfl (.tmp 76) (.tmp 77) 23 rfl 3 (.int .i64 0) 1 8 Try.underlying23 info_int rfl (by omega) (.slice lA n lc) n (nums .i64 l) rfl HRW2.out _ m _ (nums .i64 x) rfl HRX.out.rd (nums_one _ _) HM1.out (by omega) ?_
               intro v5 w5 hr5 hk5 hn5
               obtain ⟨A5, c5, rfl⟩ := hr5.shape
               have HR5 := bx hr5
               have HK5 := bx hk5
               have HN5 := bx hn5
               have hno : ¬ isAt (.slice lA n lc) o := fun e => (HAT.out o e).2.2.2 rfl
               have y7 := ck hk5 y5' hno
               have e7 := (hk5.frozen (p := ⟨o, 5, none⟩) (Array.getElem?_eq_some_iff.1 HO2.out).1 hno).trans e5
               have HNO := bx hno
               clear hr5 hk5 hn5 hno y5' e5))
          obtain ⟨X6, hX6⟩ : ∃ X6, X6 = w5.setCell ⟨o, 5, none⟩ (.slice A5 (n + m) c5) := ⟨_, rfl⟩
          rw [← hX6]
          have HO5 := bx ((HK5.out.block o (Array.getElem?_eq_some_iff.1 HO2.out).1 HNO.out).trans HO2.out)
          have HQ5 := bx ((HK5.out.block q (Array.getElem?_eq_some_iff.1 HQ2.out).1 (fun e => (HAT.out q e).2.1 rfl)).trans HQ2.out)
          have HK6 := bx (show Kept (fun k => k = o) w5 X6 by rw [hX6]; exact (Kept.refl (fun k => k = o) w5).setCell (p := ⟨o, 5, none⟩) (.inl rfl) _)
          have HO6 := bx (show X6.heap[o]? = some (.cells (dcs (val s 0 32) (val s 32 32) (val s 64 16) (sg 24 (val s 96 24)) (val s 120 8) (.slice A5 (n + m) c5) (.slice none 0 0)) 25 (0, 0)) by rw [hX6]; simp [World.setCell, Array.getElem?_modify, HO5.out])
          clear hX6 y7 e7
          go_step3
          have hat5 : ∀ g, isAt (.slice A5 (n + m) c5) g → w.heap.size ≤ g ∧ g ≠ q ∧ g ≠ p ∧ g ≠ o := fun g hg => by
            rcases HN5.out g hg with h | h
            · exact HAT.out g h
            · have h1 := (Array.getElem?_eq_some_iff.1 HQ2.out).1
              have h2 := (Array.getElem?_eq_some_iff.1 HO2.out).1
              have h3 := HR2.out.lt
              have h4 := HB2.out.size
              omega
          have hll : (l ++ x).length = n + m := by rw [List.length_append, ← HN.out, ← HM.out]
          refine ⟨rfl, ⟨p, o, f', r + 16, l ++ x, .slice A5 (n + m) c5, rfl, rfl, rfl, rfl, rfl, rfl, HPQ.out, HPO.out, (Array.getElem?_eq_some_iff.1 HO6.out).1, (HK6.out.block q (Array.getElem?_eq_some_iff.1 HQ5.out).1 (fun e => by have := HPQ.out; have := HPO.out; omega)).trans HQ5.out, HO6.out, ?_, hat5, ?_, ?_, HDC2.out, ?_, ?_, ?_, ?_, ?_⟩, ?_⟩
          · rw [hll, nums_append]
            exact HR5.out.kept HK6.out (fun g hg e => (hat5 g hg).2.2.2 e)
          · exact (HR2.out.kept HK5.out (fun e => (HAT.out p e).2.2.1 rfl)).kept HK6.out (fun e => by have := HPO.out; omega)
          · have := HSH.out
            omega
          · rw [hll]
            have := HF.out
            have := HM1.out
            omega
          · rw [hll]
            have := HM4.out
            omega
          · intro y hy
            rcases List.mem_append.1 hy with h1 | h1
            · exact H02.out y h1
            · exact HC3.out y h1
          · exact HM4.out
          · exact (Kept.trans (S := fun k => w.heap.size ≤ k) (Kept.trans (S := fun k => w.heap.size ≤ k) (Kept.of_below HB2.out) HK5.out (fun k _ e => (HAT.out k e).1)) HK6.out (fun k _ e => by have := HPQ.out; have := HPO.out; have := HQW.out; omega)).below (Nat.le_refl _) (fun _ h => h)
          · have r1 : X.cell? ⟨o, 5, none⟩ = some (.slice lA n lc) := (cells7 HOX.out).2.2.2.2.2.1
            have r2 : X6.cell? ⟨o, 5, none⟩ = some (.slice A5 (n + m) c5) := (cells7 HO6.out).2.2.2.2.2.1
            show muD _ X6 < muD _ X
            unfold muD
            simp only [List.getElem?_toArray, Array.getD_eq_getD_getElem?, List.getElem?_cons_succ, List.getElem?_cons_zero, Option.getD_some]
            rw [r1, r2]
            have := HM1.out
            simp only [intOf]
            omega
    · have hnm2 : n = many := by omega
      have HDT := bx (show decT s = tailT s (l, r) by rw [HDC.out, decC_end (by have := HN.out; omega)]; rfl)
      have HSB := bx (sumTo_two H02.out n (by have := HN.out; omega))
      have q1 : decide ((0 : Int) < (many : Int) - (n : Int)) = false := decide_eq_false (by omega)
      have hlk : (many : Int) - (n : Int) = 0 := by omega
      subst hnm2
      clear hlt hnm hlk q1
      go_wp2_with fail
      clear y5
      go_loopw [83] (fun iv wx => ∃ (i : Nat) (dv : Value), (i : Int) ≤ (n : Int) ∧ iv = .int .i64 (i : Int) ∧ wx.heap[q]? = some (.cells zcs 25 (0, 0)) ∧ wx.heap[o]? = some (.cells (dcs (val s 0 32) (val s 32 32) (val s 64 16) (sg 24 (val s 96 24)) (val s 120 8) (.slice lA n lc) dv) 25 (0, 0)) ∧ RW wx 1 (.slice lA n lc) n (nums .i64 l) ∧ RW wx 1 dv (decD s l r i).length (nums .i64 (decD s l r i)) ∧ (∀ g, isAt dv g → w.heap.size ≤ g ∧ g ≠ q ∧ g ≠ p ∧ g ≠ o ∧ ¬ isAt (.slice lA n lc) g) ∧ ST wx p s (r + 8 * sumTo l i) ∧ Below w.heap.size w wx) (fun iv _ => ((n : Int) - intOf iv).toNat)
      case atStart => exact ⟨0, .slice none 0 0, by omega, rfl, HQX.out, HOX.out, HRW.out, RW.nil _ _, (by rintro g ⟨o, m, c, e⟩; cases e), .inl ⟨HR.out, HRR.out⟩, HBW.out⟩
      case round =>
        obtain ⟨i, dv, hi, rfl, hq, ho, hrl, hrd, hda, hst, hb⟩ := hrel
        rename World => Y
        obtain ⟨k, hk⟩ : ∃ k, k = (decD s l r i).length := ⟨_, rfl⟩
        obtain ⟨dA, dc, rfl⟩ : ∃ dA dc, dv = .slice dA k dc := by rw [hk]; exact hrd.shape
        rw [← hk] at hrd
        have HKL := bx hk.symm
        have hk4 : (k : Int) ≤ 4096 := by have := decD_len (s := s) (st := l) (r := r) i; omega
        have HQ := bx hq
        have HO := bx ho
        have HRL := bx hrl
        have HRD := bx hrd
        have HDA := bx hda
        have HST := bx hst
        have HB := bx hb
        clear hk hq ho hrl hrd hda hst hb
        by_cases hil : (i : Int) < (n : Int)
        · obtain ⟨g, off, x, e, _, hx, hxm, y0⟩ := int_at HRL.out.rd (k := i) (by omega)
          subst e
          have HXX := bx hx
          have hx02 := H02.out x hxm
          have hx3 : x = 0 ∨ x = 1 ∨ x = 2 := by omega
          have q2 : decide ((i : Int) < (n : Int)) = true := decide_eq_true hil
          have q2' : decide (i < n) = true := decide_eq_true (by omega)
          clear hx hxm hx02
          rcases hx3 with s0 | s1 | s2
          · subst s0
            have HDD := bx (decD_zero (s := s) (r := r) HXX.out)
            have HSM := bx (show sumTo l (i + 1) = sumTo l i by rw [sumTo_succ HXX.out]; rfl)
            go_wp2_with fail
            go_roundw
            case rel => exact ⟨i + 1, .slice dA k dc, by omega, by go_num, HQ.out, HO.out, HRL.out, by rw [HDD.out, HKL.out]; exact HRD.out, HDA.out, by rw [HSM.out]; exact HST.out, HB.out⟩
            case measure => exact measN n i hil
          · subst s1
            have HDD := bx (decD_one (s := s) (r := r) HXX.out)
            have HSM := bx (show r + 8 * sumTo l i + 8 = r + 8 * sumTo l (i + 1) by rw [sumTo_succ HXX.out]; omega)
            go_upto_region 26 with fail
            have HS6 : Y.drew.cell? ⟨o, 6, none⟩ = some (.slice dA k dc) := (cells7 HO.out).2.2.2.2.2.2
            refine Tail.start 8 (fun w' => w'.cell? ⟨o, 6, none⟩ = some (.slice dA k dc)) (by kernel_rfl) ?_
            refine Tail.take 0 rfl (by kernel_rfl) (fun _ _ _ h => h) (by rfl) HS6 (fun w hSw => by (try dsimp only at hSw); go_simp; (try with_reducible rfl)) ?_
            try simp only [Act.put, List.setIfInBounds_toArray, List.set_cons_zero, List.set_cons_succ]
            refine Tail.take 1 rfl (by kernel_rfl) (fun _ _ _ h => h) (by rfl) HS6 (fun w hSw => by (try dsimp only at hSw); go_simp; (try with_reducible rfl)) ?_
            try simp only [Act.put, List.setIfInBounds_toArray, List.set_cons_zero, List.set_cons_succ]
            refine Tail.take 2 rfl (by kernel_rfl) (fun _ _ _ h => h) (by rfl) HS6 (fun w hSw => by (try dsimp only at hSw); go_simp; (try with_reducible rfl)) ?_
            try simp only [Act.put, List.setIfInBounds_toArray, List.set_cons_zero, List.set_cons_succ]
            refine Tail.one 3 rfl (by kernel_rfl) (fun K hK => ?_)
            go_simp
            refine (get_st 8 8 rfl (show ST Y.drew p s (r + 8 * sumTo l i) from HST.out.kept ((Kept.refl (fun _ => False) Y).drew) id) (by omega) HS.out).mono ?_
            rintro e Y1 ⟨rfl, h1, hk1⟩
            have hk2 : Kept (fun j => j = p) Y Y1 := (Kept.refl (fun j => j = p) Y).drew.trans hk1 (fun _ _ h => h)
            have HST1 := bx h1
            have HQ1 := bx ((hk2.block q (Array.getElem?_eq_some_iff.1 HQ.out).1 (fun e => by have := HPQ.out; omega)).trans HQ.out)
            have HO1 := bx ((hk2.block o (Array.getElem?_eq_some_iff.1 HO.out).1 (fun e => by have := HPO.out; omega)).trans HO.out)
            have HRL1 := bx (HRL.out.kept hk2 (fun g hg e => (HAT.out g hg).2.2.1 e))
            have HRD1 := bx (HRD.out.kept hk2 (fun g hg e => (HDA.out g hg).2.2.1 e))
            have HB1 := bx (show Below w.heap.size w Y1 from (Kept.trans (S := fun j => w.heap.size ≤ j) (Kept.of_below HB.out) hk2 (fun j _ e => by have := HPQ.out; have := HQW.out; omega)).below (Nat.le_refl _) (fun _ h => h))
            obtain ⟨V, hV⟩ : ∃ V, V = vx s (r + 8 * sumTo l i) 8 := ⟨_, rfl⟩
            obtain ⟨V0, V1⟩ : 0 ≤ V ∧ V < 256 := by rw [hV]; exact vx_bd s _ 8
            rw [← hV] at HDD ⊢
            have HS6 : Y1.cell? ⟨o, 6, none⟩ = some (.slice dA k dc) := (cells7 HO1.out).2.2.2.2.2.2
            have hwr : IntKind.i64.wrap V = V := IntWalk.i64_in _ (by omega)
            clear h1 hk1 hk2 hV
            refine hK.out _ _ HS6 ?_
            clear hK K
            try simp only [Act.put, List.setIfInBounds_toArray, List.set_cons_zero, List.set_cons_succ]
            refine Tail.take 4 rfl (by kernel_rfl) (fun _ _ _ h => h) (by rfl) HS6 (fun w hSw => by (try dsimp only at hSw); go_simp; (try with_reducible rfl)) ?_
            try simp only [Act.put, List.setIfInBounds_toArray, List.set_cons_zero, List.set_cons_succ]
            -- buildSlice
            refine Tail.one 5 rfl (by kernel_rfl) (fun K hK => ?_)
            go_simp
            have HS6 : (Y1.alloc (.cells #[.int .i64 V] 3)).cell? ⟨o, 6, none⟩ = some (.slice dA k dc) := ck ((Kept.refl (fun _ => False) Y1).alloc _) HS6 id
            refine hK.out _ _ HS6 ?_
            clear hK K
            try simp only [Act.put, List.setIfInBounds_toArray, List.set_cons_zero, List.set_cons_succ]
            refine Tail.one 6 rfl (by kernel_rfl) (fun K hK => ?_)
            have HRK := bx (HRD1.out.kept ((Kept.refl (fun _ => False) Y1).alloc (.cells #[.int .i64 V] 3)) (fun _ _ => id))
            have HRN := bx (show Rd (Y1.alloc (.cells #[.int .i64 V] 3)) 1 (some ⟨Y1.heap.size, 0, none⟩) 1 [.int .i64 V] from Rd.one Y1 _ _)
            refine step_row rfl (.tmp 91) (.tmp 95) 23 rfl 3 (.int .i64 0) 1 8 Try.underlying23 info_int rfl (by omega) (.slice dA k dc) k (nums .i64 (decD s l r i)) rfl HRK.out _ _ [.int .i64 V] rfl HRN.out (by simp [Value.oneCell']) (by omega) ?_
            intro v1 w6 hr1 hk1 hn1
            obtain ⟨A1, cap1, rfl⟩ := hr1.shape
            have HNO := bx (show ¬ isAt (.slice dA k dc) o from fun e => (HDA.out o e).2.2.2.1 rfl)
            have HS6 : w6.cell? ⟨o, 6, none⟩ = some (.slice dA k dc) := ck hk1 HS6 HNO.out
            have HR5 := bx hr1
            have HN5 := bx hn1
            have HK5 := bx (show Kept (isAt (.slice dA k dc)) Y1 w6 from Kept.trans (S := isAt (.slice dA k dc)) ((Kept.refl (isAt (.slice dA k dc)) Y1).alloc _) hk1 (fun _ _ h => h))
            clear hr1 hk1 hn1
            refine hK.out _ _ HS6 ?_
            clear hK K
            try simp only [Act.put, List.setIfInBounds_toArray, List.set_cons_zero, List.set_cons_succ]
            refine Tail.take 7 rfl (by kernel_rfl) (fun _ _ _ h => h) (by rfl) HS6 (fun w hSw => by (try dsimp only at hSw); go_simp; (try with_reducible rfl)) ?_
            try simp only [Act.put, List.setIfInBounds_toArray, List.set_cons_zero, List.set_cons_succ]
            refine Tail.tail 8 rfl (by kernel_rfl) ?_
            simp only [List.drop_succ_cons, List.drop_zero]
            clear HS6
            simp only [List.getElem_toArray, List.getElem_cons_succ, List.getElem_cons_zero, List.setIfInBounds_toArray, List.set_cons_zero, List.set_cons_succ]
            have HO5 := bx ((HK5.out.block o (Array.getElem?_eq_some_iff.1 HO1.out).1 HNO.out).trans HO1.out)
            have y6 := (cells7 HO5.out).2.2.2.2.2.2
            have e6 := frozen_of HO5.out 6
            go_wp2_with fail
            go_roundw
            case rel =>
              have hks : Kept (fun j => j = o) w6 (w6.setCell ⟨o, 6, none⟩ (.slice A1 (k + 1) cap1)) := (Kept.refl (fun j => j = o) w6).setCell (p := ⟨o, 6, none⟩) (.inl rfl) _
              have hda2 : ∀ j, isAt (.slice A1 (k + 1) cap1) j → w.heap.size ≤ j ∧ j ≠ q ∧ j ≠ p ∧ j ≠ o ∧ ¬ isAt (.slice (some ⟨g, off, none⟩) n lc) j := fun j hg => by
                rcases HN5.out j hg with h | h
                · exact HDA.out j h
                · have h1 := (Array.getElem?_eq_some_iff.1 HQ1.out).1
                  have h2 := (Array.getElem?_eq_some_iff.1 HO1.out).1
                  have h3 := HST1.out.lt
                  have h5 := HB1.out.size
                  rw [show (Y1.alloc (.cells #[.int .i64 V] 3)).heap.size = Y1.heap.size + 1 by simp] at h
                  refine ⟨by omega, by omega, by omega, by omega, fun e => ?_⟩
                  have h6 := HRL1.out.lt e
                  omega
              have hlen : (decD s l r (i + 1)).length = k + 1 := by rw [HDD.out, List.length_append, HKL.out]; rfl
              refine ⟨i + 1, .slice A1 (k + 1) cap1, by omega, by go_num, ?_, ?_, ?_, ?_, hda2, ?_, ?_⟩
              · exact (hks.block q (Array.getElem?_eq_some_iff.1 ((HK5.out.block q (Array.getElem?_eq_some_iff.1 HQ1.out).1 (fun e => (HDA.out q e).2.1 rfl)).trans HQ1.out)).1 (fun e => by have := HPQ.out; have := HPO.out; omega)).trans ((HK5.out.block q (Array.getElem?_eq_some_iff.1 HQ1.out).1 (fun e => (HDA.out q e).2.1 rfl)).trans HQ1.out)
              · simp [World.setCell, Array.getElem?_modify, HO5.out]
              · exact (HRL1.out.kept HK5.out (fun g hg e => (HDA.out g e).2.2.2.2 hg)).kept hks (fun g hg e => (HAT.out g hg).2.2.2 e)
              · rw [hlen, HDD.out, nums_append]
                exact HR5.out.kept hks (fun g hg e => (hda2 g hg).2.2.2.1 e)
              · have h := (HST1.out.kept HK5.out (fun e => (HDA.out p e).2.2.1 rfl)).kept hks (fun e => by have := HPO.out; omega)
                rwa [HSM.out] at h
              · exact (Kept.trans (S := fun j => w.heap.size ≤ j) (Kept.trans (S := fun j => w.heap.size ≤ j) (Kept.of_below HB1.out) HK5.out (fun j _ e => (HDA.out j e).1)) hks (fun j _ e => by have := HPQ.out; have := HPO.out; have := HQW.out; omega)).below (Nat.le_refl _) (fun _ h => h)
            case measure => exact measN n i hil
          · subst s2
            have HDD := bx (decD_two (s := s) (r := r) HXX.out)
            have HSM := bx (show r + 8 * sumTo l i + 16 = r + 8 * sumTo l (i + 1) by rw [sumTo_succ HXX.out]; omega)
            go_upto_region 28 with fail
            have HS6 : Y.drew.cell? ⟨o, 6, none⟩ = some (.slice dA k dc) := (cells7 HO.out).2.2.2.2.2.2
            refine Tail.start 8 (fun w' => w'.cell? ⟨o, 6, none⟩ = some (.slice dA k dc)) (by kernel_rfl) ?_
            refine Tail.take 0 rfl (by kernel_rfl) (fun _ _ _ h => h) (by rfl) HS6 (fun w hSw => by (try dsimp only at hSw); go_simp; (try with_reducible rfl)) ?_
            try simp only [Act.put, List.setIfInBounds_toArray, List.set_cons_zero, List.set_cons_succ]
            refine Tail.take 1 rfl (by kernel_rfl) (fun _ _ _ h => h) (by rfl) HS6 (fun w hSw => by (try dsimp only at hSw); go_simp; (try with_reducible rfl)) ?_
            try simp only [Act.put, List.setIfInBounds_toArray, List.set_cons_zero, List.set_cons_succ]
            refine Tail.take 2 rfl (by kernel_rfl) (fun _ _ _ h => h) (by rfl) HS6 (fun w hSw => by (try dsimp only at hSw); go_simp; (try with_reducible rfl)) ?_
            try simp only [Act.put, List.setIfInBounds_toArray, List.set_cons_zero, List.set_cons_succ]
            refine Tail.one 3 rfl (by kernel_rfl) (fun K hK => ?_)
            go_simp
            refine (get_st 16 16 rfl (show ST Y.drew p s (r + 8 * sumTo l i) from HST.out.kept ((Kept.refl (fun _ => False) Y).drew) id) (by omega) HS.out).mono ?_
            rintro e Y1 ⟨rfl, h1, hk1⟩
            have hk2 : Kept (fun j => j = p) Y Y1 := (Kept.refl (fun j => j = p) Y).drew.trans hk1 (fun _ _ h => h)
            have HST1 := bx h1
            have HQ1 := bx ((hk2.block q (Array.getElem?_eq_some_iff.1 HQ.out).1 (fun e => by have := HPQ.out; omega)).trans HQ.out)
            have HO1 := bx ((hk2.block o (Array.getElem?_eq_some_iff.1 HO.out).1 (fun e => by have := HPO.out; omega)).trans HO.out)
            have HRL1 := bx (HRL.out.kept hk2 (fun g hg e => (HAT.out g hg).2.2.1 e))
            have HRD1 := bx (HRD.out.kept hk2 (fun g hg e => (HDA.out g hg).2.2.1 e))
            have HB1 := bx (show Below w.heap.size w Y1 from (Kept.trans (S := fun j => w.heap.size ≤ j) (Kept.of_below HB.out) hk2 (fun j _ e => by have := HPQ.out; have := HQW.out; omega)).below (Nat.le_refl _) (fun _ h => h))
            obtain ⟨V, hV⟩ : ∃ V, V = vx s (r + 8 * sumTo l i) 16 := ⟨_, rfl⟩
            obtain ⟨V0, V1⟩ : 0 ≤ V ∧ V < 65536 := by rw [hV]; exact vx_bd s _ 16
            rw [← hV] at HDD ⊢
            have HS6 : Y1.cell? ⟨o, 6, none⟩ = some (.slice dA k dc) := (cells7 HO1.out).2.2.2.2.2.2
            have hwr : IntKind.i64.wrap V = V := IntWalk.i64_in _ (by omega)
            clear h1 hk1 hk2 hV
            refine hK.out _ _ HS6 ?_
            clear hK K
            try simp only [Act.put, List.setIfInBounds_toArray, List.set_cons_zero, List.set_cons_succ]
            refine Tail.one 4 rfl (by kernel_rfl) (fun K hK => ?_)
            go_simp
            refine (signed16 V Y1 V0 V1).mono ?_
            rintro e Y1' ⟨rfl, rfl⟩
            obtain ⟨SV, hSV⟩ : ∃ SV, SV = sg 16 V := ⟨_, rfl⟩
            rw [← hSV] at HDD ⊢
            clear hSV
            refine hK.out _ _ HS6 ?_
            clear hK K
            try simp only [Act.put, List.setIfInBounds_toArray, List.set_cons_zero, List.set_cons_succ]
            -- buildSlice
            refine Tail.one 5 rfl (by kernel_rfl) (fun K hK => ?_)
            go_simp
            have HS6 : (Y1.alloc (.cells #[.int .i64 SV] 3)).cell? ⟨o, 6, none⟩ = some (.slice dA k dc) := ck ((Kept.refl (fun _ => False) Y1).alloc _) HS6 id
            refine hK.out _ _ HS6 ?_
            clear hK K
            try simp only [Act.put, List.setIfInBounds_toArray, List.set_cons_zero, List.set_cons_succ]
            refine Tail.one 6 rfl (by kernel_rfl) (fun K hK => ?_)
            have HRK := bx (HRD1.out.kept ((Kept.refl (fun _ => False) Y1).alloc (.cells #[.int .i64 SV] 3)) (fun _ _ => id))
            have HRN := bx (show Rd (Y1.alloc (.cells #[.int .i64 SV] 3)) 1 (some ⟨Y1.heap.size, 0, none⟩) 1 [.int .i64 SV] from Rd.one Y1 _ _)
            refine step_row rfl (.tmp 101) (.tmp 105) 23 rfl 3 (.int .i64 0) 1 8 Try.underlying23 info_int rfl (by omega) (.slice dA k dc) k (nums .i64 (decD s l r i)) rfl HRK.out _ _ [.int .i64 SV] rfl HRN.out (by simp [Value.oneCell']) (by omega) ?_
            intro v1 w6 hr1 hk1 hn1
            obtain ⟨A1, cap1, rfl⟩ := hr1.shape
            have HNO := bx (show ¬ isAt (.slice dA k dc) o from fun e => (HDA.out o e).2.2.2.1 rfl)
            have HS6 : w6.cell? ⟨o, 6, none⟩ = some (.slice dA k dc) := ck hk1 HS6 HNO.out
            have HR5 := bx hr1
            have HN5 := bx hn1
            have HK5 := bx (show Kept (isAt (.slice dA k dc)) Y1 w6 from Kept.trans (S := isAt (.slice dA k dc)) ((Kept.refl (isAt (.slice dA k dc)) Y1).alloc _) hk1 (fun _ _ h => h))
            clear hr1 hk1 hn1
            refine hK.out _ _ HS6 ?_
            clear hK K
            try simp only [Act.put, List.setIfInBounds_toArray, List.set_cons_zero, List.set_cons_succ]
            refine Tail.take 7 rfl (by kernel_rfl) (fun _ _ _ h => h) (by rfl) HS6 (fun w hSw => by (try dsimp only at hSw); go_simp; (try with_reducible rfl)) ?_
            try simp only [Act.put, List.setIfInBounds_toArray, List.set_cons_zero, List.set_cons_succ]
            refine Tail.tail 8 rfl (by kernel_rfl) ?_
            simp only [List.drop_succ_cons, List.drop_zero]
            clear HS6
            simp only [List.getElem_toArray, List.getElem_cons_succ, List.getElem_cons_zero, List.setIfInBounds_toArray, List.set_cons_zero, List.set_cons_succ]
            have HO5 := bx ((HK5.out.block o (Array.getElem?_eq_some_iff.1 HO1.out).1 HNO.out).trans HO1.out)
            have y6 := (cells7 HO5.out).2.2.2.2.2.2
            have e6 := frozen_of HO5.out 6
            go_wp2_with fail
            go_roundw
            case rel =>
              have hks : Kept (fun j => j = o) w6 (w6.setCell ⟨o, 6, none⟩ (.slice A1 (k + 1) cap1)) := (Kept.refl (fun j => j = o) w6).setCell (p := ⟨o, 6, none⟩) (.inl rfl) _
              have hda2 : ∀ j, isAt (.slice A1 (k + 1) cap1) j → w.heap.size ≤ j ∧ j ≠ q ∧ j ≠ p ∧ j ≠ o ∧ ¬ isAt (.slice (some ⟨g, off, none⟩) n lc) j := fun j hg => by
                rcases HN5.out j hg with h | h
                · exact HDA.out j h
                · have h1 := (Array.getElem?_eq_some_iff.1 HQ1.out).1
                  have h2 := (Array.getElem?_eq_some_iff.1 HO1.out).1
                  have h3 := HST1.out.lt
                  have h5 := HB1.out.size
                  rw [show (Y1.alloc (.cells #[.int .i64 SV] 3)).heap.size = Y1.heap.size + 1 by simp] at h
                  refine ⟨by omega, by omega, by omega, by omega, fun e => ?_⟩
                  have h6 := HRL1.out.lt e
                  omega
              have hlen : (decD s l r (i + 1)).length = k + 1 := by rw [HDD.out, List.length_append, HKL.out]; rfl
              refine ⟨i + 1, .slice A1 (k + 1) cap1, by omega, by go_num, ?_, ?_, ?_, ?_, hda2, ?_, ?_⟩
              · exact (hks.block q (Array.getElem?_eq_some_iff.1 ((HK5.out.block q (Array.getElem?_eq_some_iff.1 HQ1.out).1 (fun e => (HDA.out q e).2.1 rfl)).trans HQ1.out)).1 (fun e => by have := HPQ.out; have := HPO.out; omega)).trans ((HK5.out.block q (Array.getElem?_eq_some_iff.1 HQ1.out).1 (fun e => (HDA.out q e).2.1 rfl)).trans HQ1.out)
              · simp [World.setCell, Array.getElem?_modify, HO5.out]
              · exact (HRL1.out.kept HK5.out (fun g hg e => (HDA.out g e).2.2.2.2 hg)).kept hks (fun g hg e => (HAT.out g hg).2.2.2 e)
              · rw [hlen, HDD.out, nums_append]
                exact HR5.out.kept hks (fun g hg e => (hda2 g hg).2.2.2.1 e)
              · have h := (HST1.out.kept HK5.out (fun e => (HDA.out p e).2.2.1 rfl)).kept hks (fun e => by have := HPO.out; omega)
                rwa [HSM.out] at h
              · exact (Kept.trans (S := fun j => w.heap.size ≤ j) (Kept.trans (S := fun j => w.heap.size ≤ j) (Kept.of_below HB1.out) HK5.out (fun j _ e => (HDA.out j e).1)) hks (fun j _ e => by have := HPQ.out; have := HPO.out; have := HQW.out; omega)).below (Nat.le_refl _) (fun _ h => h)
            case measure => exact measN n i hil
        · have hin : i = n := by omega
          have q2 : decide ((i : Int) < (n : Int)) = false := decide_eq_false hil
          have q2' : decide (i < n) = false := decide_eq_false (by omega)
          subst hin
          obtain ⟨E, hE⟩ : ∃ E, E = r + 8 * sumTo l i := ⟨_, rfl⟩
          rw [← hE] at HST
          have HEE := bx (show r + 8 * sumTo l l.length = E by rw [hE, HN.out])
          clear hil hi hE
          go_wp2_with fail
          refine (bad_st HST.out).mono ?_
          rintro e Y1 ⟨rfl, h1, hk1⟩
          have HST1 := bx h1
          have HQ1 := bx ((hk1.block q (Array.getElem?_eq_some_iff.1 HQ.out).1 id).trans HQ.out)
          have HO1 := bx ((hk1.block o (Array.getElem?_eq_some_iff.1 HO.out).1 id).trans HO.out)
          have HRL1 := bx (HRL.out.kept hk1 (fun _ _ => id))
          have HRD1 := bx (HRD.out.kept hk1 (fun _ _ => id))
          have HB1 := bx (below_then HB.out HB.out.size (hk1.below (Nat.le_refl _) (fun _ e => e.elim)))
          clear h1 hk1 q2 q2'
          by_cases hsh : 8 * s.size < E
          · rw [decide_eq_true hsh]
            have HD := bx (show decT s = (zeroT, 60) by
              rw [HDT.out]
              unfold tailT
              simp only
              rw [HEE.out, if_pos hsh])
            clear hsh
            have hcb := HQ1.out
            obtain ⟨z0, z1, z2, z3, z4, z5, z6⟩ := cells7 hcb
            have e0 := frozen_of hcb 0
            have e1 := frozen_of hcb 1
            have e2 := frozen_of hcb 2
            have e3 := frozen_of hcb 3
            have e4 := frozen_of hcb 4
            have e5 := frozen_of hcb 5
            have e6 := frozen_of hcb 6
            clear hcb
            go_wp2_with fail
            try simp only [Exit.jump]
            refine ret_dec (u := .int .i64 60) (stored7 HQ1.out) rfl rfl rfl rfl ?_
            exact dec_zero HD.out ((kept_store7 (S := fun k => w.heap.size ≤ k) (Kept.of_below HB1.out) (.inl HQW.out) _ _ _ _ _ _ _).below (Nat.le_refl _) (fun _ h => h))
          · rw [decide_eq_false hsh]
            have HEF := bx (show E ≤ 8 * s.size by omega)
            obtain ⟨NN, hNN⟩ : ∃ NN : Nat, 8 * (s.size : Int) - (E : Int) = (NN : Int) := ⟨8 * s.size - E, by omega⟩
            have HNN := bx (show 8 * s.size - E = NN by omega)
            have HTL := bx (show decT s = if 24 < NN ∨ ¬ val s E NN = 0 then (zeroT, 91) else ((val s 0 32, val s 32 32, val s 64 16, sg 24 (val s 96 24), val s 120 8, l, decD s l r l.length), 0) by
              rw [HDT.out]
              unfold tailT
              simp only
              rw [HEE.out, if_neg hsh, HNN.out])
            have HN3 := bx hNN
            clear hsh hNN
            go_wp2_with fail
            refine (left_st HST1.out HEF.out HS.out).mono ?_
            rw [HN3.out]
            rintro e Y2 ⟨rfl, h1, hk1⟩
            have HST2 := bx h1
            have HQ2 := bx ((hk1.block q (Array.getElem?_eq_some_iff.1 HQ1.out).1 id).trans HQ1.out)
            have HO2 := bx ((hk1.block o (Array.getElem?_eq_some_iff.1 HO1.out).1 id).trans HO1.out)
            have HRL2 := bx (HRL1.out.kept hk1 (fun _ _ => id))
            have HRD2 := bx (HRD1.out.kept hk1 (fun _ _ => id))
            have HB2 := bx (below_then HB1.out HB1.out.size (hk1.below (Nat.le_refl _) (fun _ e => e.elim)))
            clear h1 hk1
            by_cases hn24 : 24 < (NN : Int)
            · have HD := bx (show decT s = (zeroT, 91) by rw [HTL.out, if_pos (.inl (by omega))])
              have q3 : decide (24 < (NN : Int)) = true := decide_eq_true hn24
              have q3' : decide (24 < NN) = true := decide_eq_true (by omega)
              clear hn24
              have hcb := HQ2.out
              obtain ⟨z0, z1, z2, z3, z4, z5, z6⟩ := cells7 hcb
              have e0 := frozen_of hcb 0
              have e1 := frozen_of hcb 1
              have e2 := frozen_of hcb 2
              have e3 := frozen_of hcb 3
              have e4 := frozen_of hcb 4
              have e5 := frozen_of hcb 5
              have e6 := frozen_of hcb 6
              clear hcb
              go_wp2_with fail
              try simp only [Exit.jump]
              refine ret_dec (u := .int .i64 91) (stored7 HQ2.out) rfl rfl rfl rfl ?_
              exact dec_zero HD.out ((kept_store7 (S := fun k => w.heap.size ≤ k) (Kept.of_below HB2.out) (.inl HQW.out) _ _ _ _ _ _ _).below (Nat.le_refl _) (fun _ h => h))
            · have q3 : decide (24 < (NN : Int)) = false := decide_eq_false hn24
              have q3' : decide (24 < NN) = false := decide_eq_false (by omega)
              go_wp2_with fail
              refine (get_st NN (NN : Int) rfl HST2.out (by omega) HS.out).mono ?_
              rintro e Y3 ⟨rfl, h1, hk1⟩
              rw [vx_fit (by have := HEF.out; have := HNN.out; omega)]
              have HQ3 := bx ((hk1.block q (Array.getElem?_eq_some_iff.1 HQ2.out).1 (fun e => by have := HPQ.out; omega)).trans HQ2.out)
              have HO3 := bx ((hk1.block o (Array.getElem?_eq_some_iff.1 HO2.out).1 (fun e => by have := HPO.out; omega)).trans HO2.out)
              have HRL3 := bx (HRL2.out.kept hk1 (fun g hg e => (HAT.out g hg).2.2.1 e))
              have HRD3 := bx (HRD2.out.kept hk1 (fun g hg e => (HDA.out g hg).2.2.1 e))
              have HB3 := bx (show Below w.heap.size w Y3 from (Kept.trans (S := fun k => w.heap.size ≤ k) (Kept.of_below HB2.out) hk1 (fun k _ e => by have := HPQ.out; have := HQW.out; omega)).below (Nat.le_refl _) (fun _ h => h))
              obtain ⟨pv, hpv⟩ : ∃ pv, pv = val s E NN := ⟨_, rfl⟩
              rw [← hpv]
              have HN24 := bx (show ¬ 24 < NN by omega)
              have HPV := bx hpv
              clear h1 hk1 hpv hn24
              by_cases hp0 : ¬ pv = 0
              · have HD := bx (show decT s = (zeroT, 91) by rw [HTL.out, if_pos (.inr (by rw [← HPV.out]; exact hp0))])
                have q4 : (pv == 0) = false := by rw [beq_eq_false_iff_ne]; exact hp0
                have q4' : (pv != 0) = true := by unfold bne; rw [q4]; rfl
                clear hp0 q4
                have hcb := HQ3.out
                obtain ⟨z0, z1, z2, z3, z4, z5, z6⟩ := cells7 hcb
                have e0 := frozen_of hcb 0
                have e1 := frozen_of hcb 1
                have e2 := frozen_of hcb 2
                have e3 := frozen_of hcb 3
                have e4 := frozen_of hcb 4
                have e5 := frozen_of hcb 5
                have e6 := frozen_of hcb 6
                clear hcb
                go_wp2_with fail
                try simp only [Exit.jump]
                refine ret_dec (u := .int .i64 91) (stored7 HQ3.out) rfl rfl rfl rfl ?_
                exact dec_zero HD.out ((kept_store7 (S := fun k => w.heap.size ≤ k) (Kept.of_below HB3.out) (.inl HQW.out) _ _ _ _ _ _ _).below (Nat.le_refl _) (fun _ h => h))
              · replace hp0 := Classical.not_not.1 hp0
                have HD := bx (show decT s = ((val s 0 32, val s 32 32, val s 64 16, sg 24 (val s 96 24), val s 120 8, l, decD s l r l.length), 0) by
                  rw [HTL.out, if_neg (by have h1 := HN24.out; rw [← HPV.out]; omega)])
                have q4 : (pv == 0) = true := by rw [beq_iff_eq]; exact hp0
                have q4' : (pv != 0) = false := by unfold bne; rw [q4]; rfl
                clear hp0 q4
                have hcb := HQ3.out
                obtain ⟨z0, z1, z2, z3, z4, z5, z6⟩ := cells7 hcb
                have e0 := frozen_of hcb 0
                have e1 := frozen_of hcb 1
                have e2 := frozen_of hcb 2
                have e3 := frozen_of hcb 3
                have e4 := frozen_of hcb 4
                have e5 := frozen_of hcb 5
                have e6 := frozen_of hcb 6
                obtain ⟨y0, y1, y2, y3, y4, y5, y6⟩ := cells7 HO3.out
                clear hcb
                go_wp2_with fail
                try simp only [Exit.jump]
                refine ret_dec (u := .int .i64 0) (stored7 HQ3.out) rfl rfl rfl rfl ?_
                have hks := kept_store7 (S := fun j => j = q) (Kept.refl _ Y3) (.inl rfl) (.int .u32 (val s 0 32)) (.int .u32 (val s 32 32)) (.int .i64 (val s 64 16)) (.int .i64 (sg 24 (val s 96 24))) (.int .i64 (val s 120 8)) (.slice lA i lc) (.slice dA k dc)
                unfold DecPost
                rw [HD.out]
                refine ⟨_, rfl, ⟨lA, lc, dA, dc, ?_, ?_, ?_, ?_⟩, ?_⟩
                · show Value.agg _ = Value.agg #[_, _, _, _, _, .slice lA l.length lc, .slice dA (decD s l r l.length).length dc]
                  rw [← HN.out, HKL.out]
                  rfl
                · show Rd _ 1 lA l.length (nums .i64 l)
                  rw [← HN.out]
                  exact (HRL3.out.kept hks (fun g hg e => (HAT.out g hg).2.1 e)).rd
                · show Rd _ 1 dA (decD s l r l.length).length (nums .i64 (decD s l r l.length))
                  rw [← HN.out, HKL.out]
                  exact (HRD3.out.kept hks (fun g hg e => (HDA.out g hg).2.1 e)).rd
                · show l.length ≤ lc
                  rw [← HN.out]
                  exact RW.cap HRL3.out
                · exact (Kept.trans (S := fun j => w.heap.size ≤ j) (Kept.of_below HB3.out) hks (fun j _ e => by have := HQW.out; omega)).below (Nat.le_refl _) (fun _ h => h)
  · intro hp
    have HPI := bx hp
    clear hp
    by_cases h1 : 65536 < Z
    · have HD := bx (show decT s = (zeroT, 2) by unfold decT; rw [if_pos (by omega)])
      have q1 : decide (65536 < Z) = true := decide_eq_true (by omega)
      have hcb := HQ0.out
      obtain ⟨z0, z1, z2, z3, z4, z5, z6⟩ := cells7 hcb
      have e0 := frozen_of hcb 0
      have e1 := frozen_of hcb 1
      have e2 := frozen_of hcb 2
      have e3 := frozen_of hcb 3
      have e4 := frozen_of hcb 4
      have e5 := frozen_of hcb 5
      have e6 := frozen_of hcb 6
      clear hcb
      go_wp2_with fail
      try simp only [Exit.jump]
      refine ret_dec (u := .int .i64 2) (stored7 HQ0.out) rfl rfl rfl rfl ?_
      exact dec_zero HD.out ((kept_store7 (S := fun k => w.heap.size ≤ k) (Kept.of_below HB0.out) (.inl HQW.out) _ _ _ _ _ _ _).below (Nat.le_refl _) (fun _ h => h))
    · have t1 : ¬ 65536 < s.size := by omega
      have q1 : decide (65536 < Z) = false := decide_eq_false h1
      by_cases h2 : ¬ Z % 4 = 0
      · have HD := bx (show decT s = (zeroT, 90) by unfold decT; rw [if_neg t1, if_pos (by omega)])
        have q2 : (Z % 4 == 0) = false := by rw [beq_eq_false_iff_ne]; exact h2
        have q2' : (Z % 4 != 0) = true := by unfold bne; rw [q2]; rfl
        clear h2 q2
        have hcb := HQ0.out
        obtain ⟨z0, z1, z2, z3, z4, z5, z6⟩ := cells7 hcb
        have e0 := frozen_of hcb 0
        have e1 := frozen_of hcb 1
        have e2 := frozen_of hcb 2
        have e3 := frozen_of hcb 3
        have e4 := frozen_of hcb 4
        have e5 := frozen_of hcb 5
        have e6 := frozen_of hcb 6
        clear hcb
        go_wp2_with fail
        try simp only [Exit.jump]
        refine ret_dec (u := .int .i64 90) (stored7 HQ0.out) rfl rfl rfl rfl ?_
        exact dec_zero HD.out ((kept_store7 (S := fun k => w.heap.size ≤ k) (Kept.of_below HB0.out) (.inl HQW.out) _ _ _ _ _ _ _).below (Nat.le_refl _) (fun _ h => h))
      · replace h2 := Classical.not_not.1 h2
        have t2 : ¬ ¬ s.size % 4 = 0 := by omega
        have q2 : (Z % 4 == 0) = true := by rw [beq_iff_eq]; exact h2
        have q2' : (Z % 4 != 0) = false := by unfold bne; rw [q2]; rfl
        by_cases h3 : Z < 16
        · have HD := bx (show decT s = (zeroT, 60) by unfold decT; rw [if_neg t1, if_neg t2, if_pos (by omega)])
          clear h2 q2
          have q3 : decide (Z < 16) = true := decide_eq_true (by omega)
          have hcb := HQ0.out
          obtain ⟨z0, z1, z2, z3, z4, z5, z6⟩ := cells7 hcb
          have e0 := frozen_of hcb 0
          have e1 := frozen_of hcb 1
          have e2 := frozen_of hcb 2
          have e3 := frozen_of hcb 3
          have e4 := frozen_of hcb 4
          have e5 := frozen_of hcb 5
          have e6 := frozen_of hcb 6
          clear hcb
          go_wp2_with fail
          try simp only [Exit.jump]
          refine ret_dec (u := .int .i64 60) (stored7 HQ0.out) rfl rfl rfl rfl ?_
          exact dec_zero HD.out ((kept_store7 (S := fun k => w.heap.size ≤ k) (Kept.of_below HB0.out) (.inl HQW.out) _ _ _ _ _ _ _).below (Nat.le_refl _) (fun _ h => h))
        · have t3 : ¬ s.size < 16 := by omega
          have HD0 := bx (show decT s = if many = 0 then (zeroT, 90) else if 4096 < many then (zeroT, 3) else outT s (decC s many (many + 1) 128 []) by unfold decT; rw [if_neg t1, if_neg t2, if_neg t3, HMN.out])
          have HFT := bx (show 128 ≤ 8 * s.size by omega)
          have q3 : decide (Z < 16) = false := decide_eq_false (by omega)
          clear h1 h2 h3 t1 t2 t3 q2
          go_wp2_with fail
          refine (read_any s W0).mono ?_
          rintro e Va ⟨rfl, hVa⟩
          obtain ⟨p, hp⟩ : ∃ p, p = W0.heap.size := ⟨_, rfl⟩
          rw [← hp]
          have HR0 := bx (show RR 77 Va p s 0 false by rw [hVa, hp]; exact RR.new _ s W0)
          have hk0 : Kept (fun _ => False) W0 Va := by rw [hVa]; exact (Kept.refl _ W0).alloc _
          have HG0 := bx ((hk0.block q (Array.getElem?_eq_some_iff.1 HQ0.out).1 id).trans HQ0.out)
          have HW0 := bx (below_then HB0.out HB0.out.size (hk0.below (Nat.le_refl _) (fun _ e => e.elim)))
          have HPQ := bx (show q < p by rw [hp]; exact (Array.getElem?_eq_some_iff.1 HQ0.out).1)
          clear hVa hk0 hp q1 q2' q3
          go_wp2_with fail
          refine (get_fit 32 32 rfl HR0.out (by omega) (by have := HFT.out; omega) HS.out).mono ?_
          rintro e V1 ⟨rfl, h1, hk1⟩
          have HR1 := bx (show RR 77 V1 p s 32 false from h1)
          have HG1 := bx ((hk1.block q (Array.getElem?_eq_some_iff.1 HG0.out).1 (fun e => by have := HPQ.out; omega)).trans HG0.out)
          have HW1 := bx (show Below w.heap.size w V1 from (Kept.trans (S := fun k => w.heap.size ≤ k) (Kept.of_below HW0.out) hk1 (fun k _ e => by have := HPQ.out; have := HQW.out; omega)).below (Nat.le_refl _) (fun _ h => h))
          have HK1 := bx hk1
          obtain ⟨v0, hv⟩ : ∃ v, v = val s 0 32 := ⟨_, rfl⟩
          obtain ⟨v0_lo, v0_hi⟩ : 0 ≤ v0 ∧ v0 < 4294967296 := by rw [hv]; exact val_bd s 0 32
          rw [← hv]
          have Hv0 := bx hv
          clear h1 hk1 hv
          go_wp2_with fail
          refine (get_fit 32 32 rfl HR1.out (by omega) (by have := HFT.out; omega) HS.out).mono ?_
          rintro e V2 ⟨rfl, h1, hk1⟩
          have HR2 := bx (show RR 77 V2 p s 64 false from h1)
          have HG2 := bx ((hk1.block q (Array.getElem?_eq_some_iff.1 HG1.out).1 (fun e => by have := HPQ.out; omega)).trans HG1.out)
          have HW2 := bx (show Below w.heap.size w V2 from (Kept.trans (S := fun k => w.heap.size ≤ k) (Kept.of_below HW1.out) hk1 (fun k _ e => by have := HPQ.out; have := HQW.out; omega)).below (Nat.le_refl _) (fun _ h => h))
          have HK2 := bx hk1
          obtain ⟨v1, hv⟩ : ∃ v, v = val s 32 32 := ⟨_, rfl⟩
          obtain ⟨v1_lo, v1_hi⟩ : 0 ≤ v1 ∧ v1 < 4294967296 := by rw [hv]; exact val_bd s 32 32
          rw [← hv]
          have Hv1 := bx hv
          clear h1 hk1 hv
          go_wp2_with fail
          refine (get_fit 16 16 rfl HR2.out (by omega) (by have := HFT.out; omega) HS.out).mono ?_
          rintro e V3 ⟨rfl, h1, hk1⟩
          have HR3 := bx (show RR 77 V3 p s 80 false from h1)
          have HG3 := bx ((hk1.block q (Array.getElem?_eq_some_iff.1 HG2.out).1 (fun e => by have := HPQ.out; omega)).trans HG2.out)
          have HW3 := bx (show Below w.heap.size w V3 from (Kept.trans (S := fun k => w.heap.size ≤ k) (Kept.of_below HW2.out) hk1 (fun k _ e => by have := HPQ.out; have := HQW.out; omega)).below (Nat.le_refl _) (fun _ h => h))
          have HK3 := bx hk1
          obtain ⟨v2, hv⟩ : ∃ v, v = val s 64 16 := ⟨_, rfl⟩
          obtain ⟨v2_lo, v2_hi⟩ : 0 ≤ v2 ∧ v2 < 65536 := by rw [hv]; exact val_bd s 64 16
          rw [← hv]
          have Hv2 := bx hv
          clear h1 hk1 hv
          go_upto_region 9 with fail
          obtain ⟨o, ho⟩ : ∃ o, o = V3.heap.size := ⟨_, rfl⟩
          obtain ⟨V4, hV4⟩ : ∃ U, U = V3.alloc (.cells (dcs v0 v1 v2 0 0 (.slice none 0 0) (.slice none 0 0)) 25) := ⟨_, rfl⟩
          rw [← hV4, ← ho]
          have hk4 : Kept (fun _ => False) V3 V4 := by rw [hV4]; exact (Kept.refl _ V3).alloc _
          have HR4 := bx (HR3.out.kept hk4 id)
          have HG4 := bx ((hk4.block q (Array.getElem?_eq_some_iff.1 HG3.out).1 id).trans HG3.out)
          have HW4 := bx (below_then HW3.out HW3.out.size (hk4.below (Nat.le_refl _) (fun _ e => e.elim)))
          have HO4 := bx (show V4.heap[o]? = some (.cells (dcs v0 v1 v2 0 0 (.slice none 0 0) (.slice none 0 0)) 25 (0, 0)) by rw [hV4, ho]; exact heap_alloc_new V3 _)
          have HPO := bx (show p < o by rw [ho]; exact (Array.getElem?_eq_some_iff.1 HR3.out).1)
          clear ho hV4 hk4 HR0 HR1 HR2 HR3 HG0 HG1 HG2 HG3 HW1 HW2 HW3
          go_wp2_with fail
          refine (get_fit 16 16 rfl HR4.out (by omega) (by have := HFT.out; omega) HS.out).mono ?_
          rintro e V5 ⟨rfl, h1, hk1⟩
          have HR5 := bx (show RR 77 V5 p s 96 false from h1)
          have HG5 := bx ((hk1.block q (Array.getElem?_eq_some_iff.1 HG4.out).1 (fun e => by have := HPQ.out; omega)).trans HG4.out)
          have HW5 := bx (show Below w.heap.size w V5 from (Kept.trans (S := fun k => w.heap.size ≤ k) (Kept.of_below HW4.out) hk1 (fun k _ e => by have := HPQ.out; have := HQW.out; omega)).below (Nat.le_refl _) (fun _ h => h))
          have HK5 := bx hk1
          obtain ⟨vm, hv⟩ : ∃ v, v = val s 80 16 := ⟨_, rfl⟩
          obtain ⟨vm_lo, vm_hi⟩ : 0 ≤ vm ∧ vm < 65536 := by rw [hv]; exact val_bd s 80 16
          rw [← hv]
          have Hvm := bx hv
          clear h1 hk1 hv
          have HO5 := bx (show V5.heap[o]? = some (.cells (dcs v0 v1 v2 0 0 (.slice none 0 0) (.slice none 0 0)) 25 (0, 0)) from (HK5.out.block o (Array.getElem?_eq_some_iff.1 HO4.out).1 (fun e => by have := HPO.out; omega)).trans HO4.out)
          go_wp2_with fail
          refine (get_fit 24 24 rfl HR5.out (by omega) (by have := HFT.out; omega) HS.out).mono ?_
          rintro e V6 ⟨rfl, h1, hk1⟩
          have HR6 := bx (show RR 77 V6 p s 120 false from h1)
          have HG6 := bx ((hk1.block q (Array.getElem?_eq_some_iff.1 HG5.out).1 (fun e => by have := HPQ.out; omega)).trans HG5.out)
          have HW6 := bx (show Below w.heap.size w V6 from (Kept.trans (S := fun k => w.heap.size ≤ k) (Kept.of_below HW5.out) hk1 (fun k _ e => by have := HPQ.out; have := HQW.out; omega)).below (Nat.le_refl _) (fun _ h => h))
          have HK6 := bx hk1
          obtain ⟨vb, hv⟩ : ∃ v, v = val s 96 24 := ⟨_, rfl⟩
          obtain ⟨vb_lo, vb_hi⟩ : 0 ≤ vb ∧ vb < 16777216 := by rw [hv]; exact val_bd s 96 24
          rw [← hv]
          have Hvb := bx hv
          clear h1 hk1 hv
          have HO6 := bx (show V6.heap[o]? = some (.cells (dcs v0 v1 v2 0 0 (.slice none 0 0) (.slice none 0 0)) 25 (0, 0)) from (HK6.out.block o (Array.getElem?_eq_some_iff.1 HO5.out).1 (fun e => by have := HPO.out; omega)).trans HO5.out)
          go_wp2_with fail
          refine (signed24 vb V6 vb_lo vb_hi).mono ?_
          rintro e V6' ⟨rfl, rfl⟩
          obtain ⟨sb, hsb⟩ : ∃ sb, sb = sg 24 vb := ⟨_, rfl⟩
          rw [← hsb]
          have HSB := bx hsb
          clear hsb
          go_wp2_with fail
          refine (get_fit 8 8 rfl HR6.out (by omega) (by have := HFT.out; omega) HS.out).mono ?_
          rintro e V7 ⟨rfl, h1, hk1⟩
          have HR7 := bx (show RR 77 V7 p s 128 false from h1)
          have HG7 := bx ((hk1.block q (Array.getElem?_eq_some_iff.1 HG6.out).1 (fun e => by have := HPQ.out; omega)).trans HG6.out)
          have HW7 := bx (show Below w.heap.size w V7 from (Kept.trans (S := fun k => w.heap.size ≤ k) (Kept.of_below HW6.out) hk1 (fun k _ e => by have := HPQ.out; have := HQW.out; omega)).below (Nat.le_refl _) (fun _ h => h))
          have HK7 := bx hk1
          obtain ⟨vc, hv⟩ : ∃ v, v = val s 120 8 := ⟨_, rfl⟩
          obtain ⟨vc_lo, vc_hi⟩ : 0 ≤ vc ∧ vc < 256 := by rw [hv]; exact val_bd s 120 8
          rw [← hv]
          have Hvc := bx hv
          clear h1 hk1 hv
          have HO7 := bx (show V7.heap[o]? = some (.cells (dcs v0 v1 v2 0 0 (.slice none 0 0) (.slice none 0 0)) 25 (0, 0)) from (HK7.out.block o (Array.getElem?_eq_some_iff.1 HO6.out).1 (fun e => by have := HPO.out; omega)).trans HO6.out)
          have hcb := HO7.out
          have e3 := frozen_of hcb 3
          have e4 := frozen_of hcb 4
          obtain ⟨y0, y1, y2, y3, y4, y5, y6⟩ := cells7 hcb
          clear hcb
          obtain ⟨mm, hmm⟩ : ∃ mm : Nat, vm = (mm : Int) := ⟨vm.toNat, by omega⟩
          have HMM := bx (show mm = many by rw [HMN.out]; unfold manyT; rw [← Hvm.out]; omega)
          subst hmm
          rw [HMM.out]
          go_upto_block 1 with fail
          obtain ⟨U, hU⟩ : ∃ U, U = (V7.setCell ⟨o, 3, none⟩ (.int .i64 sb)).setCell ⟨o, 4, none⟩ (.int .i64 vc) := ⟨_, rfl⟩
          rw [← hU]
          have hku : Kept (fun k => k = o) V7 U := by rw [hU]; exact ((Kept.refl (fun k => k = o) V7).setCell (p := ⟨o, 3, none⟩) (.inl rfl) _).setCell (p := ⟨o, 4, none⟩) (.inl rfl) _
          have HOU := bx (show U.heap[o]? = some (.cells (dcs v0 v1 v2 sb vc (.slice none 0 0) (.slice none 0 0)) 25 (0, 0)) by rw [hU]; simp [World.setCell, Array.getElem?_modify, HO7.out])
          have HGU := bx ((hku.block q (Array.getElem?_eq_some_iff.1 HG7.out).1 (fun e => by have := HPQ.out; have := HPO.out; omega)).trans HG7.out)
          have HRU := bx (HR7.out.kept hku (fun e => by have := HPO.out; omega))
          have HWU := bx (show Below w.heap.size w U from (Kept.trans (S := fun k => w.heap.size ≤ k) (Kept.of_below HW7.out) hku (fun k _ e => by have := HPQ.out; have := HPO.out; have := HQW.out; omega)).below (Nat.le_refl _) (fun _ h => h))
          clear hU hku e3 e4 y0 y1 y2 y3 y4 y5 y6 HO4 HO5 HO6 HO7 HG4 HG5 HG6 HG7 HR4 HR5 HR6 HR7 HW4 HW5 HW6 HW7
          have hmany : (many : Int) ≤ 65535 := by have := HMM.out; omega
          have HDM := bx (show ¬ (many : Int) = 0 → ¬ 4096 < (many : Int) → decT s = outT s (decC s many (many + 1) 128 []) from fun a b => by rw [HD0.out, if_neg (by omega), if_neg (by omega)])
          go_cut [6] (fun s6 wx => s6 = .int .i64 (many : Int) ∧ wx = U ∧ 1 ≤ (many : Int) ∧ (many : Int) ≤ 4096)
          case first =>
            by_cases hm0 : (many : Int) = 0
            · have HD := bx (show decT s = (zeroT, 90) by rw [HD0.out, if_pos (by omega)])
              have q4 : ((many : Int) == 0) = true := by rw [beq_iff_eq]; exact hm0
              have hcb := HGU.out
              obtain ⟨z0, z1, z2, z3, z4, z5, z6⟩ := cells7 hcb
              have e0 := frozen_of hcb 0
              have e1 := frozen_of hcb 1
              have e2 := frozen_of hcb 2
              have e3 := frozen_of hcb 3
              have e4 := frozen_of hcb 4
              have e5 := frozen_of hcb 5
              have e6 := frozen_of hcb 6
              clear hcb
              go_wp2_with fail
              try simp only [Exit.jump]
              refine ret_dec (u := .int .i64 90) (stored7 HGU.out) rfl rfl rfl rfl ?_
              exact dec_zero HD.out ((kept_store7 (S := fun k => w.heap.size ≤ k) (Kept.of_below HWU.out) (.inl HQW.out) _ _ _ _ _ _ _).below (Nat.le_refl _) (fun _ h => h))
            · have q4 : ((many : Int) == 0) = false := by rw [beq_eq_false_iff_ne]; exact hm0
              have t4 : ¬ many = 0 := by omega
              by_cases hm4 : 4096 < (many : Int)
              · have HD := bx (show decT s = (zeroT, 3) by rw [HD0.out, if_neg t4, if_pos (by omega)])
                have q5 : decide (4096 < (many : Int)) = true := decide_eq_true (by omega)
                have q5' : decide (4096 < many) = true := decide_eq_true (by omega)
                have hcb := HGU.out
                obtain ⟨z0, z1, z2, z3, z4, z5, z6⟩ := cells7 hcb
                have e0 := frozen_of hcb 0
                have e1 := frozen_of hcb 1
                have e2 := frozen_of hcb 2
                have e3 := frozen_of hcb 3
                have e4 := frozen_of hcb 4
                have e5 := frozen_of hcb 5
                have e6 := frozen_of hcb 6
                clear hcb
                go_wp2_with fail
                try simp only [Exit.jump]
                refine ret_dec (u := .int .i64 3) (stored7 HGU.out) rfl rfl rfl rfl ?_
                exact dec_zero HD.out ((kept_store7 (S := fun k => w.heap.size ≤ k) (Kept.of_below HWU.out) (.inl HQW.out) _ _ _ _ _ _ _).below (Nat.le_refl _) (fun _ h => h))
              · have HM1 := bx (show 1 ≤ (many : Int) by omega)
                have HM2 := bx (show (many : Int) ≤ 4096 by omega)
                have q5 : decide (4096 < (many : Int)) = false := decide_eq_false (by omega)
                have q5' : decide (4096 < many) = false := decide_eq_false (by omega)
                clear hm0 hm4 t4
                go_wp2_with fail
                go_meet
                exact ⟨rfl, rfl, HM1.out, HM2.out⟩
          case rest =>
            obtain ⟨rfl, rfl, hm1, hm4⟩ := hcut
            rename_i K hK
            refine hK _ _ (HPI.out _ _ ⟨p, o, many + 1, 128, [], .slice none 0 0, rfl, rfl, rfl, rfl, rfl, rfl, HPQ.out, HPO.out, (Array.getElem?_eq_some_iff.1 HOU.out).1, HGU.out, ?_, RW.nil _ _, (by rintro g ⟨o, m, c, e⟩; cases e), HRU.out, HFT.out, HDM.out (by omega) (by omega), by simp, Nat.zero_le _, (fun y hy => by cases hy), by omega, HWU.out⟩)
            rw [← Hv0.out, ← Hv1.out, ← Hv2.out, ← Hvb.out, ← HSB.out, ← Hvc.out]
            exact HOU.out
end Go.Proofs.Ytmedlplgeeeodaa.Tw
