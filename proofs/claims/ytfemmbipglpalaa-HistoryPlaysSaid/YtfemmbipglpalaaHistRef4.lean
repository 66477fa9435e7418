/- The document's history: what Hear comes to; no condition but the ranges in each. -/
import Derived.Test.YtfemmbipglpalaaHistRef3
namespace Go.Proofs.Ytfemmbipglpalaa.History
open Go.RowKit Go.Proofs.Ytfemmbipglpalaa.Plain Go.Proofs.Ytfemmbipglpalaa.Heap Go.Proofs.Ytfemmbipglpalaa.Maps Go.Proofs.Ytfemmbipglpalaa.Rows

set_option linter.unusedSimpArgs false in
set_option maxRecDepth 10000 in
set_option maxHeartbeats 4000000 in
theorem rhear_pos (p : Nat) (h : HS) (v : Value) (A : Option Addr) (n c : Nat) (rs : List R5) (w : World) (hr : QR w p h v) (ok : okH h) (hnx : 0 < h.next) (hrd : Rd w 5 A n (flat5 rs)) (hlen : rs.length = n) (hn1 : n ≤ 1000000) (hA : ∀ b off, A = some ⟨b, off, none⟩ → 0 < n → b ≠ p) :
    Calls Try.prog 21 #[.pointer (some ⟨p, 0, none⟩), .slice A n c] w (RHeard w p v (hearL h rs)) := by
  obtain ⟨b4, hb4⟩ : ∃ b4, b4 = w.heap.size := ⟨_, rfl⟩
  have hpl := hr.cells.2.2.2.2.2
  have HRL := Lib.hid (show ∀ g, isAt v g → g < w.heap.size from fun g hg => hr.row.lt hg)
  have HB4 := Lib.hid hb4
  have HRD := Lib.hid hrd
  have OK := Lib.hid ok
  have HLEN := Lib.hid hlen
  have HA := Lib.hid hA
  have HNX := Lib.hid (fun i => (hear_ok ok (rs.take i)).2.1)
  have HOK := Lib.hid (fun i => (hear_ok ok (rs.take i)).1)
  have HR := Lib.hid hr
  have hnx1 := ok.next1
  have hz := zero_heard
  clear hr ok hrd hlen hA hb4
  go_enter Try.func21, Try.ntmps21
  go_wp2_with fail
  generalize hW : World.alloc (World.alloc w _) _ = wa
  have hk : Kept (fun _ => False) w wa := by rw [← hW]; exact ((Kept.refl _ w).alloc _).alloc _
  have e4 : wa.heap[w.heap.size]? = some (.cells #[.slice none 0 0, .slice none 0 0] 59 (0, 0)) := by
    rw [← hW]
    exact (Below.heap_alloc (w.alloc (.cells #[.slice none 0 0, .slice none 0 0] 59)) _ w.heap.size (by simp)).trans (heap_alloc_new w _)
  have e5 : wa.heap[w.heap.size + 1]? = some (.cells #[.slice none 0 0, .slice none 0 0] 59 (0, 0)) := by
    rw [← hW]
    have := heap_alloc_new (w.alloc (.cells #[.slice none 0 0, .slice none 0 0] 59)) (.cells #[.slice none 0 0, .slice none 0 0] 59)
    simpa using this
  have esz : w.heap.size + 2 ≤ wa.heap.size := by rw [← hW]; simp
  simp only [← HB4.out] at e4 e5 esz ⊢
  have H0 := Lib.hid (show HG w wa p b4 v (hearL h (rs.take 0)) v (.slice none 0 0) (.slice none 0 0) from by
    refine ⟨HR.out.run hk, e4, e5, by simpa [flat6, hearL] using RW.nil _ _, by simpa [flat3, hearL] using RW.nil _ _, fun g hg => ?_, fun g hg => ?_, fun g hg => ?_, fun g hg => ?_, fun g hg => .inl hg, fun g hg => by rw [HB4.out]; exact HRL.out g hg, by rw [HB4.out]; exact hpl, esz, fun g hg _ => hk.block g (by have := HB4.out; omega) id, hk.mono fun _ _ e => e.elim, HB4.out⟩
    all_goals (obtain ⟨_, _, _, e⟩ := hg; cases e))
  clear hW hk e4 e5 esz
  go_loopw [6] (fun iv wx => ∃ i : Nat, i ≤ n ∧ iv = .int .i64 (i : Int) ∧ ∃ u gv lv, HG w wx p b4 v (hearL h (rs.take i)) u gv lv) (fun iv _ => n - (intOf iv).toNat)
  case atStart => exact ⟨0, by omega, rfl, _, _, _, H0.out⟩
  case round =>
    obtain ⟨i, hi, rfl, u, gv, lv, hg⟩ := hrel
    have HGx := Lib.hid hg
    clear hg H0
    obtain ⟨s, hs⟩ : ∃ s, s = hearL h (rs.take i) := ⟨_, rfl⟩
    have HS0 := Lib.hid hs
    rw [← hs] at HGx
    have hsn : s.1.next = h.next := by rw [hs]; exact HNX.out i
    have SOK := Lib.hid (show okH s.1 by rw [hs]; exact HOK.out i)
    clear hs
    by_cases hlt : i < n
    · obtain ⟨b, off, rfl, hb, hc⟩ := HRD.out.2 (by omega)
      have hbp := HA.out b off rfl (by omega)
      obtain ⟨x, hx⟩ : ∃ x, rs[i]? = some x := ⟨_, List.getElem?_eq_getElem (by rw [HLEN.out]; exact hlt)⟩
      obtain ⟨t0, t1, t2, t3, t4⟩ := flat5_get rs i x hx
      have hkc : ∀ j v, w.cell? ⟨b, off + j, none⟩ = some v → wr.cell? ⟨b, off + j, none⟩ = some v := fun j v hv => ck HGx.out.kk hv hbp
      have x0 := hkc _ _ (hc _ _ t0)
      have x1 := hkc _ _ (hc _ _ t1)
      have x2 := hkc _ _ (hc _ _ t2)
      have x3 := hkc _ _ (hc _ _ t3)
      have x4 := hkc _ _ (hc _ _ t4)
      rw [← Nat.add_assoc] at x1 x2 x3 x4
      have HSt := Lib.hid (hear_take (h := h) hx)
      rw [← HS0.out] at HSt
      clear t0 t1 t2 t3 t4 hkc hc hx
      obtain ⟨xs, xg, xa, xl, xe⟩ := x
      simp only at x0 x1 x2 x3 x4
      obtain ⟨d0, d1, d2, d3, df, dp⟩ := HGx.out.qr.cells
      rw [hsn] at d2
      obtain ⟨key, hke⟩ : ∃ z, hkey s.1 xs = z := ⟨_, rfl⟩
      have HKey := Lib.hid (show Fn.near (Fn.hold60 (h.next - 1)) xs 65536 32768 = key by rw [← hsn]; exact hke)
      have HK2x := Lib.hid hke
      have hnw : IntKind.i64.wrap (h.next - 1) = h.next - 1 := IntWalk.i64_in _ (by omega)
      have CN := Lib.hid (fun w' => show Calls Try.prog 34 #[.int .i64 (h.next - 1), .int .i64 xs, .int .i64 16] w' fun e w'' => e = .returned (.int .i64 key) ∧ ∃ q, w'' = w'.drewN q from
        (Fn.ref_near_yes (h.next - 1) xs 16 65536 32768 w' (by decide) (by decide) (by decide) (by decide) (by decide) (by decide)).mono fun e w'' ⟨h1, h2⟩ => ⟨by rw [h1, HKey.out], h2⟩)
      clear hke
      go_wp2_with fail
      go_quiet ((go_at_call 34; exact Calls.quiet_of (CN.out _)))
      generalize hWq : World.drewN wr _ = wq
      have HGq := Lib.hid (show HG w wq p b4 v s u gv lv by rw [← hWq]; exact HGx.out.run ((Kept.refl _ _).drewN _))
      have hkq : Kept (fun _ => False) wr wq := by rw [← hWq]; exact (Kept.refl _ _).drewN _
      replace x1 := ck hkq x1 id
      replace x2 := ck hkq x2 id
      replace x3 := ck hkq x3 id
      replace x4 := ck hkq x4 id
      obtain ⟨L, hL⟩ : ∃ L, L = s.1.l.length := ⟨_, rfl⟩
      have HL := Lib.hid hL
      have hlen := SOK.out.len
      rw [← hL] at hlen
      have hlen' : (L : Int) ≤ 1024 := by omega
      obtain ⟨A1, c1, rfl⟩ := HGq.out.qr.row.shape
      replace d1 := HGq.out.qr.cells.2.1
      rw [← HL.out] at d1
      clear hWq hkq HGx hL hlen d0 d2 d3 df x0 hnw
      go_wp2_with fail
      go_loopw [8] (fun kv wy => ∃ k : Nat, (k : Int) ≤ (L : Int) ∧ kv = .int .i64 (k : Int) ∧ (∀ j y, j < k → s.1.l[j]? = some y → y.1 ≠ key) ∧ wy = wq) (fun kv _ => ((L : Int) - intOf kv).toNat)
      case atStart => exact ⟨0, by omega, rfl, fun j y hj => absurd hj (Nat.not_lt_zero _), rfl⟩
      case round =>
        obtain ⟨k, hk, rfl, hne, rfl⟩ := hrel
        have HNE := Lib.hid hne
        clear hne
        by_cases hkl : (k : Int) < (L : Int)
        · obtain ⟨y, hy⟩ : ∃ y, s.1.l[k]? = some y := ⟨_, List.getElem?_eq_getElem (by rw [← HL.out]; omega)⟩
          obtain ⟨g, go_, rfl, hgl, y0, y1, y2⟩ := HGq.out.qr.at hy
          have HY := Lib.hid hy
          clear hy
          obtain ⟨yn, ys, ya⟩ := y
          simp only at y0 y1 y2
          by_cases hyk : yn = key
          · -- FOUND
            subst hyk
            obtain ⟨gA, gc, rfl⟩ := HGq.out.rg.shape
            obtain ⟨lA, lc, rfl⟩ := HGq.out.rl.shape
            have hsz2 := (hear_ok OK.out (rs.take i)).2.2
            rw [← HS0.out] at hsz2
            obtain ⟨mg, hmg⟩ : ∃ mg, mg = s.2.1.length := ⟨_, rfl⟩
            obtain ⟨ml, hml⟩ : ∃ ml, ml = s.2.2.length := ⟨_, rfl⟩
            have hmg1 : mg ≤ 1000000 := by have := OK.out.len; omega
            have hml1 : ml ≤ 1000000 := by have := OK.out.len; omega
            have hgq := HGq.out
            have hbb : b < b4 := by have := HB4.out; omega
            go_upto_if 56 with fail
            go_cut [] (fun wx => ∃ gv' lv', HG w wx p b4 v (s.1, (if xg then s.2.1 ++ [((yn, ys, ya), xa, xl, xe)] else s.2.1), (if xg then s.2.2 else s.2.2 ++ [(yn, ys, ya)])) (.slice (some ⟨g, go_, none⟩) s.1.l.length c1) gv' lv')
            case first =>
              cases xg with
              | true =>
                have HMG := Lib.hid hmg
                have HNG := Lib.hid (show ¬ isAt (.slice gA mg gc) (b4 + 1) ∧ ¬ isAt (.slice gA mg gc) p ∧ ¬ isAt (.slice gA mg gc) g ∧ ¬ isAt (.slice gA mg gc) b from by
                  rw [hmg]
                  refine ⟨fun e => by have := hgq.ag _ e; omega, fun e => by have := hgq.ag _ e; have := hgq.bp; omega, fun e => (hgq.dg _ e).2 ⟨_, _, _, rfl⟩, fun e => by have := hgq.ag _ e; omega⟩)
                have f0 := (two_cells hgq.c5).1
                have f1 := hgq.qr.cells.2.1
                rw [← hmg] at f0
                rw [← HL.out] at f1
                have HS : (fun w' => w'.cell? ⟨b4 + 1, 0, none⟩ = some (.slice gA mg gc) ∧ w'.cell? ⟨p, 1, none⟩ = some (.slice (some ⟨g, go_, none⟩) L c1) ∧ w'.cell? ⟨g, go_ + k * 3, none⟩ = some (.int .i64 yn) ∧ w'.cell? ⟨g, go_ + k * 3 + 1, none⟩ = some (.int .i64 ys) ∧ w'.cell? ⟨g, go_ + k * 3 + 2, none⟩ = some (.int .i64 ya) ∧ w'.cell? ⟨b, off + i * 5 + 2, none⟩ = some (.int .i64 xa) ∧ w'.cell? ⟨b, off + i * 5 + 3, none⟩ = some (.bool xl) ∧ w'.cell? ⟨b, off + i * 5 + 4, none⟩ = some (.bool xe)) wr.drew := ⟨f0, f1, y0, y1, y2, x2, x3, x4⟩
                clear hmg hml hml1 hgq f0 f1 hsz2
                go_upto_region 11 with fail
                have HSX := HS
                refine Tail.start 27 (fun w' => w'.cell? ⟨b4 + 1, 0, none⟩ = some (.slice gA mg gc) ∧ w'.cell? ⟨p, 1, none⟩ = some (.slice (some ⟨g, go_, none⟩) L c1) ∧ w'.cell? ⟨g, go_ + k * 3, none⟩ = some (.int .i64 yn) ∧ w'.cell? ⟨g, go_ + k * 3 + 1, none⟩ = some (.int .i64 ys) ∧ w'.cell? ⟨g, go_ + k * 3 + 2, none⟩ = some (.int .i64 ya) ∧ w'.cell? ⟨b, off + i * 5 + 2, none⟩ = some (.int .i64 xa) ∧ w'.cell? ⟨b, off + i * 5 + 3, none⟩ = some (.bool xl) ∧ w'.cell? ⟨b, off + i * 5 + 4, none⟩ = some (.bool xe)) (by kernel_rfl) ?_
                refine Tail.take 0 rfl (by kernel_rfl) (fun _ _ _ h => h) (by rfl) HS (fun w hSw => by (try dsimp only at hSw); go_simp; (try with_reducible rfl)) ?_
                try simp only [Act.put, List.setIfInBounds_toArray, List.set_cons_zero, List.set_cons_succ]
                refine Tail.take 1 rfl (by kernel_rfl) (fun _ _ _ h => h) (by rfl) HS (fun w hSw => by (try dsimp only at hSw); go_simp; (try with_reducible rfl)) ?_
                try simp only [Act.put, List.setIfInBounds_toArray, List.set_cons_zero, List.set_cons_succ]
                refine Tail.take 2 rfl (by kernel_rfl) (fun _ _ _ h => h) (by rfl) HS (fun w hSw => by (try dsimp only at hSw); go_simp; (try with_reducible rfl)) ?_
                try simp only [Act.put, List.setIfInBounds_toArray, List.set_cons_zero, List.set_cons_succ]
                refine Tail.take 3 rfl (by kernel_rfl) (fun _ _ _ h => h) (by rfl) HS (fun w hSw => by (try dsimp only at hSw); go_simp; (try with_reducible rfl)) ?_
                try simp only [Act.put, List.setIfInBounds_toArray, List.set_cons_zero, List.set_cons_succ]
                refine Tail.take 4 rfl (by kernel_rfl) (fun _ _ _ h => h) (by rfl) HS (fun w hSw => by (try dsimp only at hSw); go_simp; (try with_reducible rfl)) ?_
                try simp only [Act.put, List.setIfInBounds_toArray, List.set_cons_zero, List.set_cons_succ]
                refine Tail.take 5 rfl (by kernel_rfl) (fun _ _ _ h => h) (by rfl) HS (fun w hSw => by (try dsimp only at hSw); go_simp; (try with_reducible rfl)) ?_
                try simp only [Act.put, List.setIfInBounds_toArray, List.set_cons_zero, List.set_cons_succ]
                refine Tail.take 6 rfl (by kernel_rfl) (fun _ _ _ h => h) (by rfl) HS (fun w hSw => by (try dsimp only at hSw); go_simp; (try with_reducible rfl)) ?_
                try simp only [Act.put, List.setIfInBounds_toArray, List.set_cons_zero, List.set_cons_succ]
                refine Tail.take 7 rfl (by kernel_rfl) (fun _ _ _ h => h) (by rfl) HS (fun w hSw => by (try dsimp only at hSw); go_simp; (try with_reducible rfl)) ?_
                try simp only [Act.put, List.setIfInBounds_toArray, List.set_cons_zero, List.set_cons_succ]
                refine Tail.take 8 rfl (by kernel_rfl) (fun _ _ _ h => h) (by rfl) HS (fun w hSw => by (try dsimp only at hSw); go_simp; (try with_reducible rfl)) ?_
                try simp only [Act.put, List.setIfInBounds_toArray, List.set_cons_zero, List.set_cons_succ]
                refine Tail.take 9 rfl (by kernel_rfl) (fun _ _ _ h => h) (by rfl) HS (fun w hSw => by (try dsimp only at hSw); go_simp; (try with_reducible rfl)) ?_
                try simp only [Act.put, List.setIfInBounds_toArray, List.set_cons_zero, List.set_cons_succ]
                refine Tail.take 10 rfl (by kernel_rfl) (fun _ _ _ h => h) (by rfl) HS (fun w hSw => by (try dsimp only at hSw); go_simp; (try with_reducible rfl)) ?_
                try simp only [Act.put, List.setIfInBounds_toArray, List.set_cons_zero, List.set_cons_succ]
                refine Tail.take 11 rfl (by kernel_rfl) (fun _ _ _ h => h) (by rfl) HS (fun w hSw => by (try dsimp only at hSw); go_simp; (try with_reducible rfl)) ?_
                try simp only [Act.put, List.setIfInBounds_toArray, List.set_cons_zero, List.set_cons_succ]
                refine Tail.take 12 rfl (by kernel_rfl) (fun _ _ _ h => h) (by rfl) HS (fun w hSw => by (try dsimp only at hSw); go_simp; (try with_reducible rfl)) ?_
                try simp only [Act.put, List.setIfInBounds_toArray, List.set_cons_zero, List.set_cons_succ]
                refine Tail.take 13 rfl (by kernel_rfl) (fun _ _ _ h => h) (by rfl) HS (fun w hSw => by (try dsimp only at hSw); go_simp; (try with_reducible rfl)) ?_
                try simp only [Act.put, List.setIfInBounds_toArray, List.set_cons_zero, List.set_cons_succ]
                refine Tail.take 14 rfl (by kernel_rfl) (fun _ _ _ h => h) (by rfl) HS (fun w hSw => by (try dsimp only at hSw); go_simp; (try with_reducible rfl)) ?_
                try simp only [Act.put, List.setIfInBounds_toArray, List.set_cons_zero, List.set_cons_succ]
                refine Tail.take 15 rfl (by kernel_rfl) (fun _ _ _ h => h) (by rfl) HS (fun w hSw => by (try dsimp only at hSw); go_simp; (try with_reducible rfl)) ?_
                try simp only [Act.put, List.setIfInBounds_toArray, List.set_cons_zero, List.set_cons_succ]
                refine Tail.take 16 rfl (by kernel_rfl) (fun _ _ _ h => h) (by rfl) HS (fun w hSw => by (try dsimp only at hSw); go_simp; (try with_reducible rfl)) ?_
                try simp only [Act.put, List.setIfInBounds_toArray, List.set_cons_zero, List.set_cons_succ]
                refine Tail.take 17 rfl (by kernel_rfl) (fun _ _ _ h => h) (by rfl) HS (fun w hSw => by (try dsimp only at hSw); go_simp; (try with_reducible rfl)) ?_
                try simp only [Act.put, List.setIfInBounds_toArray, List.set_cons_zero, List.set_cons_succ]
                refine Tail.take 18 rfl (by kernel_rfl) (fun _ _ _ h => h) (by rfl) HS (fun w hSw => by (try dsimp only at hSw); go_simp; (try with_reducible rfl)) ?_
                try simp only [Act.put, List.setIfInBounds_toArray, List.set_cons_zero, List.set_cons_succ]
                refine Tail.take 19 rfl (by kernel_rfl) (fun _ _ _ h => h) (by rfl) HS (fun w hSw => by (try dsimp only at hSw); go_simp; (try with_reducible rfl)) ?_
                try simp only [Act.put, List.setIfInBounds_toArray, List.set_cons_zero, List.set_cons_succ]
                refine Tail.take 20 rfl (by kernel_rfl) (fun _ _ _ h => h) (by rfl) HS (fun w hSw => by (try dsimp only at hSw); go_simp; (try with_reducible rfl)) ?_
                try simp only [Act.put, List.setIfInBounds_toArray, List.set_cons_zero, List.set_cons_succ]
                refine Tail.take 21 rfl (by kernel_rfl) (fun _ _ _ h => h) (by rfl) HS (fun w hSw => by (try dsimp only at hSw); go_simp; (try with_reducible rfl)) ?_
                try simp only [Act.put, List.setIfInBounds_toArray, List.set_cons_zero, List.set_cons_succ]
                refine Tail.take 22 rfl (by kernel_rfl) (fun _ _ _ h => h) (by rfl) HS (fun w hSw => by (try dsimp only at hSw); go_simp; (try with_reducible rfl)) ?_
                try simp only [Act.put, List.setIfInBounds_toArray, List.set_cons_zero, List.set_cons_succ]
                refine Tail.take 23 rfl (by kernel_rfl) (fun _ _ _ h => h) (by rfl) HS (fun w hSw => by (try dsimp only at hSw); go_simp; (try with_reducible rfl)) ?_
                try simp only [Act.put, List.setIfInBounds_toArray, List.set_cons_zero, List.set_cons_succ]
                refine Tail.take 24 rfl (by kernel_rfl) (fun _ _ _ h => h) (by rfl) HS (fun w hSw => by (try dsimp only at hSw); go_simp; (try with_reducible rfl)) ?_
                try simp only [Act.put, List.setIfInBounds_toArray, List.set_cons_zero, List.set_cons_succ]
                refine Tail.one 25 rfl (by kernel_rfl) (fun K hK => ?_)
                go_simp
                have hka : Kept (fun _ => False) wr.drew (wr.alloc (.cells #[.int .i64 yn, .int .i64 ys, .int .i64 ya, .int .i64 xa, .bool xl, .bool xe] 40)).drew := (Kept.refl _ _).alloc _
                have HS : (fun w' => w'.cell? ⟨b4 + 1, 0, none⟩ = some (.slice gA mg gc) ∧ w'.cell? ⟨p, 1, none⟩ = some (.slice (some ⟨g, go_, none⟩) L c1) ∧ w'.cell? ⟨g, go_ + k * 3, none⟩ = some (.int .i64 yn) ∧ w'.cell? ⟨g, go_ + k * 3 + 1, none⟩ = some (.int .i64 ys) ∧ w'.cell? ⟨g, go_ + k * 3 + 2, none⟩ = some (.int .i64 ya) ∧ w'.cell? ⟨b, off + i * 5 + 2, none⟩ = some (.int .i64 xa) ∧ w'.cell? ⟨b, off + i * 5 + 3, none⟩ = some (.bool xl) ∧ w'.cell? ⟨b, off + i * 5 + 4, none⟩ = some (.bool xe)) (wr.alloc (.cells #[.int .i64 yn, .int .i64 ys, .int .i64 ya, .int .i64 xa, .bool xl, .bool xe] 40)).drew := ⟨ck hka HSX.1 id, ck hka HSX.2.1 id, ck hka HSX.2.2.1 id, ck hka HSX.2.2.2.1 id, ck hka HSX.2.2.2.2.1 id, ck hka HSX.2.2.2.2.2.1 id, ck hka HSX.2.2.2.2.2.2.1 id, ck hka HSX.2.2.2.2.2.2.2 id⟩
                have HG6 := Lib.hid (HGq.out.run (w' := (wr.alloc (.cells #[.int .i64 yn, .int .i64 ys, .int .i64 ya, .int .i64 xa, .bool xl, .bool xe] 40)).drew) ((Kept.refl (fun _ => False) wr).drew.alloc _))
                clear hka
                refine hK.out _ _ HS ?_
                clear hK K
                try simp only [Act.put, List.setIfInBounds_toArray, List.set_cons_zero, List.set_cons_succ]
                refine Tail.one 26 rfl (by kernel_rfl) (fun K hK => ?_)
                refine step_row rfl (.tmp 58) (.tmp 82) 33 rfl 40 (.agg #[.int .i64 0, .int .i64 0, .int .i64 0, .int .i64 0, .bool false, .bool false]) 6 40 Try.underlying33 info_acked rfl (by omega) (.slice gA mg gc) mg (flat6 s.2.1) rfl (HMG.out ▸ HG6.out.rg) _ _ (flat6 [((yn, ys, ya), xa, xl, xe)]) rfl (rd_six wr.drew _ ((yn, ys, ya), xa, xl, xe)) (flat6_one _) (by omega) ?_
                intro v5 w5 hr5 hk5 hn5
                obtain ⟨A5, c5, rfl⟩ := hr5.shape
                have HS : (fun w' => w'.cell? ⟨b4 + 1, 0, none⟩ = some (.slice gA mg gc) ∧ w'.cell? ⟨p, 1, none⟩ = some (.slice (some ⟨g, go_, none⟩) L c1) ∧ w'.cell? ⟨g, go_ + k * 3, none⟩ = some (.int .i64 yn) ∧ w'.cell? ⟨g, go_ + k * 3 + 1, none⟩ = some (.int .i64 ys) ∧ w'.cell? ⟨g, go_ + k * 3 + 2, none⟩ = some (.int .i64 ya) ∧ w'.cell? ⟨b, off + i * 5 + 2, none⟩ = some (.int .i64 xa) ∧ w'.cell? ⟨b, off + i * 5 + 3, none⟩ = some (.bool xl) ∧ w'.cell? ⟨b, off + i * 5 + 4, none⟩ = some (.bool xe)) w5 := ⟨ck hk5 HS.1 HNG.out.1, ck hk5 HS.2.1 HNG.out.2.1, ck hk5 HS.2.2.1 HNG.out.2.2.1, ck hk5 HS.2.2.2.1 HNG.out.2.2.1, ck hk5 HS.2.2.2.2.1 HNG.out.2.2.1, ck hk5 HS.2.2.2.2.2.1 HNG.out.2.2.2, ck hk5 HS.2.2.2.2.2.2.1 HNG.out.2.2.2, ck hk5 HS.2.2.2.2.2.2.2 HNG.out.2.2.2⟩
                have HG7 := Lib.hid (HG.got HG6.out (x := ((yn, ys, ya), xa, xl, xe)) (by rw [← HMG.out]; exact hr5) (by rw [← HMG.out]; exact hk5) (fun g hg => by rw [← HMG.out]; exact hn5 g hg))
                have HF5 := Lib.hid ((hk5.frozen (p := ⟨b4 + 1, 0, none⟩) (World.block_lt_of_cell? _ _ HSX.1 |> fun h => Nat.lt_of_lt_of_le h ((Kept.refl (fun _ => False) wr.drew).alloc _).size) HNG.out.1).trans (two_cells HG6.out.c5).2.2.1)
                clear hr5 hk5 hn5
                refine hK.out _ _ HS ?_
                clear hK K
                try simp only [Act.put, List.setIfInBounds_toArray, List.set_cons_zero, List.set_cons_succ]
                refine Tail.tail 27 rfl (by kernel_rfl) ?_
                simp only [List.drop_succ_cons, List.drop_zero]
                have hff := HF5.out
                obtain ⟨z0, _⟩ := HS
                go_wp2_with fail
                go_meet
                exact ⟨_, _, HG7.out⟩
              | false =>
                have HMG := Lib.hid hml
                have HNG := Lib.hid (show ¬ isAt (.slice lA ml lc) (b4 + 1) ∧ ¬ isAt (.slice lA ml lc) p ∧ ¬ isAt (.slice lA ml lc) g ∧ ¬ isAt (.slice lA ml lc) b from by
                  rw [hml]
                  refine ⟨fun e => by have := hgq.al _ e; omega, fun e => by have := hgq.al _ e; have := hgq.bp; omega, fun e => hgq.dl _ e ⟨_, _, _, rfl⟩, fun e => by have := hgq.al _ e; omega⟩)
                have f0 := (two_cells hgq.c5).2.1
                have f1 := hgq.qr.cells.2.1
                rw [← hml] at f0
                rw [← HL.out] at f1
                have HS : (fun w' => w'.cell? ⟨b4 + 1, 1, none⟩ = some (.slice lA ml lc) ∧ w'.cell? ⟨p, 1, none⟩ = some (.slice (some ⟨g, go_, none⟩) L c1) ∧ w'.cell? ⟨g, go_ + k * 3, none⟩ = some (.int .i64 yn) ∧ w'.cell? ⟨g, go_ + k * 3 + 1, none⟩ = some (.int .i64 ys) ∧ w'.cell? ⟨g, go_ + k * 3 + 2, none⟩ = some (.int .i64 ya)) wr.drew := ⟨f0, f1, y0, y1, y2⟩
                clear hmg hml hmg1 hgq f0 f1 hsz2
                go_upto_region 12 with fail
                have HSX := HS
                refine Tail.start 11 (fun w' => w'.cell? ⟨b4 + 1, 1, none⟩ = some (.slice lA ml lc) ∧ w'.cell? ⟨p, 1, none⟩ = some (.slice (some ⟨g, go_, none⟩) L c1) ∧ w'.cell? ⟨g, go_ + k * 3, none⟩ = some (.int .i64 yn) ∧ w'.cell? ⟨g, go_ + k * 3 + 1, none⟩ = some (.int .i64 ys) ∧ w'.cell? ⟨g, go_ + k * 3 + 2, none⟩ = some (.int .i64 ya)) (by kernel_rfl) ?_
                refine Tail.take 0 rfl (by kernel_rfl) (fun _ _ _ h => h) (by rfl) HS (fun w hSw => by (try dsimp only at hSw); go_simp; (try with_reducible rfl)) ?_
                try simp only [Act.put, List.setIfInBounds_toArray, List.set_cons_zero, List.set_cons_succ]
                refine Tail.take 1 rfl (by kernel_rfl) (fun _ _ _ h => h) (by rfl) HS (fun w hSw => by (try dsimp only at hSw); go_simp; (try with_reducible rfl)) ?_
                try simp only [Act.put, List.setIfInBounds_toArray, List.set_cons_zero, List.set_cons_succ]
                refine Tail.take 2 rfl (by kernel_rfl) (fun _ _ _ h => h) (by rfl) HS (fun w hSw => by (try dsimp only at hSw); go_simp; (try with_reducible rfl)) ?_
                try simp only [Act.put, List.setIfInBounds_toArray, List.set_cons_zero, List.set_cons_succ]
                refine Tail.take 3 rfl (by kernel_rfl) (fun _ _ _ h => h) (by rfl) HS (fun w hSw => by (try dsimp only at hSw); go_simp; (try with_reducible rfl)) ?_
                try simp only [Act.put, List.setIfInBounds_toArray, List.set_cons_zero, List.set_cons_succ]
                refine Tail.take 4 rfl (by kernel_rfl) (fun _ _ _ h => h) (by rfl) HS (fun w hSw => by (try dsimp only at hSw); go_simp; (try with_reducible rfl)) ?_
                try simp only [Act.put, List.setIfInBounds_toArray, List.set_cons_zero, List.set_cons_succ]
                refine Tail.take 5 rfl (by kernel_rfl) (fun _ _ _ h => h) (by rfl) HS (fun w hSw => by (try dsimp only at hSw); go_simp; (try with_reducible rfl)) ?_
                try simp only [Act.put, List.setIfInBounds_toArray, List.set_cons_zero, List.set_cons_succ]
                refine Tail.take 6 rfl (by kernel_rfl) (fun _ _ _ h => h) (by rfl) HS (fun w hSw => by (try dsimp only at hSw); go_simp; (try with_reducible rfl)) ?_
                try simp only [Act.put, List.setIfInBounds_toArray, List.set_cons_zero, List.set_cons_succ]
                refine Tail.take 7 rfl (by kernel_rfl) (fun _ _ _ h => h) (by rfl) HS (fun w hSw => by (try dsimp only at hSw); go_simp; (try with_reducible rfl)) ?_
                try simp only [Act.put, List.setIfInBounds_toArray, List.set_cons_zero, List.set_cons_succ]
                refine Tail.take 8 rfl (by kernel_rfl) (fun _ _ _ h => h) (by rfl) HS (fun w hSw => by (try dsimp only at hSw); go_simp; (try with_reducible rfl)) ?_
                try simp only [Act.put, List.setIfInBounds_toArray, List.set_cons_zero, List.set_cons_succ]
                refine Tail.one 9 rfl (by kernel_rfl) (fun K hK => ?_)
                go_simp
                have hka : Kept (fun _ => False) wr.drew (wr.alloc (.cells #[.int .i64 yn, .int .i64 ys, .int .i64 ya] 38)).drew := (Kept.refl _ _).alloc _
                have HS : (fun w' => w'.cell? ⟨b4 + 1, 1, none⟩ = some (.slice lA ml lc) ∧ w'.cell? ⟨p, 1, none⟩ = some (.slice (some ⟨g, go_, none⟩) L c1) ∧ w'.cell? ⟨g, go_ + k * 3, none⟩ = some (.int .i64 yn) ∧ w'.cell? ⟨g, go_ + k * 3 + 1, none⟩ = some (.int .i64 ys) ∧ w'.cell? ⟨g, go_ + k * 3 + 2, none⟩ = some (.int .i64 ya)) (wr.alloc (.cells #[.int .i64 yn, .int .i64 ys, .int .i64 ya] 38)).drew := ⟨ck hka HSX.1 id, ck hka HSX.2.1 id, ck hka HSX.2.2.1 id, ck hka HSX.2.2.2.1 id, ck hka HSX.2.2.2.2 id⟩
                have HG6 := Lib.hid (HGq.out.run (w' := (wr.alloc (.cells #[.int .i64 yn, .int .i64 ys, .int .i64 ya] 38)).drew) ((Kept.refl (fun _ => False) wr).drew.alloc _))
                clear hka
                refine hK.out _ _ HS ?_
                clear hK K
                try simp only [Act.put, List.setIfInBounds_toArray, List.set_cons_zero, List.set_cons_succ]
                refine Tail.one 10 rfl (by kernel_rfl) (fun K hK => ?_)
                refine step_row rfl (.tmp 86) (.tmp 94) 34 rfl 38 (.agg #[.int .i64 0, .int .i64 0, .int .i64 0]) 3 24 Try.underlying34 info_sent rfl (by omega) (.slice lA ml lc) ml (flat3 s.2.2) rfl (HMG.out ▸ HG6.out.rl) _ _ (flat3 [(yn, ys, ya)]) rfl (rd_three wr.drew _ (yn, ys, ya)) (flat3_one _) (by omega) ?_
                intro v5 w5 hr5 hk5 hn5
                obtain ⟨A5, c5, rfl⟩ := hr5.shape
                have HS : (fun w' => w'.cell? ⟨b4 + 1, 1, none⟩ = some (.slice lA ml lc) ∧ w'.cell? ⟨p, 1, none⟩ = some (.slice (some ⟨g, go_, none⟩) L c1) ∧ w'.cell? ⟨g, go_ + k * 3, none⟩ = some (.int .i64 yn) ∧ w'.cell? ⟨g, go_ + k * 3 + 1, none⟩ = some (.int .i64 ys) ∧ w'.cell? ⟨g, go_ + k * 3 + 2, none⟩ = some (.int .i64 ya)) w5 := ⟨ck hk5 HS.1 HNG.out.1, ck hk5 HS.2.1 HNG.out.2.1, ck hk5 HS.2.2.1 HNG.out.2.2.1, ck hk5 HS.2.2.2.1 HNG.out.2.2.1, ck hk5 HS.2.2.2.2 HNG.out.2.2.1⟩
                have HG7 := Lib.hid (HG.lost HG6.out (x := (yn, ys, ya)) (by rw [← HMG.out]; exact hr5) (by rw [← HMG.out]; exact hk5) (fun g hg => by rw [← HMG.out]; exact hn5 g hg))
                have HF5 := Lib.hid ((hk5.frozen (p := ⟨b4 + 1, 1, none⟩) (World.block_lt_of_cell? _ _ HSX.1 |> fun h => Nat.lt_of_lt_of_le h ((Kept.refl (fun _ => False) wr.drew).alloc _).size) HNG.out.1).trans (two_cells HG6.out.c5).2.2.2)
                clear hr5 hk5 hn5
                refine hK.out _ _ HS ?_
                clear hK K
                try simp only [Act.put, List.setIfInBounds_toArray, List.set_cons_zero, List.set_cons_succ]
                refine Tail.tail 11 rfl (by kernel_rfl) ?_
                simp only [List.drop_succ_cons, List.drop_zero]
                have hff := HF5.out
                obtain ⟨z0, _⟩ := HS
                go_wp2_with fail
                go_meet
                exact ⟨_, _, HG7.out⟩
            case rest =>
            obtain ⟨gv', lv', hgz⟩ := hcut
            rename World => Z
            have HGZ := Lib.hid hgz
            have zc := hgz.qr.cells.2.1
            rw [← HL.out] at zc
            have HS : (fun w' => w'.cell? ⟨p, 1, none⟩ = some (.slice (some ⟨g, go_, none⟩) L c1)) Z.drew := zc
            clear hgz zc y0 y1 y2 x1 x2 x3 x4 d1 hmg hml hmg1 hml1 hgq hsz2
            have hcap : L ≤ c1 := by
              have h1 := HGZ.out.qr.row.2
              rw [← HL.out] at h1
              rcases h1 with ⟨h1, _⟩ | ⟨_, _, _, h1, _, h2, _⟩
              · cases h1
              · injection h1 with _ _ h3; omega
            have hk1 : k ≤ c1 := by omega
            have hk2 : k + 1 ≤ L := by omega
            have hk3 : k + 1 ≤ c1 := by omega
            have hk4 : 0 ≤ (k : Int) + 1 ∧ (k : Int) + 1 ≤ (L : Int) := by omega
            have HRW := Lib.hid (fun (Y : World) (hk : Kept (fun _ => False) Z Y) => show RW Y 3 (.slice (some ⟨g, go_, none⟩) L c1) L (flat3 s.1.l) from by
              have h1 := HGZ.out.qr.row.kept hk (fun _ _ => id)
              rw [HL.out]
              exact h1)
            have ki1 : IntKind.i64.wrap ((k : Int) + 1) = ((k + 1 : Nat) : Int) := by rw [show (k : Int) + 1 = ((k + 1 : Nat) : Int) by omega]; exact IntWalk.i64_in _ (by omega)
            go_upto_region 13 with fail
            have HSX := HS
            refine Tail.start 19 (fun w' => w'.cell? ⟨p, 1, none⟩ = some (.slice (some ⟨g, go_, none⟩) L c1)) (by kernel_rfl) ?_
            refine Tail.take 0 rfl (by kernel_rfl) (fun _ _ _ h => h) (by rfl) HS (fun w hSw => by (try dsimp only at hSw); go_simp; (try with_reducible rfl)) ?_
            try simp only [Act.put, List.setIfInBounds_toArray, List.set_cons_zero, List.set_cons_succ]
            refine Tail.take 2 rfl (by kernel_rfl) (fun _ _ _ h => h) (by rfl) HS (fun w hSw => by (try dsimp only at hSw); go_simp; (try with_reducible rfl)) ?_
            try simp only [Act.put, List.setIfInBounds_toArray, List.set_cons_zero, List.set_cons_succ]
            refine Tail.take 3 rfl (by kernel_rfl) (fun _ _ _ h => h) (by rfl) HS (fun w hSw => by (try dsimp only at hSw); go_simp; (try with_reducible rfl)) ?_
            try simp only [Act.put, List.setIfInBounds_toArray, List.set_cons_zero, List.set_cons_succ]
            refine Tail.take 4 rfl (by kernel_rfl) (fun _ _ _ h => h) (by rfl) HS (fun w hSw => by (try dsimp only at hSw); go_simp; (try with_reducible rfl)) ?_
            try simp only [Act.put, List.setIfInBounds_toArray, List.set_cons_zero, List.set_cons_succ]
            refine Tail.take 5 rfl (by kernel_rfl) (fun _ _ _ h => h) (by rfl) HS (fun w hSw => by (try dsimp only at hSw); go_simp; (try with_reducible rfl)) ?_
            try simp only [Act.put, List.setIfInBounds_toArray, List.set_cons_zero, List.set_cons_succ]
            refine Tail.take 6 rfl (by kernel_rfl) (fun _ _ _ h => h) (by rfl) HS (fun w hSw => by (try dsimp only at hSw); go_simp; (try with_reducible rfl)) ?_
            try simp only [Act.put, List.setIfInBounds_toArray, List.set_cons_zero, List.set_cons_succ]
            refine Tail.take 7 rfl (by kernel_rfl) (fun _ _ _ h => h) (by rfl) HS (fun w hSw => by (try dsimp only at hSw); go_simp; (try with_reducible rfl)) ?_
            try simp only [Act.put, List.setIfInBounds_toArray, List.set_cons_zero, List.set_cons_succ]
            refine Tail.take 9 rfl (by kernel_rfl) (fun _ _ _ h => h) (by rfl) HS (fun w hSw => by (try dsimp only at hSw); go_simp; (try with_reducible rfl)) ?_
            try simp only [Act.put, List.setIfInBounds_toArray, List.set_cons_zero, List.set_cons_succ]
            refine Tail.take 10 rfl (by kernel_rfl) (fun _ _ _ h => h) (by rfl) HS (fun w hSw => by (try dsimp only at hSw); go_simp; (try with_reducible rfl)) ?_
            try simp only [Act.put, List.setIfInBounds_toArray, List.set_cons_zero, List.set_cons_succ]
            refine Tail.take 11 rfl (by kernel_rfl) (fun _ _ _ h => h) (by rfl) HS (fun w hSw => by (try dsimp only at hSw); go_simp; (try with_reducible rfl)) ?_
            try simp only [Act.put, List.setIfInBounds_toArray, List.set_cons_zero, List.set_cons_succ]
            refine Tail.take 12 rfl (by kernel_rfl) (fun _ _ _ h => h) (by rfl) HS (fun w hSw => by (try dsimp only at hSw); go_simp; (try with_reducible rfl)) ?_
            try simp only [Act.put, List.setIfInBounds_toArray, List.set_cons_zero, List.set_cons_succ]
            refine Tail.take 13 rfl (by kernel_rfl) (fun _ _ _ h => h) (by rfl) HS (fun w hSw => by (try dsimp only at hSw); go_simp; (try with_reducible rfl)) ?_
            try simp only [Act.put, List.setIfInBounds_toArray, List.set_cons_zero, List.set_cons_succ]
            refine Tail.take 14 rfl (by kernel_rfl) (fun _ _ _ h => h) (by rfl) HS (fun w hSw => by (try dsimp only at hSw); go_simp; (try with_reducible rfl)) ?_
            try simp only [Act.put, List.setIfInBounds_toArray, List.set_cons_zero, List.set_cons_succ]
            refine Tail.take 15 rfl (by kernel_rfl) (fun _ _ _ h => h) (by rfl) HS (fun w hSw => by (try dsimp only at hSw); go_simp; (try with_reducible rfl)) ?_
            try simp only [Act.put, List.setIfInBounds_toArray, List.set_cons_zero, List.set_cons_succ]
            refine Tail.one 1 rfl (by kernel_rfl) (fun K hK => ?_)
            go_simp
            have HS : (fun w' => w'.cell? ⟨p, 1, none⟩ = some (.slice (some ⟨g, go_, none⟩) L c1)) ((Z.alloc (.cells #[] 38)).drew) := ck ((Kept.refl (fun _ => False) Z.drew).alloc _) HSX id
            have HE0 := Lib.hid (show RW ((Z.alloc (.cells #[] 38)).drew) 3 (.slice (some ⟨Z.heap.size, 0, none⟩) 0 0) 0 [] from RW.kept (RW.fresh0 Z _ 3) (Kept.refl (fun _ => False) _).drew (fun _ _ => id))
            refine hK.out _ _ HS ?_
            clear hK K
            try simp only [Act.put, List.setIfInBounds_toArray, List.set_cons_zero, List.set_cons_succ]
            refine Tail.one 8 rfl (by kernel_rfl) (fun K hK => ?_)
            refine step_srcS rfl (.tmp 98) (.tmp 104) 34 34 rfl 38 (.agg #[.int .i64 0, .int .i64 0, .int .i64 0]) 3 24 Try.underlying34 info_sent rfl (by omega) Z.heap.size 0 0 0 [] rfl HE0.out (.slice (some ⟨g, go_, none⟩) k c1) k ((flat3 s.1.l).take (k * 3)) rfl (src_take Try.underlying34 (HRW.out _ (((Kept.refl (fun _ => False) Z).alloc _).drew)) (flat3_one _) (by omega)) (by omega) ?_
            intro v1 w2 hr1 hk1 hn1 hs1
            simp only [Nat.zero_add, List.nil_append] at hr1 hs1
            obtain ⟨g1, o1, cap1, rfl⟩ := hs1
            have HK2 := Lib.hid (show Kept (fun _ => False) Z w2 from Kept.trans (S := fun _ => False) (((Kept.refl (fun _ => False) Z).alloc _).drew) hk1 (fun g hg e => by omega))
            have HG1 := Lib.hid (show Z.heap.size ≤ g1 from by have h1 := hn1 g1 ⟨_, _, _, rfl⟩; simp at h1; omega)
            have HR1 := Lib.hid hr1
            have HS : (fun w' => w'.cell? ⟨p, 1, none⟩ = some (.slice (some ⟨g, go_, none⟩) L c1)) w2 := ck HK2.out HSX id
            clear hr1 hk1 hn1
            refine hK.out _ _ HS ?_
            clear hK K
            try simp only [Act.put, List.setIfInBounds_toArray, List.set_cons_zero, List.set_cons_succ]
            refine Tail.one 16 rfl (by kernel_rfl) (fun K hK => ?_)
            refine step_srcS rfl (.tmp 105) (.tmp 112) 34 34 rfl 38 (.agg #[.int .i64 0, .int .i64 0, .int .i64 0]) 3 24 Try.underlying34 info_sent rfl (by omega) g1 o1 k cap1 _ rfl HR1.out _ (L - (k + 1)) ((flat3 s.1.l).drop ((k + 1) * 3)) rfl (src_drop Try.underlying34 (HRW.out _ HK2.out) (flat3_one _) hk2) (by omega) ?_
            intro v3 w3 hr3 hk3 hn3 hs3
            obtain ⟨g3, o3, cap3, rfl⟩ := hs3
            have HK3 := Lib.hid (show Kept (fun _ => False) Z w3 from Kept.trans (S := fun _ => False) HK2.out hk3 (fun g hg e => by have := HG1.out; omega))
            have HG3 := Lib.hid (show Z.heap.size ≤ g3 from by have h0 := HK2.out.size; have h1 := HG1.out; have h2 := hn3 g3 ⟨_, _, _, rfl⟩; omega)
            have HR3 := Lib.hid hr3
            have HS : (fun w' => w'.cell? ⟨p, 1, none⟩ = some (.slice (some ⟨g, go_, none⟩) L c1)) w3 := ck HK3.out HSX id
            clear hr3 hk3 hn3
            refine hK.out _ _ HS ?_
            clear hK K
            try simp only [Act.put, List.setIfInBounds_toArray, List.set_cons_zero, List.set_cons_succ]
            refine Tail.take 17 rfl (by kernel_rfl) (fun _ _ _ h => h) (by rfl) HS (fun w hSw => by (try dsimp only at hSw); go_simp; (try with_reducible rfl)) ?_
            try simp only [Act.put, List.setIfInBounds_toArray, List.set_cons_zero, List.set_cons_succ]
            refine Tail.take 18 rfl (by kernel_rfl) (fun _ _ _ h => h) (by rfl) HS (fun w hSw => by (try dsimp only at hSw); go_simp; (try with_reducible rfl)) ?_
            try simp only [Act.put, List.setIfInBounds_toArray, List.set_cons_zero, List.set_cons_succ]
            refine Tail.tail 19 rfl (by kernel_rfl) ?_
            simp only [List.drop_succ_cons, List.drop_zero]
            have zf : w3.frozen? ⟨p, 1, none⟩ = false := (HK3.out.frozen (p := ⟨p, 1, none⟩) HGZ.out.qr.cells.2.2.2.2.2 id).trans (HGZ.out.qr.cells.2.2.2.2.1 1)
            go_wp2_with fail
            go_roundw
            case rel =>
              obtain ⟨hf1, hf2⟩ : findE yn s.1.l = some (yn, ys, ya) ∧ eraseE yn s.1.l = s.1.l.take k ++ s.1.l.drop (k + 1) := by
                rcases find_at (k := yn) (l := s.1.l) with h1 | ⟨j, y, h1, h2, h3, h4, h5⟩
                · exact absurd rfl (h1.2 _ (List.mem_of_getElem? HY.out))
                · have hjk : j = k := by
                    rcases Nat.lt_trichotomy j k with h6 | h6 | h6
                    · exact absurd h2 (HNE.out j y h6 h1)
                    · exact h6
                    · exact absurd rfl (h4 k _ h6 HY.out)
                  subst hjk
                  rw [HY.out] at h1
                  injection h1 with h1
                  rw [← h1] at h3
                  exact ⟨h3, h5⟩
              refine ⟨i + 1, by omega, by go_num, .slice (some ⟨g3, o3, none⟩) (k + (L - (k + 1))) cap3, gv', lv', ?_⟩
              have hgo := HG.erased (h' := dropE s.1 (yn, ys, ya)) HGZ.out HK3.out (u := .slice (some ⟨g3, o3, none⟩) (k + (L - (k + 1))) cap3) (by
                show RW w3 3 _ (eraseE yn s.1.l).length (flat3 (eraseE yn s.1.l))
                have h1 := HR3.out
                rw [flat3_take, flat3_drop, ← flat3_append, ← hf2] at h1
                have h2 : (eraseE yn s.1.l).length = k + (L - (k + 1)) := by rw [hf2, List.length_append, List.length_take, List.length_drop, ← HL.out]; omega
                rw [h2]
                exact h1) (fun g hg => by
                obtain ⟨_, _, _, e⟩ := hg
                injection e with e
                injection e with e
                injection e with e
                have := HG3.out
                omega) rfl
              rw [HSt.out]
              unfold hear1
              simp only [HK2x.out, hf1]
              cases xg with
              | true => exact hgo
              | false => exact hgo
            case measure => exact meas2 n i hlt
            -- FOUNDEND
          · have hyk2 : (yn == key) = false := by simp [hyk]
            go_wp2_with fail
            go_roundw
            case rel =>
              refine ⟨k + 1, by omega, by go_num, fun j y hj hy => ?_, trivial⟩
              rcases Nat.lt_or_ge j k with h1 | h1
              · exact HNE.out j y h1 hy
              · have : j = k := by omega
                subst this
                rw [HY.out] at hy
                injection hy with hy
                rw [← hy]; exact hyk
            case measure => exact measI L k hkl
        · have hkL : k = L := by omega
          go_wp2_with fail
          go_roundw
          case rel =>
            refine ⟨i + 1, by omega, by go_num, .slice A1 s.1.l.length c1, gv, lv, ?_⟩
            rw [HSt.out]
            have hno : findE key s.1.l = none := by
              rcases find_at (k := key) (l := s.1.l) with h1 | ⟨j, y, h1, h2, _⟩
              · exact h1.1
              · have hj := (List.getElem?_eq_some_iff.1 h1).1
                exact absurd h2 (HNE.out j y (by rw [hkL, HL.out]; exact hj) h1)
            unfold hear1
            simp only [HK2x.out, hno]
            exact HGq.out
          case measure => exact meas2 n i hlt
    · obtain rfl : i = n := by omega
      obtain ⟨gA, gc, rfl⟩ := HGx.out.rg.shape
      obtain ⟨lA, lc, rfl⟩ := HGx.out.rl.shape
      obtain ⟨z0, z1, z2, z3⟩ := two_cells HGx.out.c5
      obtain ⟨z4, z5, z6, z7⟩ := two_cells HGx.out.c4
      have hall : rs.take i = rs := by rw [← HLEN.out]; exact List.take_length
      rw [hall] at HS0
      obtain rfl := HS0.out
      go_wp2_with fail
      (try simp only [Exit.inBlock, Exit.then])
      refine ret_heard (stored2 HGx.out.c4) ?_ ?_ ?_
      · rfl
      · rfl
      have hk1 : Kept (fun g => g = b4) wr ((wr.setCell ⟨b4, 0, none⟩ (.slice gA (hearL h rs).2.1.length gc)).setCell ⟨b4, 1, none⟩ (.slice lA (hearL h rs).2.2.length lc)) := ((Kept.refl (fun g => g = b4) wr).setCell (p := ⟨b4, 0, none⟩) (.inl rfl) _).setCell (p := ⟨b4, 1, none⟩) (.inl rfl) _
      have hbp := HGx.out.bp
      refine ⟨gA, gc, lA, lc, u, rfl, HGx.out.rg.kept hk1 (fun g hg e => by have := HGx.out.ag g hg; omega), HGx.out.rl.kept hk1 (fun g hg e => by have := HGx.out.al g hg; omega), HGx.out.qr.kept hk1 (by omega) (fun g hg e => ?_), fun g hg => ?_, HGx.out.kk.trans hk1 (fun g hg e => by have := HB4.out; omega)⟩
      · rcases HGx.out.av g hg with h1 | h1
        · have := HGx.out.lv0 g h1; omega
        · omega
      · rcases HGx.out.av g hg with h1 | h1
        · exact .inl h1
        · right; have := HB4.out; omega
theorem rhear_any (p : Nat) (h : HS) (v : Value) (A : Option Addr) (n c : Nat) (rs : List R5) (w : World) (hr : QR w p h v) (ok : okH h) (hrd : Rd w 5 A n (flat5 rs)) (hlen : rs.length = n) (hn1 : n ≤ 1000000) (hA : ∀ b off, A = some ⟨b, off, none⟩ → 0 < n → b ≠ p) :
    Calls Try.prog 21 #[.pointer (some ⟨p, 0, none⟩), .slice A n c] w (RHeard w p v (hearL h rs)) := by
  by_cases hz : h.next = 0
  · exact rhear_zero p h v A n c rs w hr ok hz
  · exact rhear_pos p h v A n c rs w hr ok (by have := ok.next0; omega) hrd hlen hn1 hA
end Go.Proofs.Ytfemmbipglpalaa.History
