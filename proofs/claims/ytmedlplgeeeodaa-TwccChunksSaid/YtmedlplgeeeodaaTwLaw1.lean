/- The law of encodes; no condition but that the arguments are of their kinds. -/
import Derived.Test.YtmedlplgeeeodaaTwLaw
namespace Go.Proofs.Ytmedlplgeeeodaa.Tw
open Go.RowKit Go.Proofs.Ytmedlplgeeeodaa.Plain Go.Proofs.Ytmedlplgeeeodaa.Heap Go.Proofs.Ytmedlplgeeeodaa.Open Go.Proofs.Ytmedlplgeeeodaa.Rows Go.Proofs.Ytmedlplgeeeodaa.Bits Go.Proofs.Ytmedlplgeeeodaa.Tail
theorem tx_cells {w0 w : World} {b n m : Nat} {h : Tw} {A : Option Addr} {c : Nat} {B : Option Addr} {d : Nat} (k : TX w0 w b h A c B d) (hn : n = h.st.length) (hm : m = h.ds.length) :
    w.cell? ⟨b, 0, none⟩ = some (.int .u32 h.sn) ∧ w.cell? ⟨b, 1, none⟩ = some (.int .u32 h.md) ∧ w.cell? ⟨b, 2, none⟩ = some (.int .i64 h.fi) ∧ w.cell? ⟨b, 3, none⟩ = some (.int .i64 h.ba) ∧ w.cell? ⟨b, 4, none⟩ = some (.int .i64 h.ct) ∧ w.cell? ⟨b, 5, none⟩ = some (.slice A n c) ∧ w.cell? ⟨b, 6, none⟩ = some (.slice B m d) := by
  subst hn hm
  exact ⟨k.c0, k.c1, k.c2, k.c3, k.c4, k.c5, k.c6⟩
theorem tr_agg {w : World} {n m : Nat} {h : Tw} {A : Option Addr} {c : Nat} {B : Option Addr} {d : Nat} (k : TR w (.agg (tcs h A c B d)) h) (hn : n = h.st.length) (hm : m = h.ds.length) :
    TR w (.agg #[.int .u32 h.sn, .int .u32 h.md, .int .i64 h.fi, .int .i64 h.ba, .int .i64 h.ct, .slice A n c, .slice B m d]) h := by
  subst hn hm
  exact k
set_option linter.unusedSimpArgs false in
set_option maxRecDepth 10000 in
set_option maxHeartbeats 8000000 in
theorem TwccEncodes_any (v : Value) (h : Tw) (w : World) (k : TC w v h) (ok : okT h) :
    Calls Try.prog 3 #[v] w fun e w' => e = .returned (.bool true) ∧ Below w.heap.size w w' := by
  obtain ⟨A, c, B, d, rfl, k1, k2, k3⟩ := k
  obtain ⟨b0, hb0⟩ : ∃ b0, b0 = w.heap.size := ⟨_, rfl⟩
  obtain ⟨W0, hW0⟩ : ∃ W0, W0 = w.alloc (.cells (tcs h A c B d) 25) := ⟨_, rfl⟩
  have H0 := bx (show TX w W0 b0 h A c B d by rw [hb0]; exact TX.new (Below.refl _ w) k1 k2 hW0)
  have HE := bx hb0
  have HW := bx hW0
  have OK := bx ok
  have HC := bx k3
  clear k1 k2 k3 hb0 hW0 ok
  obtain ⟨n, hn⟩ : ∃ n, n = h.st.length := ⟨_, rfl⟩
  obtain ⟨m, hm⟩ : ∃ m, m = h.ds.length := ⟨_, rfl⟩
  have HN := bx hn
  have HM := bx hm
  clear hn hm
  obtain ⟨x0, x1, x2, x3, x4, x5, x6⟩ := tx_cells H0.out HN.out HM.out
  go_enter Try.func3, Try.ntmps3
  go_upto_region 1 with fail
  rw [← HW.out, ← HE.out]
  go_wp2_with fail
  refine (large_any _ h W0 (tr_agg H0.out.tr HN.out HM.out)).mono ?_
  rintro e W1 ⟨rfl, hb⟩
  have H1 := bx (H0.out.run hb)
  clear hb x0 x1 x2 x3 x4 x5 x6
  cases hlg : largeB h with
  | true =>
    clear hlg
    go_wp2_with fail
    refine (wakes_any W1).mono ?_
    rintro e W9 ⟨rfl, hb⟩
    have H9 := bx (H1.out.run hb)
    clear hb
    go_wp2_with fail
    go_ret
    exact ⟨rfl, H9.out.bw⟩
  | false =>
    have HSM := bx (small_of hlg)
    clear hlg
    obtain ⟨x0, x1, x2, x3, x4, x5, x6⟩ := tx_cells H1.out HN.out HM.out
    go_wp2_with fail
    refine (copy_any _ h W1 (tr_agg H1.out.tr HN.out HM.out) HSM.out).mono ?_
    rintro e W2 ⟨v2, rfl, ⟨A1, c1, B1, d1, rfl, k1, k2, k3⟩, hb⟩
    have H2 := bx (H1.out.run hb)
    have HC1 := bx k3
    obtain ⟨b1, hb1⟩ : ∃ b1, b1 = W2.heap.size := ⟨_, rfl⟩
    obtain ⟨W3, hW3⟩ : ∃ W3, W3 = W2.alloc (.cells (tcs h A1 c1 B1 d1) 25) := ⟨_, rfl⟩
    have HI3 := bx (show TX w W3 b1 h A1 c1 B1 d1 by rw [hb1]; exact TX.new H2.out.bw k1 k2 hW3)
    have H3 := bx (H2.out.run (w' := W3) (by rw [hW3]; exact (Below.refl _ W2).alloc (Nat.le_refl _) _))
    have HE3 := bx hb1
    have HW3 := bx hW3
    clear hb k1 k2 k3 hb1 hW3 x0 x1 x2 x3 x4 x5 x6
    obtain ⟨x0, x1, x2, x3, x4, x5, x6⟩ := tx_cells H3.out HN.out HM.out
    obtain ⟨i0, i1, i2, i3, i4, i5, i6⟩ := tx_cells HI3.out HN.out HM.out
    simp only
    go_upto_region 4 with fail
    rw [← HW3.out, ← HE3.out]
    go_wp2_with fail
    refine (encode_any _ h W3 (show TC W3 (.agg #[.int .u32 h.sn, .int .u32 h.md, .int .i64 h.fi, .int .i64 h.ba, .int .i64 h.ct, .slice A1 n c1, .slice B1 m d1]) h from ⟨A1, c1, B1, d1, by rw [HN.out, HM.out], HI3.out.r1, HI3.out.r2, HC1.out⟩) OK.out).mono ?_
    obtain ⟨E1, hE1⟩ : ∃ E1, E1 = (encR h).1 := ⟨_, rfl⟩
    obtain ⟨E2, hE2⟩ : ∃ E2, E2 = (encR h).2 := ⟨_, rfl⟩
    rw [← hE1, ← hE2]
    rintro e W4 ⟨rfl, hb⟩
    have HEE1 := bx hE1
    have HEE2 := bx hE2
    have H4 := bx (H3.out.run hb)
    have HI4 := bx (HI3.out.run hb)
    clear hb hE1 hE2 x0 x1 x2 x3 x4 x5 x6 i0 i1 i2 i3 i4 i5 i6
    obtain ⟨x0, x1, x2, x3, x4, x5, x6⟩ := tx_cells H4.out HN.out HM.out
    go_wp2_with fail
    refine (rencode_any _ h W4 (show TC W4 (.agg #[.int .u32 h.sn, .int .u32 h.md, .int .i64 h.fi, .int .i64 h.ba, .int .i64 h.ct, .slice A n c, .slice B m d]) h from ⟨A, c, B, d, by rw [HN.out, HM.out], H4.out.r1, H4.out.r2, HC.out⟩) OK.out).mono ?_
    rw [← HEE1.out, ← HEE2.out]
    rintro e W5 ⟨rfl, hb⟩
    have H5 := bx (H4.out.run hb)
    have HI5 := bx (HI4.out.run hb)
    clear hb x0 x1 x2 x3 x4 x5 x6
    go_upto_region 6 with fail
    have HS : W5.drew.cell? ⟨b0, 0, none⟩ = some (.int .u32 h.sn) ∧ W5.drew.cell? ⟨b0, 1, none⟩ = some (.int .u32 h.md) ∧ W5.drew.cell? ⟨b0, 2, none⟩ = some (.int .i64 h.fi) ∧ W5.drew.cell? ⟨b0, 3, none⟩ = some (.int .i64 h.ba) ∧ W5.drew.cell? ⟨b0, 4, none⟩ = some (.int .i64 h.ct) ∧ W5.drew.cell? ⟨b0, 5, none⟩ = some (.slice A n c) ∧ W5.drew.cell? ⟨b0, 6, none⟩ = some (.slice B m d) ∧ W5.drew.cell? ⟨b1, 0, none⟩ = some (.int .u32 h.sn) ∧ W5.drew.cell? ⟨b1, 1, none⟩ = some (.int .u32 h.md) ∧ W5.drew.cell? ⟨b1, 2, none⟩ = some (.int .i64 h.fi) ∧ W5.drew.cell? ⟨b1, 3, none⟩ = some (.int .i64 h.ba) ∧ W5.drew.cell? ⟨b1, 4, none⟩ = some (.int .i64 h.ct) ∧ W5.drew.cell? ⟨b1, 5, none⟩ = some (.slice A1 n c1) ∧ W5.drew.cell? ⟨b1, 6, none⟩ = some (.slice B1 m d1) := by
      obtain ⟨x0, x1, x2, x3, x4, x5, x6⟩ := tx_cells H5.out HN.out HM.out
      have i := tx_cells HI5.out HN.out HM.out
      exact ⟨x0, x1, x2, x3, x4, x5, x6, i⟩
    have H6 := bx (H5.out.run (w' := W5.drew) ((Kept.refl (fun _ => False) W5).drew.below (Nat.le_refl _) (fun _ e => e.elim)))
    have HI6 := bx (HI5.out.run (w' := W5.drew) ((Kept.refl (fun _ => False) W5).drew.below (Nat.le_refl _) (fun _ e => e.elim)))
    obtain ⟨Y, hY⟩ : ∃ Y, Y = W5.drew := ⟨_, rfl⟩
    refine Tail.start 23 (fun w' => w'.cell? ⟨b0, 0, none⟩ = some (.int .u32 h.sn) ∧ w'.cell? ⟨b0, 1, none⟩ = some (.int .u32 h.md) ∧ w'.cell? ⟨b0, 2, none⟩ = some (.int .i64 h.fi) ∧ w'.cell? ⟨b0, 3, none⟩ = some (.int .i64 h.ba) ∧ w'.cell? ⟨b0, 4, none⟩ = some (.int .i64 h.ct) ∧ w'.cell? ⟨b0, 5, none⟩ = some (.slice A n c) ∧ w'.cell? ⟨b0, 6, none⟩ = some (.slice B m d) ∧ w'.cell? ⟨b1, 0, none⟩ = some (.int .u32 h.sn) ∧ w'.cell? ⟨b1, 1, none⟩ = some (.int .u32 h.md) ∧ w'.cell? ⟨b1, 2, none⟩ = some (.int .i64 h.fi) ∧ w'.cell? ⟨b1, 3, none⟩ = some (.int .i64 h.ba) ∧ w'.cell? ⟨b1, 4, none⟩ = some (.int .i64 h.ct) ∧ w'.cell? ⟨b1, 5, none⟩ = some (.slice A1 n c1) ∧ w'.cell? ⟨b1, 6, none⟩ = some (.slice B1 m d1)) (by kernel_rfl) ?_
    rw [← hY] at HS H6 HI6 ⊢
    clear hY
    refine Tail.take 0 rfl (by kernel_rfl) (fun _ _ _ h => h) (by rfl) HS (fun w hSw => by (try dsimp only at hSw); go_simp; (try with_reducible rfl)) ?_
    try simp only [List.getElem_toArray, List.getElem_cons_succ, List.getElem_cons_zero, Act.put, List.setIfInBounds_toArray, List.set_cons_zero, List.set_cons_succ]
    refine Tail.take 1 rfl (by kernel_rfl) (fun _ _ _ h => h) (by rfl) HS (fun w hSw => by (try dsimp only at hSw); go_simp; (try with_reducible rfl)) ?_
    try simp only [List.getElem_toArray, List.getElem_cons_succ, List.getElem_cons_zero, Act.put, List.setIfInBounds_toArray, List.set_cons_zero, List.set_cons_succ]
    refine Tail.take 2 rfl (by kernel_rfl) (fun _ _ _ h => h) (by rfl) HS (fun w hSw => by (try dsimp only at hSw); go_simp; (try with_reducible rfl)) ?_
    try simp only [List.getElem_toArray, List.getElem_cons_succ, List.getElem_cons_zero, Act.put, List.setIfInBounds_toArray, List.set_cons_zero, List.set_cons_succ]
    refine Tail.take 3 rfl (by kernel_rfl) (fun _ _ _ h => h) (by rfl) HS (fun w hSw => by (try dsimp only at hSw); go_simp; (try with_reducible rfl)) ?_
    try simp only [List.getElem_toArray, List.getElem_cons_succ, List.getElem_cons_zero, Act.put, List.setIfInBounds_toArray, List.set_cons_zero, List.set_cons_succ]
    refine Tail.take 4 rfl (by kernel_rfl) (fun _ _ _ h => h) (by rfl) HS (fun w hSw => by (try dsimp only at hSw); go_simp; (try with_reducible rfl)) ?_
    try simp only [List.getElem_toArray, List.getElem_cons_succ, List.getElem_cons_zero, Act.put, List.setIfInBounds_toArray, List.set_cons_zero, List.set_cons_succ]
    refine Tail.take 5 rfl (by kernel_rfl) (fun _ _ _ h => h) (by rfl) HS (fun w hSw => by (try dsimp only at hSw); go_simp; (try with_reducible rfl)) ?_
    try simp only [List.getElem_toArray, List.getElem_cons_succ, List.getElem_cons_zero, Act.put, List.setIfInBounds_toArray, List.set_cons_zero, List.set_cons_succ]
    refine Tail.take 6 rfl (by kernel_rfl) (fun _ _ _ h => h) (by rfl) HS (fun w hSw => by (try dsimp only at hSw); go_simp; (try with_reducible rfl)) ?_
    try simp only [List.getElem_toArray, List.getElem_cons_succ, List.getElem_cons_zero, Act.put, List.setIfInBounds_toArray, List.set_cons_zero, List.set_cons_succ]
    refine Tail.take 7 rfl (by kernel_rfl) (fun _ _ _ h => h) (by rfl) HS (fun w hSw => by (try dsimp only at hSw); go_simp; (try with_reducible rfl)) ?_
    try simp only [List.getElem_toArray, List.getElem_cons_succ, List.getElem_cons_zero, Act.put, List.setIfInBounds_toArray, List.set_cons_zero, List.set_cons_succ]
    refine Tail.take 8 rfl (by kernel_rfl) (fun _ _ _ h => h) (by rfl) HS (fun w hSw => by (try dsimp only at hSw); go_simp; (try with_reducible rfl)) ?_
    try simp only [List.getElem_toArray, List.getElem_cons_succ, List.getElem_cons_zero, Act.put, List.setIfInBounds_toArray, List.set_cons_zero, List.set_cons_succ]
    refine Tail.take 9 rfl (by kernel_rfl) (fun _ _ _ h => h) (by rfl) HS (fun w hSw => by (try dsimp only at hSw); go_simp; (try with_reducible rfl)) ?_
    try simp only [List.getElem_toArray, List.getElem_cons_succ, List.getElem_cons_zero, Act.put, List.setIfInBounds_toArray, List.set_cons_zero, List.set_cons_succ]
    refine Tail.take 11 rfl (by kernel_rfl) (fun _ _ _ h => h) (by rfl) HS (fun w hSw => by (try dsimp only at hSw); go_simp; (try with_reducible rfl)) ?_
    try simp only [List.getElem_toArray, List.getElem_cons_succ, List.getElem_cons_zero, Act.put, List.setIfInBounds_toArray, List.set_cons_zero, List.set_cons_succ]
    refine Tail.one 10 rfl (by kernel_rfl) (fun K hK => ?_)
    go_simp
    refine (good_any _ h Y (tr_agg HI6.out.tr HN.out HM.out)).mono ?_
    rintro e Y7 ⟨rfl, hb⟩
    have H7 := bx (H6.out.run hb)
    have HI7 := bx (HI6.out.run hb)
    have HS : Y7.cell? ⟨b0, 0, none⟩ = some (.int .u32 h.sn) ∧ Y7.cell? ⟨b0, 1, none⟩ = some (.int .u32 h.md) ∧ Y7.cell? ⟨b0, 2, none⟩ = some (.int .i64 h.fi) ∧ Y7.cell? ⟨b0, 3, none⟩ = some (.int .i64 h.ba) ∧ Y7.cell? ⟨b0, 4, none⟩ = some (.int .i64 h.ct) ∧ Y7.cell? ⟨b0, 5, none⟩ = some (.slice A n c) ∧ Y7.cell? ⟨b0, 6, none⟩ = some (.slice B m d) ∧ Y7.cell? ⟨b1, 0, none⟩ = some (.int .u32 h.sn) ∧ Y7.cell? ⟨b1, 1, none⟩ = some (.int .u32 h.md) ∧ Y7.cell? ⟨b1, 2, none⟩ = some (.int .i64 h.fi) ∧ Y7.cell? ⟨b1, 3, none⟩ = some (.int .i64 h.ba) ∧ Y7.cell? ⟨b1, 4, none⟩ = some (.int .i64 h.ct) ∧ Y7.cell? ⟨b1, 5, none⟩ = some (.slice A1 n c1) ∧ Y7.cell? ⟨b1, 6, none⟩ = some (.slice B1 m d1) := by
      obtain ⟨x0, x1, x2, x3, x4, x5, x6⟩ := tx_cells H7.out HN.out HM.out
      exact ⟨x0, x1, x2, x3, x4, x5, x6, tx_cells HI7.out HN.out HM.out⟩
    clear hb
    refine hK.out _ _ HS ?_
    clear hK K
    try simp only [List.getElem_toArray, List.getElem_cons_succ, List.getElem_cons_zero, Act.put, List.setIfInBounds_toArray, List.set_cons_zero, List.set_cons_succ]
    refine Tail.one 12 rfl (by kernel_rfl) (fun K hK => ?_)
    go_simp
    refine (rgood_any _ h Y7 (tr_agg H7.out.tr HN.out HM.out)).mono ?_
    rintro e Y8 ⟨rfl, hb⟩
    have H8 := bx (H7.out.run hb)
    have HI8 := bx (HI7.out.run hb)
    have HS : Y8.cell? ⟨b0, 0, none⟩ = some (.int .u32 h.sn) ∧ Y8.cell? ⟨b0, 1, none⟩ = some (.int .u32 h.md) ∧ Y8.cell? ⟨b0, 2, none⟩ = some (.int .i64 h.fi) ∧ Y8.cell? ⟨b0, 3, none⟩ = some (.int .i64 h.ba) ∧ Y8.cell? ⟨b0, 4, none⟩ = some (.int .i64 h.ct) ∧ Y8.cell? ⟨b0, 5, none⟩ = some (.slice A n c) ∧ Y8.cell? ⟨b0, 6, none⟩ = some (.slice B m d) ∧ Y8.cell? ⟨b1, 0, none⟩ = some (.int .u32 h.sn) ∧ Y8.cell? ⟨b1, 1, none⟩ = some (.int .u32 h.md) ∧ Y8.cell? ⟨b1, 2, none⟩ = some (.int .i64 h.fi) ∧ Y8.cell? ⟨b1, 3, none⟩ = some (.int .i64 h.ba) ∧ Y8.cell? ⟨b1, 4, none⟩ = some (.int .i64 h.ct) ∧ Y8.cell? ⟨b1, 5, none⟩ = some (.slice A1 n c1) ∧ Y8.cell? ⟨b1, 6, none⟩ = some (.slice B1 m d1) := by
      obtain ⟨x0, x1, x2, x3, x4, x5, x6⟩ := tx_cells H8.out HN.out HM.out
      exact ⟨x0, x1, x2, x3, x4, x5, x6, tx_cells HI8.out HN.out HM.out⟩
    clear hb
    refine hK.out _ _ HS ?_
    clear hK K
    try simp only [List.getElem_toArray, List.getElem_cons_succ, List.getElem_cons_zero, Act.put, List.setIfInBounds_toArray, List.set_cons_zero, List.set_cons_succ]
    refine Tail.take 13 rfl (by kernel_rfl) (fun _ _ _ h => h) (by rfl) HS (fun w hSw => by (try dsimp only at hSw); go_simp; (try with_reducible rfl)) ?_
    try simp only [List.getElem_toArray, List.getElem_cons_succ, List.getElem_cons_zero, Act.put, List.setIfInBounds_toArray, List.set_cons_zero, List.set_cons_succ]
    refine Tail.take 14 rfl (by kernel_rfl) (fun _ _ _ h => h) (by rfl) HS (fun w hSw => by (try dsimp only at hSw); go_simp; (try with_reducible rfl)) ?_
    try simp only [List.getElem_toArray, List.getElem_cons_succ, List.getElem_cons_zero, Act.put, List.setIfInBounds_toArray, List.set_cons_zero, List.set_cons_succ]
    refine Tail.take 15 rfl (by kernel_rfl) (fun _ _ _ h => h) (by rfl) HS (fun w hSw => by (try dsimp only at hSw); go_simp; (try with_reducible rfl)) ?_
    try simp only [List.getElem_toArray, List.getElem_cons_succ, List.getElem_cons_zero, Act.put, List.setIfInBounds_toArray, List.set_cons_zero, List.set_cons_succ]
    refine Tail.take 16 rfl (by kernel_rfl) (fun _ _ _ h => h) (by rfl) HS (fun w hSw => by (try dsimp only at hSw); go_simp; (try with_reducible rfl)) ?_
    try simp only [List.getElem_toArray, List.getElem_cons_succ, List.getElem_cons_zero, Act.put, List.setIfInBounds_toArray, List.set_cons_zero, List.set_cons_succ]
    refine Tail.take 17 rfl (by kernel_rfl) (fun _ _ _ h => h) (by rfl) HS (fun w hSw => by (try dsimp only at hSw); go_simp; (try with_reducible rfl)) ?_
    try simp only [List.getElem_toArray, List.getElem_cons_succ, List.getElem_cons_zero, Act.put, List.setIfInBounds_toArray, List.set_cons_zero, List.set_cons_succ]
    refine Tail.one 18 rfl (by kernel_rfl) (fun K hK => ?_)
    go_simp
    refine (same_any _ _ h Y8 (tr_agg HI8.out.tr HN.out HM.out) (tr_agg H8.out.tr HN.out HM.out) HSM.out).mono ?_
    rintro e Y9 ⟨rfl, hb⟩
    have H9 := bx (H8.out.run hb)
    have HI9 := bx (HI8.out.run hb)
    have HS : Y9.cell? ⟨b0, 0, none⟩ = some (.int .u32 h.sn) ∧ Y9.cell? ⟨b0, 1, none⟩ = some (.int .u32 h.md) ∧ Y9.cell? ⟨b0, 2, none⟩ = some (.int .i64 h.fi) ∧ Y9.cell? ⟨b0, 3, none⟩ = some (.int .i64 h.ba) ∧ Y9.cell? ⟨b0, 4, none⟩ = some (.int .i64 h.ct) ∧ Y9.cell? ⟨b0, 5, none⟩ = some (.slice A n c) ∧ Y9.cell? ⟨b0, 6, none⟩ = some (.slice B m d) ∧ Y9.cell? ⟨b1, 0, none⟩ = some (.int .u32 h.sn) ∧ Y9.cell? ⟨b1, 1, none⟩ = some (.int .u32 h.md) ∧ Y9.cell? ⟨b1, 2, none⟩ = some (.int .i64 h.fi) ∧ Y9.cell? ⟨b1, 3, none⟩ = some (.int .i64 h.ba) ∧ Y9.cell? ⟨b1, 4, none⟩ = some (.int .i64 h.ct) ∧ Y9.cell? ⟨b1, 5, none⟩ = some (.slice A1 n c1) ∧ Y9.cell? ⟨b1, 6, none⟩ = some (.slice B1 m d1) := by
      obtain ⟨x0, x1, x2, x3, x4, x5, x6⟩ := tx_cells H9.out HN.out HM.out
      exact ⟨x0, x1, x2, x3, x4, x5, x6, tx_cells HI9.out HN.out HM.out⟩
    clear hb
    refine hK.out _ _ HS ?_
    clear hK K
    try simp only [List.getElem_toArray, List.getElem_cons_succ, List.getElem_cons_zero, Act.put, List.setIfInBounds_toArray, List.set_cons_zero, List.set_cons_succ]
    refine Tail.take 19 rfl (by kernel_rfl) (fun _ _ _ h => h) (by rfl) HS (fun w hSw => by (try dsimp only at hSw); go_simp; (try with_reducible rfl)) ?_
    try simp only [List.getElem_toArray, List.getElem_cons_succ, List.getElem_cons_zero, Act.put, List.setIfInBounds_toArray, List.set_cons_zero, List.set_cons_succ]
    refine Tail.take 20 rfl (by kernel_rfl) (fun _ _ _ h => h) (by rfl) HS (fun w hSw => by (try dsimp only at hSw); go_simp; (try with_reducible rfl)) ?_
    try simp only [List.getElem_toArray, List.getElem_cons_succ, List.getElem_cons_zero, Act.put, List.setIfInBounds_toArray, List.set_cons_zero, List.set_cons_succ]
    refine Tail.one 21 rfl (by kernel_rfl) (fun K hK => ?_)
    go_simp
    refine (wakes_any Y9).mono ?_
    rintro e Y10 ⟨rfl, hb⟩
    have H10 := bx (H9.out.run hb)
    have HI10 := bx (HI9.out.run hb)
    have HS : Y10.cell? ⟨b0, 0, none⟩ = some (.int .u32 h.sn) ∧ Y10.cell? ⟨b0, 1, none⟩ = some (.int .u32 h.md) ∧ Y10.cell? ⟨b0, 2, none⟩ = some (.int .i64 h.fi) ∧ Y10.cell? ⟨b0, 3, none⟩ = some (.int .i64 h.ba) ∧ Y10.cell? ⟨b0, 4, none⟩ = some (.int .i64 h.ct) ∧ Y10.cell? ⟨b0, 5, none⟩ = some (.slice A n c) ∧ Y10.cell? ⟨b0, 6, none⟩ = some (.slice B m d) ∧ Y10.cell? ⟨b1, 0, none⟩ = some (.int .u32 h.sn) ∧ Y10.cell? ⟨b1, 1, none⟩ = some (.int .u32 h.md) ∧ Y10.cell? ⟨b1, 2, none⟩ = some (.int .i64 h.fi) ∧ Y10.cell? ⟨b1, 3, none⟩ = some (.int .i64 h.ba) ∧ Y10.cell? ⟨b1, 4, none⟩ = some (.int .i64 h.ct) ∧ Y10.cell? ⟨b1, 5, none⟩ = some (.slice A1 n c1) ∧ Y10.cell? ⟨b1, 6, none⟩ = some (.slice B1 m d1) := by
      obtain ⟨x0, x1, x2, x3, x4, x5, x6⟩ := tx_cells H10.out HN.out HM.out
      exact ⟨x0, x1, x2, x3, x4, x5, x6, tx_cells HI10.out HN.out HM.out⟩
    clear hb
    refine hK.out _ _ HS ?_
    clear hK K
    try simp only [List.getElem_toArray, List.getElem_cons_succ, List.getElem_cons_zero, Act.put, List.setIfInBounds_toArray, List.set_cons_zero, List.set_cons_succ]
    refine Tail.take 22 rfl (by kernel_rfl) (fun _ _ _ h => h) (by rfl) HS (fun w hSw => by (try dsimp only at hSw); go_simp; (try with_reducible rfl)) ?_
    try simp only [List.getElem_toArray, List.getElem_cons_succ, List.getElem_cons_zero, Act.put, List.setIfInBounds_toArray, List.set_cons_zero, List.set_cons_succ]
    refine Tail.tail 23 rfl (by kernel_rfl) ?_
    simp only [List.drop_succ_cons, List.drop_zero]
    clear HS
    try simp only [List.getElem_toArray, List.getElem_cons_succ, List.getElem_cons_zero, List.setIfInBounds_toArray, List.set_cons_zero, List.set_cons_succ]
    go_wp2_with fail
    go_ret
    exact ⟨rfl, H10.out.bw⟩
theorem TwccEncodes_row (c0 : Array Value) (z0) (w : World) (h : rT w c0.toList z0) :
    Calls Try.prog 3 #[.agg c0] w fun e w' => e = .returned (.bool true) ∧ Below w.heap.size w w' := by
  obtain ⟨r, hr, ok⟩ : ∃ r, TC w (.agg c0) r ∧ okT r := ⟨_, arg_rep h⟩
  exact TwccEncodes_any _ r w hr ok
end Go.Proofs.Ytmedlplgeeeodaa.Tw
