/- The laws of ccfb: what the calls in them come to; no condition but that the arguments are of their kinds. -/
import Derived.Test.YtmkaflfhmpddbaaCcfbEnc2
import Derived.Test.YtmkaflfhmpddbaaCcfbEnc3
import Derived.Test.YtmkaflfhmpddbaaCcfbCopy
import Derived.Test.YtmkaflfhmpddbaaCcfbDec4
import Derived.Test.YtmkaflfhmpddbaaCcfbBack2
namespace Go.Proofs.Ytmkaflfhmpddbaa.Ccfb
open Go.RowKit Go.Proofs.Ytmkaflfhmpddbaa.Plain Go.Proofs.Ytmkaflfhmpddbaa.Heap Go.Proofs.Ytmkaflfhmpddbaa.Open Go.Proofs.Ytmkaflfhmpddbaa.Rows Go.Proofs.Ytmkaflfhmpddbaa.Bits

def r0 : Rep := (1, [(2, 3, [(true, 3, 5)])], 9)
def t0 : ByteArray := ⟨#[0, 0, 0, 1, 0, 0, 0, 2, 0, 3, 0, 1, 0xe0, 5, 0, 0, 0, 0, 0, 9]⟩
theorem wake_txt : txt (encC r0) = t0 := by kernel_rfl
theorem wake_good : goodC r0 = true := by kernel_rfl
theorem wake_enc : encR r0 = (t0, 0) := by rw [encR_good wake_good (by decide), wake_txt]
theorem wake_ok : okC r0 := ⟨by decide, by decide, by decide, by decide, fun b hb => by
  simp [r0] at hb
  subst hb
  exact ⟨by decide, by decide, by decide, by decide, fun m hm => by
    simp at hm
    subst hm
    exact ⟨by decide, by decide, by decide, by decide⟩⟩⟩
theorem wake_dec : decC t0 = (r0, 0) := by
  have h := dec_enc wake_ok wake_good (by decide)
  rwa [wake_txt] at h
theorem wake_at (i : Nat) (b : Nat) (h : i < 20) (hb : (t0.data.toList.getD i 0).toNat = b) (W : World) : (Instr.index 9 (.string t0) (.int .i64 (i : Int))).run Try.prog W = .ok (.int .u8 (b : Int)) W := by
  have hi : 0 ≤ (i : Int) ∧ (i : Int) < (t0.size : Int) := ⟨by omega, by show (i : Int) < 20; omega⟩
  rw [run_index_string W _ t0 _ _ Try.underlying9, dif_pos hi]
  congr 3
  rw [← hb]
  congr 1
  rw [List.getD_eq_getElem?_getD, List.getElem?_eq_getElem (by rw [Array.length_toList]; exact h)]
  rfl
set_option maxRecDepth 10000 in
set_option maxHeartbeats 2000000 in
theorem wakes_any (w : World) : Calls Try.prog 9 #[] w fun e w' => e = .returned (.bool true) ∧ Below w.heap.size w w' := by
  go_enter Try.func9, Try.ntmps9
  go_wp2_with fail
  obtain ⟨W1, hW1⟩ : ∃ W1, W1 = w.alloc (.cells #[.bool true, .int .i64 3, .int .i64 5] 47) := ⟨_, rfl⟩
  obtain ⟨W2, hW2⟩ : ∃ W2, W2 = W1.alloc (.cells #[.int .u32 2, .int .i64 3, .slice (some ⟨w.heap.size, 0, none⟩) 1 1] 44) := ⟨_, rfl⟩
  have hcr : CR W2 (.agg #[.int .u32 1, .slice (some ⟨w.heap.size + 1, 0, none⟩) 1 1, .int .u32 9]) r0 := by
    have h1 : W1.heap[w.heap.size]? = some (.cells #[.bool true, .int .i64 3, .int .i64 5] 47 (0, 0)) := by rw [hW1]; exact heap_alloc_new w _
    have hs : W1.heap.size = w.heap.size + 1 := by rw [hW1]; simp
    have h2 : W2.heap[w.heap.size + 1]? = some (.cells #[.int .u32 2, .int .i64 3, .slice (some ⟨w.heap.size, 0, none⟩) 1 1] 44 (0, 0)) := by rw [hW2, ← hs]; exact heap_alloc_new W1 _
    have h3 : W2.heap[w.heap.size]? = some (.cells #[.bool true, .int .i64 3, .int .i64 5] 47 (0, 0)) := by rw [hW2]; exact (Below.heap_alloc W1 _ w.heap.size (by omega)).trans h1
    obtain ⟨c0, c1, c2⟩ := cells3 h2
    refine ⟨some ⟨w.heap.size + 1, 0, none⟩, 1, rfl, rfl, fun _ => ⟨_, _, rfl, (Array.getElem?_eq_some_iff.1 h2).1, fun i x hx => ?_⟩⟩
    cases i with
    | zero =>
      simp [r0] at hx
      subst hx
      exact ⟨by simpa using c0, by simpa using c1, some ⟨w.heap.size, 0, none⟩, 1, by simpa using c2, Rd.block h3 rfl⟩
    | succ i => simp [r0] at hx
  have HCR := Lib.hid hcr
  have HB2 := Lib.hid (show Below w.heap.size w W2 by rw [hW2, hW1]; exact ((Below.refl _ w).alloc (Nat.le_refl _) _).alloc (by simp) _)
  rw [← hW1, ← hW2]
  clear hcr hW1 hW2
  refine (encode_any _ r0 W2 HCR.out wake_ok).mono ?_
  rw [wake_enc]
  rintro e X ⟨rfl, hX⟩
  have HX := Lib.hid (below_then HB2.out HB2.out.size hX)
  clear hX
  go_wp2_with fail
  refine (decode_any t0 X).mono ?_
  unfold DecPost
  rw [wake_dec]
  rintro e Y ⟨v, rfl, hcr0, hY⟩
  obtain ⟨A, c, rfl, hbl⟩ : ∃ A c, v = .agg #[.int .u32 1, .slice A 1 c, .int .u32 9] ∧ Blks Y A 1 r0.2.1 := hcr0
  have HY := Lib.hid (below_then HX.out HX.out.size hY)
  obtain ⟨Y2, hY2⟩ : ∃ Y2, Y2 = Y.alloc (.cells #[.int .u32 1, .slice A 1 c, .int .u32 9] 25) := ⟨_, rfl⟩
  have hb2 := Blks.below hbl (w' := Y2) (by rw [hY2]; exact (Below.refl _ Y).alloc (Nat.le_refl _) _)
  obtain ⟨g, off, x, rfl, hg, hx, _, y0, y1, MA, mc, y2, hrd⟩ := hb2.at (i := 0) (by decide)
  simp [r0] at hx
  subst hx
  simp only [List.length_cons, List.length_nil] at y2 hrd
  obtain ⟨g2, off2, m, rfl, hg2, hm, _, m0, m1, m2⟩ := met_at (ms := [(true, 3, 5)]) (by simpa using hrd) (k := 0) (by decide)
  simp at hm
  subst hm
  have HY2 := Lib.hid (show Below w.heap.size w Y2 by rw [hY2]; exact HY.out.alloc HY.out.size _)
  have hq := heap_alloc_new Y (.cells #[.int .u32 1, .slice (some ⟨g, off, none⟩) 1 c, .int .u32 9] 25)
  rw [← hY2] at hq
  obtain ⟨z0, z1, z2⟩ := cells3 hq
  clear hY hbl hb2 hq
  go_upto_region 3 with fail
  rw [← hY2]
  have i12 := wake_at 12 224 (by decide) rfl
  have i13 := wake_at 13 5 (by decide) rfl
  have hts : (t0.size : Int) = 20 := rfl
  clear hY2
  go_wp2_with fail
  go_ret
  exact ⟨rfl, HY2.out⟩
/-- A report's box of the law's own. -/
structure BX (w0 w : World) (b : Nat) (r : Rep) (A : Option Addr) (c : Nat) : Prop where
  bl : Blks w A r.2.1.length r.2.1
  c0 : w.cell? ⟨b, 0, none⟩ = some (.int .u32 r.1)
  c1 : w.cell? ⟨b, 1, none⟩ = some (.slice A r.2.1.length c)
  c2 : w.cell? ⟨b, 2, none⟩ = some (.int .u32 r.2.2)
  bw : Below w0.heap.size w0 w
section
variable {w0 w w' : World} {b : Nat} {r : Rep} {A : Option Addr} {c : Nat}
theorem BX.run (h : BX w0 w b r A c) (hb : Below w.heap.size w w') : BX w0 w' b r A c := by
  have hl := World.block_lt_of_cell? _ _ h.c0
  exact ⟨h.bl.below hb, (hb.cell (p := ⟨b, 0, none⟩) hl).trans h.c0, (hb.cell (p := ⟨b, 1, none⟩) hl).trans h.c1, (hb.cell (p := ⟨b, 2, none⟩) hl).trans h.c2, below_then h.bw h.bw.size hb⟩
theorem BX.cr (h : BX w0 w b r A c) : CR w (.agg #[.int .u32 r.1, .slice A r.2.1.length c, .int .u32 r.2.2]) r := ⟨A, c, rfl, h.bl⟩
theorem BX.new (hb : Below w0.heap.size w0 w) (hbl : Blks w A r.2.1.length r.2.1) (h' : w' = w.alloc (.cells #[.int .u32 r.1, .slice A r.2.1.length c, .int .u32 r.2.2] 25)) : BX w0 w' w.heap.size r A c := by
  have hq := heap_alloc_new w (.cells #[.int .u32 r.1, .slice A r.2.1.length c, .int .u32 r.2.2] 25)
  rw [← h'] at hq
  obtain ⟨z0, z1, z2⟩ := cells3 hq
  have hw : Below w.heap.size w w' := by rw [h']; exact (Below.refl _ w).alloc (Nat.le_refl _) _
  exact ⟨hbl.below hw, z0, z1, z2, below_then hb hb.size hw⟩
end
theorem same_refl (r : Rep) : same r r = true := by unfold same; exact decide_eq_true rfl
set_option maxRecDepth 10000 in
set_option maxHeartbeats 4000000 in
theorem CcfbEncodes_any (v : Value) (r : Rep) (w : World) (h : CR w v r) (ok : okC r) :
    Calls Try.prog 3 #[v] w fun e w' => e = .returned (.bool true) ∧ Below w.heap.size w w' := by
  obtain ⟨A, c, rfl, hbl⟩ := h
  obtain ⟨b0, hb0⟩ : ∃ b0, b0 = w.heap.size := ⟨_, rfl⟩
  obtain ⟨W0, hW0⟩ : ∃ W0, W0 = w.alloc (.cells #[.int .u32 r.1, .slice A r.2.1.length c, .int .u32 r.2.2] 25) := ⟨_, rfl⟩
  have H0 := Lib.hid (show BX w W0 b0 r A c by rw [hb0]; exact BX.new (Below.refl _ w) hbl hW0)
  have HE := Lib.hid hb0
  have HW := Lib.hid hW0
  have OK := Lib.hid ok
  have x0 := H0.out.c0
  have x1 := H0.out.c1
  have x2 := H0.out.c2
  clear hbl ok hb0 hW0
  go_enter Try.func3, Try.ntmps3
  go_upto_region 1 with fail
  rw [← HW.out, ← HE.out]
  go_wp2_with fail
  refine (large_any _ r W0 H0.out.cr).mono ?_
  rintro e W1 ⟨lg, rfl, hsm, hb1⟩
  have H1 := Lib.hid (H0.out.run hb1)
  have y0 := H1.out.c0
  have y1 := H1.out.c1
  have y2 := H1.out.c2
  clear hb1 x0 x1 x2
  cases lg with
  | true =>
    clear hsm
    go_wp2_with fail
    refine (wakes_any _).mono ?_
    rintro e W2 ⟨rfl, hb2⟩
    have H2 := Lib.hid (H1.out.run hb2)
    clear hb2
    go_wp2_with fail
    go_ret
    exact ⟨rfl, H2.out.bw⟩
  | false =>
    have HSM := Lib.hid (hsm rfl)
    clear hsm
    go_wp2_with fail
    refine (copy_any _ r W1 H1.out.cr HSM.out).mono ?_
    rintro e W2 ⟨v', rfl, ⟨A', c', rfl, hbl'⟩, hb2⟩
    have H2 := Lib.hid (H1.out.run hb2)
    obtain ⟨b3, hb3⟩ : ∃ b3, b3 = W2.heap.size := ⟨_, rfl⟩
    obtain ⟨W3, hW3⟩ : ∃ W3, W3 = W2.alloc (.cells #[.int .u32 r.1, .slice A' r.2.1.length c', .int .u32 r.2.2] 25) := ⟨_, rfl⟩
    have HI3 := Lib.hid (show BX w W3 b3 r A' c' by rw [hb3]; exact BX.new H2.out.bw hbl' hW3)
    have H3 := Lib.hid (H2.out.run (w' := W3) (by rw [hW3]; exact (Below.refl _ W2).alloc (Nat.le_refl _) _))
    have HE3 := Lib.hid hb3
    have HW3 := Lib.hid hW3
    have x0 := H3.out.c0
    have x1 := H3.out.c1
    have x2 := H3.out.c2
    have i0 := HI3.out.c0
    have i1 := HI3.out.c1
    have i2 := HI3.out.c2
    clear hbl' hb2 hb3 hW3 y0 y1 y2
    go_upto_region 4 with fail
    rw [← HW3.out, ← HE3.out]
    go_wp2_with fail
    refine (encode_any _ r W3 HI3.out.cr OK.out).mono ?_
    rintro e W4 ⟨rfl, hb4⟩
    have H4 := Lib.hid (H3.out.run hb4)
    have HI4 := Lib.hid (HI3.out.run hb4)
    have y0 := H4.out.c0
    have y1 := H4.out.c1
    have y2 := H4.out.c2
    clear hb4 x0 x1 x2 i0 i1 i2
    go_wp2_with fail
    refine (rencode_any _ r W4 H4.out.cr OK.out).mono ?_
    rintro e W5 ⟨rfl, hb5⟩
    have H5 := Lib.hid (H4.out.run hb5)
    have HI5 := Lib.hid (HI4.out.run hb5)
    have x0 := H5.out.c0
    have x1 := H5.out.c1
    have x2 := H5.out.c2
    have i0 := HI5.out.c0
    have i1 := HI5.out.c1
    have i2 := HI5.out.c2
    clear hb5 y0 y1 y2
    generalize hR : encR r = R
    obtain ⟨T, E⟩ := R
    simp only
    go_wp2_with fail
    have H5d := Lib.hid (H5.out.run (below_drewN (Below.refl _ _) 1))
    have HI5d := Lib.hid (HI5.out.run (below_drewN (Below.refl _ _) 1))
    go_region_held3 (fun w' => w'.cell? ⟨b0, 0, none⟩ = some (.int .u32 r.1) ∧ w'.cell? ⟨b0, 1, none⟩ = some (.slice A r.2.1.length c) ∧ w'.cell? ⟨b0, 2, none⟩ = some (.int .u32 r.2.2) ∧ w'.cell? ⟨b3, 0, none⟩ = some (.int .u32 r.1) ∧ w'.cell? ⟨b3, 1, none⟩ = some (.slice A' r.2.1.length c') ∧ w'.cell? ⟨b3, 2, none⟩ = some (.int .u32 r.2.2)) (first | exact ⟨x0, x1, x2, i0, i1, i2⟩ | exact Y6 | exact Y7 | exact Y8 | exact Y9)
      (first
        | (go_at_call 13
           refine (good_any _ r W5.drew HI5d.out.cr).mono ?_
           rintro e W6 ⟨rfl, hb6⟩
           have H6 := Lib.hid (H5d.out.run hb6)
           have HI6 := Lib.hid (HI5d.out.run hb6)
           have Y6 : (fun w' => w'.cell? ⟨b0, 0, none⟩ = some (.int .u32 r.1) ∧ w'.cell? ⟨b0, 1, none⟩ = some (.slice A r.2.1.length c) ∧ w'.cell? ⟨b0, 2, none⟩ = some (.int .u32 r.2.2) ∧ w'.cell? ⟨b3, 0, none⟩ = some (.int .u32 r.1) ∧ w'.cell? ⟨b3, 1, none⟩ = some (.slice A' r.2.1.length c') ∧ w'.cell? ⟨b3, 2, none⟩ = some (.int .u32 r.2.2)) W6 := ⟨H6.out.c0, H6.out.c1, H6.out.c2, HI6.out.c0, HI6.out.c1, HI6.out.c2⟩
           clear hb6)
        | (go_at_call 14
           refine (rgood_any _ r W6 H6.out.cr).mono ?_
           rintro e W7 ⟨rfl, hb7⟩
           have H7 := Lib.hid (H6.out.run hb7)
           have HI7 := Lib.hid (HI6.out.run hb7)
           have Y7 : (fun w' => w'.cell? ⟨b0, 0, none⟩ = some (.int .u32 r.1) ∧ w'.cell? ⟨b0, 1, none⟩ = some (.slice A r.2.1.length c) ∧ w'.cell? ⟨b0, 2, none⟩ = some (.int .u32 r.2.2) ∧ w'.cell? ⟨b3, 0, none⟩ = some (.int .u32 r.1) ∧ w'.cell? ⟨b3, 1, none⟩ = some (.slice A' r.2.1.length c') ∧ w'.cell? ⟨b3, 2, none⟩ = some (.int .u32 r.2.2)) W7 := ⟨H7.out.c0, H7.out.c1, H7.out.c2, HI7.out.c0, HI7.out.c1, HI7.out.c2⟩
           clear hb7)
        | (go_at_call 15
           refine (same_any _ _ r r W7 HI7.out.cr H7.out.cr HSM.out).mono ?_
           rw [same_refl]
           rintro e W8 ⟨rfl, hb8⟩
           have H8 := Lib.hid (H7.out.run hb8)
           have HI8 := Lib.hid (HI7.out.run hb8)
           have Y8 : (fun w' => w'.cell? ⟨b0, 0, none⟩ = some (.int .u32 r.1) ∧ w'.cell? ⟨b0, 1, none⟩ = some (.slice A r.2.1.length c) ∧ w'.cell? ⟨b0, 2, none⟩ = some (.int .u32 r.2.2) ∧ w'.cell? ⟨b3, 0, none⟩ = some (.int .u32 r.1) ∧ w'.cell? ⟨b3, 1, none⟩ = some (.slice A' r.2.1.length c') ∧ w'.cell? ⟨b3, 2, none⟩ = some (.int .u32 r.2.2)) W8 := ⟨H8.out.c0, H8.out.c1, H8.out.c2, HI8.out.c0, HI8.out.c1, HI8.out.c2⟩
           clear hb8)
        | (go_at_call 9
           refine (wakes_any W8).mono ?_
           rintro e W9 ⟨rfl, hb9⟩
           have H9 := Lib.hid (H8.out.run hb9)
           have HI9 := Lib.hid (HI8.out.run hb9)
           have Y9 : (fun w' => w'.cell? ⟨b0, 0, none⟩ = some (.int .u32 r.1) ∧ w'.cell? ⟨b0, 1, none⟩ = some (.slice A r.2.1.length c) ∧ w'.cell? ⟨b0, 2, none⟩ = some (.int .u32 r.2.2) ∧ w'.cell? ⟨b3, 0, none⟩ = some (.int .u32 r.1) ∧ w'.cell? ⟨b3, 1, none⟩ = some (.slice A' r.2.1.length c') ∧ w'.cell? ⟨b3, 2, none⟩ = some (.int .u32 r.2.2)) W9 := ⟨H9.out.c0, H9.out.c1, H9.out.c2, HI9.out.c0, HI9.out.c1, HI9.out.c2⟩
           clear hb9))
    go_wp2_with fail
    go_ret
    exact ⟨rfl, H9.out.bw⟩
end Go.Proofs.Ytmkaflfhmpddbaa.Ccfb
