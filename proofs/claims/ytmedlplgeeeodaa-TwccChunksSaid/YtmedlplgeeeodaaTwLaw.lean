/- The laws of twcc: what wakes comes to; no condition. -/
import Derived.Test.YtmedlplgeeeodaaTwEnc2
import Derived.Test.YtmedlplgeeeodaaTwREnc
import Derived.Test.YtmedlplgeeeodaaTwSame
import Derived.Test.YtmedlplgeeeodaaTwDec2
namespace Go.Proofs.Ytmedlplgeeeodaa.Tw
open Go.RowKit Go.Proofs.Ytmedlplgeeeodaa.Plain Go.Proofs.Ytmedlplgeeeodaa.Heap Go.Proofs.Ytmedlplgeeeodaa.Open Go.Proofs.Ytmedlplgeeeodaa.Rows Go.Proofs.Ytmedlplgeeeodaa.Bits

def hd1 : Tw := (0, 0, 5, -1, 0, [1, 1, 2], [4, 5, -6])
def t1 : ByteArray := ⟨#[0, 0, 0, 0, 0, 0, 0, 0, 0, 5, 0, 3, 255, 255, 255, 0, 214, 0, 4, 5, 255, 250, 0, 0]⟩
theorem wake_enc : encR hd1 = (t1, 0) := by kernel_rfl
theorem wake_dec : decT t1 = (hd1, 0) := by kernel_rfl
theorem wake_good : goodT hd1 = true := by kernel_rfl
theorem wake_ok : okT hd1 := ⟨by decide, by decide, by decide, by decide, by decide, by decide, by decide, by decide, by decide, by decide, (fun x hx => by simp [hd1, Tw.st] at hx; omega), (fun x hx => by simp [hd1, Tw.ds] at hx; omega)⟩
theorem wake_tc (w : World) : TC ((w.alloc (.cells #[.int .i64 1, .int .i64 1, .int .i64 2] 3)).alloc (.cells #[.int .i64 4, .int .i64 5, .int .i64 (-6)] 3))
    (.agg #[.int .u32 0, .int .u32 0, .int .i64 5, .int .i64 (-1), .int .i64 0, .slice (some ⟨w.heap.size, 0, none⟩) 3 3, .slice (some ⟨w.heap.size + 1, 0, none⟩) 3 3]) hd1 := by
  refine ⟨some ⟨w.heap.size, 0, none⟩, 3, some ⟨w.heap.size + 1, 0, none⟩, 3, rfl, ?_, ?_, Nat.le_refl _⟩
  · have h : Rd (w.alloc (.cells #[.int .i64 1, .int .i64 1, .int .i64 2] 3)) 1 (some ⟨w.heap.size, 0, none⟩) 3 _ := Rd.block (heap_alloc_new w _) rfl
    exact h.below ((Below.refl _ _).alloc (Nat.le_refl _) _)
  · have h := Rd.block (sz := 1) (n := 3) (heap_alloc_new (w.alloc (.cells #[.int .i64 1, .int .i64 1, .int .i64 2] 3)) (.cells #[.int .i64 4, .int .i64 5, .int .i64 (-6)] 3)) rfl
    have e : (w.alloc (.cells #[.int .i64 1, .int .i64 1, .int .i64 2] 3)).heap.size = w.heap.size + 1 := by simp
    rw [e] at h
    exact h
set_option maxRecDepth 10000 in
set_option maxHeartbeats 2000000 in
theorem wakes_any (w : World) : Calls Try.prog 9 #[] w fun e w' => e = .returned (.bool true) ∧ Below w.heap.size w w' := by
  have HT := bx (wake_tc w)
  go_enter Try.func9, Try.ntmps9
  go_wp2_with fail
  refine (encode_any _ hd1 _ HT.out wake_ok).mono ?_
  rw [wake_enc]
  rintro e X ⟨rfl, hX⟩
  have HBX := bx (show Below w.heap.size w X from (((Below.refl _ w).alloc (Nat.le_refl _) _).alloc (by simp) _).trans (hX.mono (by simp; omega)))
  clear hX
  go_wp2_with fail
  refine (decode_any t1 X (by decide)).mono ?_
  unfold DecPost
  rw [wake_dec]
  rintro e Y ⟨v, rfl, ⟨A, c, B, d, rfl, g1, g2, g3⟩, hY⟩
  have HBY := bx (below_then HBX.out HBX.out.size hY)
  obtain ⟨q, hq⟩ : ∃ q, q = Y.heap.size := ⟨_, rfl⟩
  obtain ⟨Y2, hY2⟩ : ∃ Y2, Y2 = Y.alloc (.cells (tcs hd1 A c B d) 25) := ⟨_, rfl⟩
  have HQ := bx (show TX w Y2 q hd1 A c B d by rw [hq]; exact TX.new HBY.out g1 g2 hY2)
  have HE := bx hq
  have HE2 := bx hY2
  obtain ⟨g, off, x, e, _, hx, _, z7⟩ := int_at HQ.out.r2 (k := 2) (by decide)
  subst e
  have hx6 : x = -6 := by
    have : hd1.ds[2]? = some (-6) := rfl
    rw [this] at hx
    injection hx with hx
    exact hx.symm
  subst hx6
  have z0 : Y2.cell? ⟨q, 0, none⟩ = some (.int .u32 0) := HQ.out.c0
  have z1 : Y2.cell? ⟨q, 1, none⟩ = some (.int .u32 0) := HQ.out.c1
  have z2 : Y2.cell? ⟨q, 2, none⟩ = some (.int .i64 5) := HQ.out.c2
  have z3 : Y2.cell? ⟨q, 3, none⟩ = some (.int .i64 (-1)) := HQ.out.c3
  have z4 : Y2.cell? ⟨q, 4, none⟩ = some (.int .i64 0) := HQ.out.c4
  have z5 : Y2.cell? ⟨q, 5, none⟩ = some (.slice A 3 c) := HQ.out.c5
  have z6 : Y2.cell? ⟨q, 6, none⟩ = some (.slice (some ⟨g, off, none⟩) 3 d) := HQ.out.c6
  clear hY g1 g2 g3 hq hY2 hx
  go_upto_region 3 with fail
  rw [← HE2.out, ← HE.out]
  go_wp2_with fail
  refine (good_any _ hd1 Y2 HQ.out.tr).mono ?_
  rw [wake_good]
  rintro e Y3 ⟨rfl, hb⟩
  have HB3 := bx (HQ.out.run hb)
  clear hb
  go_wp2_with fail
  go_ret
  exact ⟨rfl, HB3.out.bw⟩
end Go.Proofs.Ytmedlplgeeeodaa.Tw
