/- The laws of rtp: what the calls in them come to; no condition but that the arguments are of their kinds. -/
import Derived.Test.YtccljgohekmjkaaRtpEnc2
import Derived.Test.YtccljgohekmjkaaRtpEnc3
import Derived.Test.YtccljgohekmjkaaRtpCopy
import Derived.Test.YtccljgohekmjkaaRtpSame
import Derived.Test.YtccljgohekmjkaaRtpDec4
namespace Go.Proofs.Ytccljgohekmjkaa.Rtp
open Go.RowKit Go.Proofs.Ytccljgohekmjkaa.Plain Go.Proofs.Ytccljgohekmjkaa.Heap Go.Proofs.Ytccljgohekmjkaa.Open Go.Proofs.Ytccljgohekmjkaa.Rows Go.Proofs.Ytccljgohekmjkaa.Bits

def hd1 : Hd := (false, 96, 1, 2, 3, [], [])
def t1 : ByteArray := ⟨#[128, 96, 0, 1, 0, 0, 0, 2, 0, 0, 0, 3, 109, 111, 114, 101]⟩
theorem wake_enc : encR hd1 = (⟨#[128, 96, 0, 1, 0, 0, 0, 2, 0, 0, 0, 3]⟩, 0) := by kernel_rfl
theorem wake_dec : decH t1 = (hd1, 12, 0) := by kernel_rfl
theorem wake_ok : okH hd1 := ⟨by decide, by decide, by decide, by decide, by decide, by decide, by decide, by decide, (fun x hx => by cases hx), (fun x hx => by cases hx)⟩
theorem wake_hr (w : World) : HR w (.agg #[.bool false, .int .i64 96, .int .i64 1, .int .u32 2, .int .u32 3, .slice none 0 0, .slice none 0 0]) hd1 :=
  ⟨none, 0, none, 0, rfl, ⟨rfl, fun h => absurd h (Nat.lt_irrefl _)⟩, ⟨rfl, fun h => absurd h (Nat.lt_irrefl _)⟩⟩
set_option maxRecDepth 10000 in
set_option maxHeartbeats 2000000 in
theorem wakes_any (w : World) : Calls Try.prog 9 #[] w fun e w' => e = .returned (.bool true) ∧ Below w.heap.size w w' := by
  go_enter Try.func9, Try.ntmps9
  go_wp2_with fail
  refine (encode_any _ hd1 w (wake_hr w) wake_ok).mono ?_
  rw [wake_enc]
  rintro e X ⟨rfl, hX⟩
  have HBX := Lib.hid hX
  clear hX
  go_wp2_with fail
  refine (decode_any t1 X (by decide)).mono ?_
  unfold DecPost
  rw [wake_dec]
  rintro e Y ⟨v, rfl, ⟨A, c, B, d, rfl, g1, g2⟩, hY⟩
  have HBY := Lib.hid (below_then HBX.out HBX.out.size hY)
  obtain ⟨q, hq⟩ : ∃ q, q = Y.heap.size := ⟨_, rfl⟩
  obtain ⟨Y2, hY2⟩ : ∃ Y2, Y2 = Y.alloc (.cells (hcs hd1 A c B d) 26) := ⟨_, rfl⟩
  have HQ := Lib.hid (show HX w Y2 q hd1 A c B d by rw [hq]; exact HX.new HBY.out g1 g2 hY2)
  have HE := Lib.hid hq
  have HE2 := Lib.hid hY2
  have z1 : Y2.cell? ⟨q, 1, none⟩ = some (.int .i64 96) := HQ.out.c1
  clear hY g1 g2 hq hY2
  go_upto_region 3 with fail
  rw [← HE2.out, ← HE.out]
  go_wp2_with fail
  go_ret
  exact ⟨rfl, HQ.out.bw⟩
end Go.Proofs.Ytccljgohekmjkaa.Rtp
