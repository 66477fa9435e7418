/- The extensions, as the program reads them; no condition but the ranges in each. -/
import Derived.Test.YtccljgohekmjkaaRtpRead
import Derived.Test.YtccljgohekmjkaaRtpDec
import Derived.Test.YtccljgohekmjkaaScope
import Derived.Deep.OwnRows
import Derived.Laws.IdiomStrings
namespace Go.Proofs.Ytccljgohekmjkaa.Rtp
open Go.RowKit Go.Proofs.Ytccljgohekmjkaa.Plain Go.Proofs.Ytccljgohekmjkaa.Heap Go.Proofs.Ytccljgohekmjkaa.Open Go.Proofs.Ytccljgohekmjkaa.Rows Go.Proofs.Ytccljgohekmjkaa.Bits

theorem info_u8 : (Try.prog.info? 5).map (fun i => (i.zero, i.size, i.bytes)) = some (some (.int .u8 0), 1, 1) := by kernel_rfl
theorem info_ext : (Try.prog.info? 47).map (fun i => (i.zero, i.size, i.bytes)) = some (some (.agg #[.int .i64 0, .string ByteArray.empty]), 2, 24) := by kernel_rfl
theorem sub_byte {s : ByteArray} {q n j : Nat} (h : q + n ≤ s.size) (hj : j < (sub s q n).data.toList.length) : ((sub s q n).data.toList[j].toNat : Int) = val s (8 * (q + j)) 8 := by
  have hl : j < n := by rw [Array.length_toList, show (sub s q n).data.size = n from sub_size h] at hj; exact hj
  rw [val_byte]
  congr 1
  unfold by8
  rw [List.getD_eq_getElem?_getD, List.getElem?_eq_getElem (by rw [Array.length_toList]; show q + j < s.size; omega)]
  simp [sub, ByteArray.data_extract]
theorem conv_sub {w : World} {b n cap : Nat} {s : ByteArray} {q : Nat} (hr : w.rowIs b 5 n (fun j => .int .u8 (val s (8 * (q + j)) 8))) (h : q + n ≤ s.size) :
    (convert 65 9 (.slice (some ⟨b, 0, none⟩) n cap)).run Try.prog w = .ok (.string (sub s q n)) w := by
  have hl : (sub s q n).data.toList.length = n := by rw [Array.length_toList, show (sub s q n).data.size = n from sub_size h]
  have hk := run_convert_bytes_back (P := Try.prog) w 65 9 5 ⟨b, 0, none⟩ cap (sub s q n).data.toList Try.underlying65 Try.underlying5 Try.underlying9 (fun j hj => by
    rw [sub_byte h hj, addr_lit, Nat.zero_add]
    exact hr.cell (by rw [← hl]; exact hj))
  rw [hl] at hk
  exact hk
/-- What the extensions come to. -/
def ExtPost (s : ByteArray) (q0 p : Nat) (w : World) (e : Ending) (w' : World) : Prop := match decE s q0 with
  | .error c => e = .returned (.tuple #[.slice none 0 0, .int .i64 c]) ∧ Kept (fun k => k = p) w w'
  | .ok x => ∃ A c, e = .returned (.tuple #[.slice A x.1.length c, .int .i64 0]) ∧ RW w' 2 (.slice A x.1.length c) x.1.length (flatX x.1) ∧ (∀ g, isAt (.slice A x.1.length c) g → w.heap.size ≤ g) ∧ ST w' p s (8 * x.2) ∧ x.2 ≤ s.size ∧ Kept (fun k => k = p) w w'
theorem ext_err {s : ByteArray} {q0 p : Nat} {w w' : World} {c : Int} (h : decE s q0 = .error c) (hk : Kept (fun k => k = p) w w') : ExtPost s q0 p w (.returned (.tuple #[.slice none 0 0, .int .i64 c])) w' := by
  unfold ExtPost
  rw [h]
  exact ⟨rfl, hk⟩
def JE (s : ByteArray) (w : World) (p q0 : Nat) (act : Act) (w' : World) : Prop :=
  ∃ (q left f : Nat) (l : List X2) (lv : Value), act.defers = [] ∧ act.tmps.size = 99 ∧ act.tmps.getD 0 undef = .pointer (some ⟨p, 0, none⟩) ∧ act.tmps.getD 5 undef = .int .i64 (left : Int) ∧ act.tmps.getD 6 undef = lv ∧ act.tmps.getD 7 undef = .int .i64 ((mask l : Nat) : Int) ∧
    ST w' p s (8 * q) ∧ q ≤ s.size ∧ left < f ∧ decE s q0 = decX s f q left l ∧ goodTo l l.length = true ∧ RW w' 2 lv l.length (flatX l) ∧ (∀ g, isAt lv g → w.heap.size ≤ g) ∧ l.length + left ≤ 300000 ∧ Kept (fun k => k = p) w w'
def muE (act : Act) (_ : World) : Nat := (intOf (act.tmps.getD 5 undef)).toNat
theorem range99 : List.range 99 = [0, 1, 2, 3, 4, 5, 6, 7, 8, 9, 10, 11, 12, 13, 14, 15, 16, 17, 18, 19, 20, 21, 22, 23, 24, 25, 26, 27, 28, 29, 30, 31, 32, 33, 34, 35, 36, 37, 38, 39, 40, 41, 42, 43, 44, 45, 46, 47, 48, 49, 50, 51, 52, 53, 54, 55, 56, 57, 58, 59, 60, 61, 62, 63, 64, 65, 66, 67, 68, 69, 70, 71, 72, 73, 74, 75, 76, 77, 78, 79, 80, 81, 82, 83, 84, 85, 86, 87, 88, 89, 90, 91, 92, 93, 94, 95, 96, 97, 98] := rfl
theorem short_any {s : ByteArray} {r p : Nat} {c : Int} {w : World} (hw : ST w p s r) :
    Calls Try.prog 38 #[.pointer (some ⟨p, 0, none⟩), .int .i64 c] w fun e w' => e = .returned (.int .i64 (if 8 * s.size < r then 60 else c)) ∧ ST w' p s r ∧ Kept (fun _ => False) w w' := by
  have HB := Lib.hid (bad_st hw)
  clear hw
  go_enter Try.func38, Try.ntmps38
  go_wp2_with fail
  refine HB.out.mono ?_
  rintro e w1 ⟨rfl, h1, h2⟩
  have H1 := Lib.hid h1
  have H2 := Lib.hid h2
  clear h1 h2
  by_cases hc : 8 * s.size < r
  · rw [decide_eq_true hc]
    have HC := Lib.hid hc
    clear hc
    go_wp2_with fail
    go_ret
    exact ⟨rfl, H1.out, H2.out⟩
  · rw [decide_eq_false hc]
    have HC := Lib.hid hc
    clear hc
    go_wp2_with fail
    go_ret
    exact ⟨rfl, H1.out, H2.out⟩
theorem goodTo_push {l : List X2} {x : X2} (h : goodTo l l.length = true) (h1 : goodX x = true) (h2 : hasId l x.1 = false) : goodTo (l ++ [x]) (l.length + 1) = true := by
  have e : ∀ i, i ≤ l.length → goodTo (l ++ [x]) i = goodTo l i := by
    intro i hi
    induction i with
    | zero => rfl
    | succ i ih =>
      simp only [goodTo, ih (by omega)]
      rw [List.getElem?_append_left (by omega), List.take_append_of_le_length (by omega)]
  refine goodTo_succ (x := x) (by simp) (by rw [e _ (Nat.le_refl _)]; exact h) h1 ?_
  rw [List.take_append_of_le_length (Nat.le_refl _), List.take_length]
  exact h2
theorem rd_blk2 (w : World) (t : TypeId) (x y : Value) : Rd (w.alloc (.cells #[x, y] t)) 2 (some ⟨w.heap.size, 0, none⟩) 1 [x, y] := Rd.block (heap_alloc_new w _) rfl
end Go.Proofs.Ytccljgohekmjkaa.Rtp
