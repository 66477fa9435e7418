/- What base's calls come to; no condition but the ranges in each. -/
import Derived.Test.YtlidofldkomdbaaProg
import Derived.Test.YtlidofldkomdbaaPlain
import Derived.Test.YtlidofldkomdbaaHeap
import Derived.Test.YtlidofldkomdbaaSatFn
import Derived.Lib.Hide
import Derived.Deep.RegionHeld3
namespace Go.Proofs.Ytlidofldkomdbaa.Base
open Go.RowKit Go.Proofs.Ytlidofldkomdbaa.Plain Go.Proofs.Ytlidofldkomdbaa.Heap

set_option maxHeartbeats 400000 in
theorem queue_nil (w : World) : Calls Try.prog 16 #[.pointer none] w fun e w' => e = .returned (.int .i64 0) ∧ w = w' := by
  go_enter Try.func16, Try.ntmps16
  go_wp2
  go_ret
  exact ⟨rfl, rfl⟩
set_option maxHeartbeats 400000 in
theorem least_nil (w : World) : Calls Try.prog 11 #[.pointer none] w fun e w' => e = .returned (.tuple #[.int .i64 0, .bool false]) ∧ w = w' := by
  go_enter Try.func11, Try.ntmps11
  go_wp2
  refine bodyPost_ret (v := .tuple #[.int .i64 0, .bool false]) (by simp [results, Try.results11, go_sem]) rfl ⟨rfl, rfl⟩
set_option maxHeartbeats 400000 in
theorem add_nil (at_ delay : Int) (w : World) : Calls Try.prog 10 #[.pointer none, .int .i64 at_, .int .i64 delay] w fun e w' => e = .returned (.int .i64 0) ∧ w = w' := by
  go_enter Try.func10, Try.ntmps10
  go_wp2
  go_ret
  exact ⟨rfl, rfl⟩
/-- A row: its number, its least delay, is it one? -/
abbrev Row3 : Type := Int × Int × Bool
structure BS where
  width : Int
  rows : Int
  ring : Nat → Row3
  newest : Int
  any : Bool
  queue : Int
/-- The base at block p. -/
structure BR (w : World) (p : Nat) (s : BS) : Prop where
  block : ∃ cs : Array Value, w.heap[p]? = some (.cells cs 48 (0, 0))
  width : w.cell? ⟨p, 0, none⟩ = some (.int .i64 s.width)
  rows : w.cell? ⟨p, 1, none⟩ = some (.int .i64 s.rows)
  number : ∀ i, i < 64 → w.cell? ⟨p, 2 + i * 3, none⟩ = some (.int .i64 (s.ring i).1)
  least : ∀ i, i < 64 → w.cell? ⟨p, 2 + i * 3 + 1, none⟩ = some (.int .i64 (s.ring i).2.1)
  isrow : ∀ i, i < 64 → w.cell? ⟨p, 2 + i * 3 + 2, none⟩ = some (.bool (s.ring i).2.2)
  newest : w.cell? ⟨p, 194, none⟩ = some (.int .i64 s.newest)
  any : w.cell? ⟨p, 195, none⟩ = some (.bool s.any)
  queue : w.cell? ⟨p, 196, none⟩ = some (.int .i64 s.queue)
section
variable {w : World} {p : Nat} {s : BS}
theorem BR.lt (h : BR w p s) : p < w.heap.size := by
  obtain ⟨cs, hc⟩ := h.block
  exact (Array.getElem?_eq_some_iff.1 hc).1
theorem BR.frozen (h : BR w p s) (i : Nat) : w.frozen? ⟨p, i, none⟩ = false := by
  obtain ⟨cs, hc⟩ := h.block
  simp [World.frozen?, hc]
theorem BR.kept {S : Nat → Prop} {w' : World} (h : BR w p s) (hk : Kept S w w') (hp : ¬ S p) : BR w' p s := by
  have e : ∀ i, w'.cell? ⟨p, i, none⟩ = w.cell? ⟨p, i, none⟩ := fun i => hk.cell (p := ⟨p, i, none⟩) h.lt hp
  obtain ⟨cs, hc⟩ := h.block
  exact ⟨⟨cs, (hk.block p h.lt hp).trans hc⟩, (e _).trans h.width, (e _).trans h.rows, fun i hi => (e _).trans (h.number i hi), fun i hi => (e _).trans (h.least i hi), fun i hi => (e _).trans (h.isrow i hi), (e _).trans h.newest, (e _).trans h.any, (e _).trans h.queue⟩
theorem BR.alloc (h : BR w p s) (x : Obj) : BR (w.alloc x) p s := h.kept ((Kept.refl (fun _ => False) w).alloc x) id
theorem BR.drewN (h : BR w p s) (k : Nat) : BR (w.drewN k) p s := h.kept ((Kept.refl (fun _ => False) w).drewN k) id
theorem BR.drew (h : BR w p s) : BR w.drew p s := h.kept ((Kept.refl (fun _ => False) w).drew) id
end
set_option maxHeartbeats 400000 in
theorem new_bad (width rows : Int) (w : World) (h : width < 1 ∨ 1125899906842624 < width ∨ rows < 1 ∨ 64 < rows) : Calls Try.prog 9 #[.int .i64 width, .int .i64 rows] w fun e w' => e = .returned (.tuple #[.pointer none, .int .i64 1]) ∧ w' = w := by
  have h' : width < 1 ∨ (¬ width < 1 ∧ 1125899906842624 < width) ∨ (¬ width < 1 ∧ ¬ 1125899906842624 < width ∧ rows < 1) ∨ (¬ width < 1 ∧ ¬ 1125899906842624 < width ∧ ¬ rows < 1 ∧ 64 < rows) := by omega
  clear h
  rcases h' with h | ⟨h, h2⟩ | ⟨h, h2, h3⟩ | ⟨h, h2, h3, h4⟩
  all_goals
    go_enter Try.func9, Try.ntmps9
    go_wp2
    go_ret2
    exact ⟨rfl, rfl⟩
/-- The zeros of a base. -/
def zcells : Array Value := #[.int .i64 0, .int .i64 0] ++ ((List.replicate 64 [Value.int .i64 0, .int .i64 0, .bool false]).flatten).toArray ++ #[.int .i64 0, .bool false, .int .i64 0]
def isI0 : Option Value → Bool
  | some (.int .i64 n) => n == 0
  | _ => false
def isF : Option Value → Bool
  | some (.bool b) => !b
  | _ => false
theorem isI0_eq {o : Option Value} (h : isI0 o = true) : o = some (.int .i64 0) := by
  unfold isI0 at h
  split at h
  · simp at h; rw [h]
  · cases h
theorem isF_eq {o : Option Value} (h : isF o = true) : o = some (.bool false) := by
  unfold isF at h
  split at h
  · simp at h; rw [h]
  · cases h
theorem zrows : (List.range 64).all (fun i => isI0 zcells[2 + i * 3]? && isI0 zcells[2 + i * 3 + 1]? && isF zcells[2 + i * 3 + 2]?) = true := by kernel_rfl
theorem zrow (i : Nat) (hi : i < 64) : zcells[2 + i * 3]? = some (.int .i64 0) ∧ zcells[2 + i * 3 + 1]? = some (.int .i64 0) ∧ zcells[2 + i * 3 + 2]? = some (.bool false) := by
  have h := List.all_eq_true.1 zrows i (List.mem_range.2 hi)
  simp only [Bool.and_eq_true] at h
  exact ⟨isI0_eq h.1.1, isI0_eq h.1.2, isF_eq h.2⟩
theorem zrest : isI0 zcells[194]? = true ∧ isF zcells[195]? = true ∧ isI0 zcells[196]? = true := ⟨by kernel_rfl, by kernel_rfl, by kernel_rfl⟩
theorem zsize : zcells.size = 197 := by kernel_rfl
theorem zero_info : (Try.prog.info? 48).bind (·.zero) = some (.agg zcells) := by kernel_rfl
theorem zero_run (w : World) : (zeroValue 48).run Try.prog w = .ok (.agg zcells) w := by
  have h := zero_info
  cases hi : Try.prog.info? 48 with
  | none => rw [hi] at h; cases h
  | some i =>
    rw [hi] at h
    have h' : i.zero = some (.agg zcells) := h
    simp [zeroValue, typeInfo, hi, h']
theorem zeros : ∃ zs : Array Value, (∀ w, (zeroValue 48).run Try.prog w = .ok (.agg zs) w) ∧ zs.size = 197 ∧ ¬ zs = #[] ∧ (∀ i, i < 64 → zs[2 + i * 3]? = some (.int .i64 0) ∧ zs[2 + i * 3 + 1]? = some (.int .i64 0) ∧ zs[2 + i * 3 + 2]? = some (.bool false)) ∧ zs[194]? = some (.int .i64 0) ∧ zs[195]? = some (.bool false) ∧ zs[196]? = some (.int .i64 0) :=
  ⟨zcells, zero_run, zsize, (fun h : zcells = #[] => by have h2 := zsize; rw [h] at h2; cases h2), zrow, isI0_eq zrest.1, isF_eq zrest.2.1, isI0_eq zrest.2.2⟩
set_option maxRecDepth 10000 in
set_option maxHeartbeats 400000 in
theorem new_walk (width rows : Int) (w : World) (h : ¬ width < 1) (h2 : ¬ 1125899906842624 < width) (h3 : ¬ rows < 1) (h4 : ¬ 64 < rows) : Calls Try.prog 9 #[.int .i64 width, .int .i64 rows] w fun e w' => e = .returned (.tuple #[.pointer (some ⟨w.heap.size, 0, none⟩), .int .i64 0]) ∧ BR w' w.heap.size ⟨width, rows, fun _ => (0, 0, false), 0, false, 0⟩ ∧ Below w.heap.size w w' := by
  obtain ⟨zs, hz, hn, he, hr, h194, h195, h196⟩ := zeros
  have HR := Lib.hid hr
  have H4 := Lib.hid h194
  have H5 := Lib.hid h195
  have H6 := Lib.hid h196
  clear hr h194 h195 h196
  go_enter Try.func9, Try.ntmps9
  go_wp2
  go_ret2
  refine ⟨rfl, ?_, (Below.refl _ _).alloc (Nat.le_refl _) _⟩
  have hb := heap_alloc_new w (.cells ((zs.setIfInBounds 0 (.int .i64 width)).setIfInBounds 1 (.int .i64 rows)) 48)
  have hc : ∀ i, (w.alloc (.cells ((zs.setIfInBounds 0 (.int .i64 width)).setIfInBounds 1 (.int .i64 rows)) 48)).cell? ⟨w.heap.size, i, none⟩ = ((zs.setIfInBounds 0 (.int .i64 width)).setIfInBounds 1 (.int .i64 rows))[i]? := fun i => by simp only [World.cell?, hb]; rfl
  have hc2 : ∀ i, 2 ≤ i → (w.alloc (.cells ((zs.setIfInBounds 0 (.int .i64 width)).setIfInBounds 1 (.int .i64 rows)) 48)).cell? ⟨w.heap.size, i, none⟩ = zs[i]? := fun i hi => by
    rw [hc, Array.getElem?_setIfInBounds_ne (by omega), Array.getElem?_setIfInBounds_ne (by omega)]
  exact ⟨⟨_, hb⟩, by rw [hc]; simp [hn], by rw [hc]; simp [hn], fun i hi => (hc2 _ (by omega)).trans (HR.out i hi).1, fun i hi => (hc2 _ (by omega)).trans (HR.out i hi).2.1, fun i hi => (hc2 _ (by omega)).trans (HR.out i hi).2.2, (hc2 _ (by omega)).trans H4.out, (hc2 _ (by omega)).trans H5.out, (hc2 _ (by omega)).trans H6.out⟩
set_option maxHeartbeats 400000 in
theorem queue_any (p : Nat) (w : World) (s : BS) (h : BR w p s) : Calls Try.prog 16 #[.pointer (some ⟨p, 0, none⟩)] w fun e w' => e = .returned (.int .i64 s.queue) ∧ w = w' := by
  have hq := h.queue
  have hp := h.lt
  clear h
  go_enter Try.func16, Try.ntmps16
  go_wp2
  go_ret
  exact ⟨rfl, rfl⟩
set_option maxHeartbeats 400000 in
theorem counts_any (p : Nat) (w : World) (s : BS) (h : BR w p s) (n l : Int) (a : Bool) (h0 : IntKind.i64.wrap (s.newest - s.rows) = s.newest - s.rows) : Calls Try.prog 20 #[.pointer (some ⟨p, 0, none⟩), .agg #[.int .i64 n, .int .i64 l, .bool a]] w
    fun e w' => e = .returned (.bool (a && decide (s.newest - s.rows < n))) ∧ Below w.heap.size w w' := by
  have hq := h.newest
  have hr := h.rows
  have hp := h.lt
  clear h
  cases a
  · go_enter Try.func20, Try.ntmps20
    go_wp2
    go_quiet (fail)
    go_wp2
    go_ret
    exact ⟨rfl, below_drewN ((Below.refl _ _).alloc (Nat.le_refl _) _) _⟩
  · go_enter Try.func20, Try.ntmps20
    go_wp2
    go_quiet (fail)
    go_wp2
    go_ret
    exact ⟨rfl, below_drewN ((Below.refl _ _).alloc (Nat.le_refl _) _) _⟩
/-- The least delay of the first k rows that count. -/
def lst (s : BS) : Nat → Int × Bool
  | 0 => (0, false)
  | k + 1 => if (s.ring k).2.2 = true ∧ s.newest - s.rows < (s.ring k).1 ∧ ((lst s k).2 = false ∨ (s.ring k).2.1 < (lst s k).1) then ((s.ring k).2.1, true) else lst s k
theorem block3 {w : World} {k : Nat} {x y z : Value} {t : TypeId} (h : w.heap[k]? = some (.cells #[x, y, z] t (0, 0))) :
    w.cell? ⟨k, 0, none⟩ = some x ∧ w.cell? ⟨k, 1, none⟩ = some y ∧ w.cell? ⟨k, 2, none⟩ = some z ∧ w.frozen? ⟨k, 0, none⟩ = false ∧ w.frozen? ⟨k, 1, none⟩ = false ∧ w.frozen? ⟨k, 2, none⟩ = false := by
  refine ⟨by simp [World.cell?, h], by simp [World.cell?, h], by simp [World.cell?, h], by simp [World.frozen?, h], by simp [World.frozen?, h], by simp [World.frozen?, h]⟩
theorem ring_slice (p R : Nat) (hR : 1 ≤ R) (hR2 : R ≤ 64) (w : World) : (Instr.sliceAt 46 (.pointer (some ⟨p, 2, none⟩)) none (some (.int .i64 (R : Int))) none).run Try.prog w = .ok (.slice (some ⟨p, 2, none⟩) R 64) w := by
  rw [run_sliceAt_array_h w 46 ⟨p, 2, none⟩ (by kernel_rfl) .i64 (R : Int) (by omega) (by
    have : Try.prog.arrayLen 46 = 64 := by kernel_rfl
    rw [this]; omega)]
  have hs : (sizeOf (Try.prog.elem 46)).run Try.prog w = .ok 3 w := by
    simp [go_sem]
  have ha : Try.prog.arrayLen 46 = 64 := by kernel_rfl
  rw [ha, hs]
  simp [slicedAt, Addr.add]
set_option maxRecDepth 10000 in
set_option maxHeartbeats 1000000 in
theorem least_any (p : Nat) (w : World) (s : BS) (h : BR w p s) (R : Nat) (hR : s.rows = (R : Int)) (hR1 : 1 ≤ R) (hR2 : R ≤ 64) (h0 : IntKind.i64.wrap (s.newest - s.rows) = s.newest - s.rows) : Calls Try.prog 11 #[.pointer (some ⟨p, 0, none⟩)] w
    fun e w' => e = .returned (.tuple #[.int .i64 (lst s R).1, .bool (lst s R).2]) ∧ Below w.heap.size w w' := by
  have hq := h.newest
  have hr := h.rows
  rw [hR] at hr
  have hp := h.lt
  have H := Lib.hid h
  have hs := ring_slice p R hR1 hR2
  clear h
  go_enter Try.func11, Try.ntmps11
  go_wp2
  go_region
  go_wp2
  clear hs
  go_loopw [4, 5, 19] (fun l a i wr => ∃ k : Nat, k ≤ R ∧ i = .int .i64 k ∧ l = .int .i64 (lst s k).1 ∧ a = .bool (lst s k).2 ∧ Below w.heap.size w wr) (fun _ _ i _ => R - (intOf i).toNat)
  case atStart => exact ⟨0, by omega, rfl, rfl, rfl, below_drewN (Below.refl _ _) 1⟩
  case round =>
    obtain ⟨k, hk, rfl, rfl, rfl, hb⟩ := hrel
    have HB := Lib.hid hb
    have H2 := Lib.hid (H.out.kept (Kept.of_below (S := fun _ => False) hb) id)
    by_cases hlt : k < R
    · have x0 := H2.out.number k (by omega)
      have x1 := H2.out.least k (by omega)
      have x2 := H2.out.isrow k (by omega)
      have hp2 := H2.out.lt
      have e0 : lst s (k + 1) = if (s.ring k).2.2 = true ∧ s.newest - s.rows < (s.ring k).1 ∧ ((lst s k).2 = false ∨ (s.ring k).2.1 < (lst s k).1) then ((s.ring k).2.1, true) else lst s k := rfl
      have E := Lib.hid e0
      clear e0 hb
      generalize (s.ring k).1 = a0 at *
      generalize (s.ring k).2.1 = a1 at *
      generalize (s.ring k).2.2 = a2 at *
      generalize lst s k = L at *
      generalize hLL : lst s (k + 1) = L' at *
      have HL := Lib.hid hLL
      clear hLL
      obtain ⟨l0, l1⟩ := L
      by_cases hc : (a2 && decide (s.newest - s.rows < a0)) = true
      · have hc' : a2 = true ∧ s.newest - s.rows < a0 := by simpa using hc
        have HC := Lib.hid hc
        have HC' := Lib.hid hc'
        clear hc hc'
        cases l1
        · have EE := Lib.hid (E.out.trans (if_pos ⟨HC'.out.1, HC'.out.2, .inl rfl⟩))
          go_wp2_with fail
          refine (counts_any p _ s (H2.out.alloc _) a0 a1 a2 h0).mono ?_
          rintro e w1 ⟨rfl, h1⟩
          rw [HC.out]
          obtain ⟨r0, r1, r2, _⟩ := block3 ((h1.block wr.heap.size (by simp)).trans (heap_alloc_new wr (.cells #[.int .i64 a0, .int .i64 a1, .bool a2] 45)))
          have H3 := Lib.hid (below_then (HB.out.alloc HB.out.size _) (by have := HB.out.size; simp; omega) h1)
          clear h1
          go_wp2
          go_roundw
          case rel => exact ⟨k + 1, by omega, by go_num, by rw [HL.out, EE.out], by rw [HL.out, EE.out], H3.out⟩
          case measure => simp [intOf]; omega
        · by_cases hl : a1 < l0
          · have EE := Lib.hid (E.out.trans (if_pos ⟨HC'.out.1, HC'.out.2, .inr hl⟩))
            go_wp2_with fail
            refine (counts_any p _ s (H2.out.alloc _) a0 a1 a2 h0).mono ?_
            rintro e w1 ⟨rfl, h1⟩
            rw [HC.out]
            obtain ⟨r0, r1, r2, _⟩ := block3 ((h1.block wr.heap.size (by simp)).trans (heap_alloc_new wr (.cells #[.int .i64 a0, .int .i64 a1, .bool a2] 45)))
            have H3 := Lib.hid (below_then (HB.out.alloc HB.out.size _) (by have := HB.out.size; simp; omega) h1)
            clear h1
            go_wp2
            go_roundw
            case rel => exact ⟨k + 1, by omega, by go_num, by rw [HL.out, EE.out], by rw [HL.out, EE.out], H3.out⟩
            case measure => simp [intOf]; omega
          · have EE := Lib.hid (E.out.trans (if_neg (fun h => by
              rcases h.2.2 with h | h
              · cases h
              · exact hl h)))
            go_wp2_with fail
            refine (counts_any p _ s (H2.out.alloc _) a0 a1 a2 h0).mono ?_
            rintro e w1 ⟨rfl, h1⟩
            rw [HC.out]
            obtain ⟨r0, r1, r2, _⟩ := block3 ((h1.block wr.heap.size (by simp)).trans (heap_alloc_new wr (.cells #[.int .i64 a0, .int .i64 a1, .bool a2] 45)))
            have H3 := Lib.hid (below_then (HB.out.alloc HB.out.size _) (by have := HB.out.size; simp; omega) h1)
            clear h1
            go_wp2
            go_roundw
            case rel => exact ⟨k + 1, by omega, by go_num, by rw [HL.out, EE.out], by rw [HL.out, EE.out], H3.out⟩
            case measure => simp [intOf]; omega
      · have hc0 : (a2 && decide (s.newest - s.rows < a0)) = false := by simpa using hc
        have HC := Lib.hid hc0
        have EE := Lib.hid (E.out.trans (if_neg (fun h => hc (by simp [h.1, h.2.1]))))
        clear hc hc0
        go_wp2_with fail
        refine (counts_any p _ s (H2.out.alloc _) a0 a1 a2 h0).mono ?_
        rintro e w1 ⟨rfl, h1⟩
        rw [HC.out]
        obtain ⟨r0, r1, r2, _⟩ := block3 ((h1.block wr.heap.size (by simp)).trans (heap_alloc_new wr (.cells #[.int .i64 a0, .int .i64 a1, .bool a2] 45)))
        have H3 := Lib.hid (below_then (HB.out.alloc HB.out.size _) (by have := HB.out.size; simp; omega) h1)
        clear h1
        go_wp2
        go_roundw
        case rel => exact ⟨k + 1, by omega, by go_num, by rw [HL.out, EE.out], by rw [HL.out, EE.out], H3.out⟩
        case measure => simp [intOf]; omega
    · obtain rfl : k = R := by omega
      go_wp2
      refine bodyPost_ret (v := .tuple #[.int .i64 (lst s k).1, .bool (lst s k).2]) (by simp [results, Try.results11, go_sem]) rfl ⟨rfl, HB.out⟩
end Go.Proofs.Ytlidofldkomdbaa.Base
