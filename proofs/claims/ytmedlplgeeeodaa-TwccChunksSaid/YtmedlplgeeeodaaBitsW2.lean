/- The rest of the writers of bits: Put, Align, Text, Write; no condition but the ranges in each. -/
import Derived.Test.YtmedlplgeeeodaaBitsW
import Derived.Lib.ConvBytes
import Derived.Laws.BytesArg
namespace Go.Proofs.Ytmedlplgeeeodaa.Bits
open Go.RowKit Go.Proofs.Ytmedlplgeeeodaa.Plain Go.Proofs.Ytmedlplgeeeodaa.Heap

/-- What a call on a writer may change: its own blocks, and what is new. -/
def Fr (w w' : World) (p : Nat) (g g' : Option Nat) : Prop := Kept (fun k => k = p ∨ g = some k) w w' ∧ (g' = g ∨ ∃ k, g' = some k ∧ w.heap.size ≤ k)
theorem Fr.refl (w : World) (p : Nat) (g : Option Nat) : Fr w w p g g := ⟨Kept.refl _ _, .inl rfl⟩
theorem Fr.trans {a b c : World} {p : Nat} {g g' g'' : Option Nat} (h : Fr a b p g g') (k : Fr b c p g' g'') : Fr a c p g g'' := by
  refine ⟨h.1.trans k.1 (fun i hi hs => ?_), ?_⟩
  · rcases hs with hs | hs
    · exact .inl hs
    · rcases h.2 with h2 | ⟨j, h2, h3⟩
      · exact .inr (h2 ▸ hs)
      · rw [h2] at hs; injection hs with hs; omega
  · rcases k.2 with k2 | ⟨j, k2, k3⟩
    · rw [k2]; exact h.2
    · exact .inr ⟨j, k2, Nat.le_trans h.1.size k3⟩
theorem Fr.drewN {a b : World} {p : Nat} {g g' : Option Nat} (h : Fr a b p g g') (n : Nat) : Fr a (b.drewN n) p g g' := ⟨h.1.drewN n, h.2⟩

/-- The lower n bits of a number, the highest first. -/
def bitsOf (v : Int) (n : Nat) : List Int := (List.range n).map fun j => v / 2 ^ (n - 1 - j) % 2
theorem bitsOf_length (v : Int) (n : Nat) : (bitsOf v n).length = n := by simp [bitsOf]
theorem bitsOf_snoc (v : Int) (n k : Nat) (h : k < n) : (bitsOf v n).take k ++ [v / 2 ^ (n - 1 - k) % 2] = (bitsOf v n).take (k + 1) := by
  rw [List.take_succ_eq_append_getElem (by rw [bitsOf_length]; exact h)]
  simp [bitsOf]
theorem bitsOf_bits (v : Int) (n : Nat) : IsBits (bitsOf v n) := by
  intro x hx
  simp only [bitsOf, List.mem_map] at hx
  obtain ⟨j, _, rfl⟩ := hx
  omega
def puts (L : List Int) (v n : Int) : List Int := if n < 0 ∨ 32 < n ∨ 524288 < (L.length : Int) + n then L else L ++ bitsOf v n.toNat
/-- The k-th bit to be put, as the walk spells it. -/
theorem put_bit (v : Int) (m : Nat) (hv : 0 ≤ v) (hv' : v < 4294967296) : Go.bits .and .u32 (v / 2 ^ m) 1 = v / 2 ^ m % 2 := by
  obtain ⟨V, rfl⟩ := Int.eq_ofNat_of_zero_le hv
  have e : (V : Int) / 2 ^ m = ((V / 2 ^ m : Nat) : Int) := by simp
  have hb : V / 2 ^ m ≤ V := Nat.div_le_self _ _
  rw [e]
  generalize V / 2 ^ m = q at *
  rw [u32_and _ _ (by omega) (by omega) (by omega) (by omega), Int.toNat_natCast]
  show ((q &&& 1 : Nat) : Int) = _
  rw [nat_mask1]
  omega
theorem one_fr (L : List Int) (b : Int) (p : Nat) (g : Option Nat) (w : World) (hb : b = 0 ∨ b = 1) (hw : WR 70 w p g L) (hn : L.length < 1000000) :
    Calls Try.prog 41 #[.pointer (some ⟨p, 0, none⟩), .int .u32 b] w fun e w' => e = .returned (.tuple #[]) ∧ ∃ g', WR 70 w' p g' (L ++ [b]) ∧ Fr w w' p g g' :=
  (one_any L b p g w hb hw hn).mono fun _ _ ⟨h1, g', h2, h3, h4⟩ => ⟨h1, g', h2, h3, h4⟩
theorem bit_fr (L : List Int) (b : Int) (p : Nat) (g : Option Nat) (w : World) (hb : b = 0 ∨ b = 1) (hw : WR 74 w p g L) (hn : L.length < 1000000) :
    Calls Try.prog 46 #[.pointer (some ⟨p, 0, none⟩), .int .u8 b] w fun e w' => e = .returned (.tuple #[]) ∧ ∃ g', WR 74 w' p g' (L ++ [b]) ∧ Fr w w' p g g' :=
  (bit_any L b p g w hb hw hn).mono fun _ _ ⟨h1, g', h2, h3, h4⟩ => ⟨h1, g', h2, h3, h4⟩
theorem WR.cell1 {t : TypeId} {w : World} {p : Nat} {g : Option Nat} {L : List Int} (h : WR t w p g L) : w.cell? ⟨p, 1, none⟩ = some (.int .i64 (L.length : Int)) := by
  obtain ⟨_, _, v, _, hc, _⟩ := h
  exact (WR.parts hc).2.1

set_option maxHeartbeats 1000000 in
theorem put_no (L : List Int) (v n : Int) (p : Nat) (g : Option Nat) (w : World) (hw : WR 70 w p g L) (hn : n < 0 ∨ 32 < n ∨ 524288 < (L.length : Int) + n) (hL : L.length ≤ 524288) :
    Calls Try.prog 19 #[.pointer (some ⟨p, 0, none⟩), .int .u32 v, .int .i64 n] w fun e w' => e = .returned (.tuple #[]) ∧ w = w' := by
  have hc1 := hw.cell1
  have hn' : n < 0 ∨ (0 ≤ n ∧ 32 < n) ∨ (0 ≤ n ∧ n ≤ 32 ∧ 524288 < (L.length : Int) + n) := by omega
  clear hw hn
  rcases hn' with h | ⟨h, h'⟩ | ⟨h, h', h''⟩
  all_goals
    go_enter Try.func19, Try.ntmps19
    go_wp2
    go_step3
    go_wp2
    rw [Exit.noGoto_ret]
    refine bodyPost_ret (results_none rfl _ _ _) rfl ⟨rfl, rfl⟩
def JP (w : World) (p : Nat) (g : Option Nat) (L : List Int) (v : Int) (n : Nat) (act : Act) (w' : World) : Prop :=
  ∃ (k : Nat) (g' : Option Nat), k ≤ n ∧ act.defers = [] ∧ act.tmps.size = 35 ∧ act.tmps.getD 0 undef = .pointer (some ⟨p, 0, none⟩) ∧ act.tmps.getD 1 undef = .int .u32 v ∧ act.tmps.getD 2 undef = .int .i64 ((n - k : Nat) : Int) ∧
    WR 70 w' p g' (L ++ (bitsOf v n).take k) ∧ Fr w w' p g g'
def muP (act : Act) (_ : World) : Nat := (intOf (act.tmps.getD 2 undef)).toNat
theorem range35 : List.range 35 = [0, 1, 2, 3, 4, 5, 6, 7, 8, 9, 10, 11, 12, 13, 14, 15, 16, 17, 18, 19, 20, 21, 22, 23, 24, 25, 26, 27, 28, 29, 30, 31, 32, 33, 34] := rfl
set_option maxHeartbeats 4000000 in
theorem put_yes (L : List Int) (v : Int) (n p : Nat) (g : Option Nat) (w : World) (hw : WR 70 w p g L) (hn : n ≤ 32) (hn' : L.length + n ≤ 524288) (hv : 0 ≤ v) (hv' : v < 4294967296) :
    Calls Try.prog 19 #[.pointer (some ⟨p, 0, none⟩), .int .u32 v, .int .i64 (n : Int)] w fun e w' => e = .returned (.tuple #[]) ∧ ∃ g', WR 70 w' p g' (L ++ bitsOf v n) ∧ Fr w w' p g g' := by
  have hc1 := hw.cell1
  have HW := Lib.hid hw
  clear hw
  go_enter Try.func19, Try.ntmps19
  go_wp2
  refine wp_scope_jumps 0 (JP w p g L v n) muP rfl ?_ ?_
  · rcases Nat.eq_zero_or_pos n with h0 | h0
    · subst h0
      go_wp2
      go_step3
      go_wp2
      simp only [Exit.jump]
      go_end0
      exact ⟨rfl, g, by simpa [bitsOf] using HW.out, Fr.refl _ _ _⟩
    · obtain ⟨m, rfl⟩ : ∃ m, n = m + 1 := ⟨n - 1, by omega⟩
      have hb := put_bit v m hv hv'
      have hbb : v / 2 ^ m % 2 = 0 ∨ v / 2 ^ m % 2 = 1 := by omega
      have HB := Lib.hid hbb
      have HS := Lib.hid (bitsOf_snoc v (m + 1) 0 (by omega))
      clear hbb
      go_wp2
      go_step3
      go_wp2_with (go_at_call 41; refine (one_fr L _ p g w HB.out HW.out (by omega)).mono ?_; rintro e w1 ⟨rfl, g1, hw1, hf1⟩; have HW1 := Lib.hid hw1; have HF1 := Lib.hid hf1; clear hw1 hf1)
      go_step3
      refine ⟨rfl, 1, g1, by omega, rfl, rfl, rfl, rfl, ?_, ?_, HF1.out⟩
      · show Value.int .i64 (m : Int) = _
        congr 2
      · have h := HS.out
        rw [Nat.add_sub_cancel, Nat.sub_zero, List.take_zero, List.nil_append] at h
        rw [← h]
        exact HW1.out
  · clear hc1
    rintro ⟨ts, ds⟩ w' ⟨k, g', hk, hd, hsz, t0, t1, t2, hR, hF⟩
    obtain rfl : ds = [] := hd
    obtain ⟨f, hf, hts⟩ := arr_fun ts 35 hsz
    have f0 : f 0 = .pointer (some ⟨p, 0, none⟩) := (hf 0 (by omega)).trans t0
    have f1 : f 1 = .int .u32 v := (hf 1 (by omega)).trans t1
    have f2 : f 2 = .int .i64 ((n - k : Nat) : Int) := (hf 2 (by omega)).trans t2
    rw [range35] at hts
    simp only [List.map_cons, List.map_nil, f0, f1, f2] at hts
    subst hts
    have HR := Lib.hid hR
    have HF := Lib.hid hF
    clear hf t0 t1 t2 hsz f0 f1 f2 hR hF
    by_cases hlt : k < n
    · obtain ⟨m, hm⟩ : ∃ m, n - k = m + 1 := ⟨n - k - 1, by omega⟩
      rw [hm]
      have hb := put_bit v m hv hv'
      have hbb : v / 2 ^ m % 2 = 0 ∨ v / 2 ^ m % 2 = 1 := by omega
      have HB := Lib.hid hbb
      have HS := Lib.hid (bitsOf_snoc v n k hlt)
      have HM : Hid (n - 1 - k = m) := show n - 1 - k = m by omega
      have HK : Hid (n - (k + 1) = m) := show n - (k + 1) = m by omega
      have hl : (L ++ (bitsOf v n).take k).length < 1000000 := by
        rw [List.length_append, List.length_take, bitsOf_length]; omega
      have HL := Lib.hid hl
      have hm2 : m < 32 := by omega
      clear hbb hm hl
      go_wp2_with (go_at_call 41; refine (one_fr (L ++ (bitsOf v n).take k) _ p g' w' HB.out HR.out HL.out).mono ?_; rintro e w1 ⟨rfl, g1, hw1, hf1⟩; have HW1 := Lib.hid hw1; have HF1 := Lib.hid hf1; clear hw1 hf1)
      go_step3
      refine ⟨rfl, ⟨k + 1, g1, by omega, rfl, rfl, rfl, rfl, ?_, ?_, HF.out.trans HF1.out⟩, ?_⟩
      · show Value.int .i64 (m : Int) = _
        rw [HK.out]
      · have h := HS.out
        rw [HM.out] at h
        rw [← h, ← List.append_assoc]
        exact HW1.out
      · simp [muP, intOf]
    · have hkn : k = n := by omega
      subst hkn
      rw [Nat.sub_self]
      go_wp2
      simp only [Exit.jump]
      go_end0
      have h := HR.out
      rw [List.take_of_length_le (by rw [bitsOf_length]; exact Nat.le_refl _)] at h
      exact ⟨rfl, g', h, HF.out⟩
theorem put_any (L : List Int) (v n : Int) (p : Nat) (g : Option Nat) (w : World) (hw : WR 70 w p g L) (hL : L.length ≤ 524288) (hv : 0 ≤ v) (hv' : v < 4294967296) :
    Calls Try.prog 19 #[.pointer (some ⟨p, 0, none⟩), .int .u32 v, .int .i64 n] w fun e w' => e = .returned (.tuple #[]) ∧ ∃ g', WR 70 w' p g' (puts L v n) ∧ Fr w w' p g g' := by
  unfold puts
  by_cases hn : n < 0 ∨ 32 < n ∨ 524288 < (L.length : Int) + n
  · rw [if_pos hn]
    exact (put_no L v n p g w hw hn hL).mono fun e w' ⟨h1, h2⟩ => by subst h2; exact ⟨h1, g, hw, Fr.refl _ _ _⟩
  · rw [if_neg hn]
    obtain ⟨m, rfl⟩ := Int.eq_ofNat_of_zero_le (show 0 ≤ n by omega)
    exact put_yes L v m p g w hw (by omega) (by omega) hv hv'
theorem puts_le (L : List Int) (v n : Int) (hL : L.length ≤ 524288) : (puts L v n).length ≤ 524288 := by
  unfold puts
  split
  · exact hL
  · rw [List.length_append, bitsOf_length]; omega
/-- The text of bits. -/
def txt (L : List Int) : ByteArray := strOfNums (pk L)
theorem conv_own {w : World} {base n : Nat} {e' : TypeId} {v : Value} {xs : List Int} (h : w.ownsRow base e' 1 v n (nums .u8 xs)) : (convert 68 9 v).run Try.prog w = .ok (.string (strOfNums xs)) w := by
  have hl : xs.length = n := by have := h.1; simpa [nums] using this
  rcases h.2 with ⟨rfl, rfl⟩ | ⟨g, cap, cur, rfl, _⟩
  · obtain rfl : xs = [] := List.eq_nil_of_length_eq_zero hl
    exact run_convert_bytes_nil w 68 5 Try.underlying68 Try.underlying5 0 0 9 Try.underlying9
  · refine run_convert_bytes_arg w 68 5 Try.underlying68 Try.underlying5 g 0 n cap xs hl (fun i hi => ?_) 9 Try.underlying9
    have hc := h.cells (g := g) rfl i (.int .u8 (xs.getD i 0)) (by simp [nums, List.getElem?_eq_getElem (show i < xs.length by omega), List.getD_eq_getElem?_getD])
    have ha : (⟨g, 0, none⟩ : Addr).add i = ⟨g, 0 + i, none⟩ := by unfold Addr.add; split <;> simp_all
    rwa [ha] at hc
set_option maxHeartbeats 1000000 in
theorem text_any (L : List Int) (p : Nat) (g : Option Nat) (w : World) (hw : WR 70 w p g L) :
    Calls Try.prog 22 #[.pointer (some ⟨p, 0, none⟩)] w fun e w' => e = .returned (.string (txt L)) ∧ w = w' := by
  obtain ⟨hL, hgp, v, hv, hcell, hown⟩ := hw
  obtain ⟨hc0, hc1, hf0, hf1, hp⟩ := WR.parts hcell
  have hcv := conv_own hown
  clear hcell hown hv hgp
  go_enter Try.func22, Try.ntmps22
  go_wp2
  go_ret
  exact ⟨rfl, rfl⟩
set_option maxHeartbeats 1000000 in
theorem ref_text_any (L : List Int) (p : Nat) (g : Option Nat) (w : World) (hw : WR 74 w p g L) :
    Calls Try.prog 28 #[.pointer (some ⟨p, 0, none⟩)] w fun e w' => e = .returned (.string (txt L)) ∧ w = w' := by
  obtain ⟨hL, hgp, v, hv, hcell, hown⟩ := hw
  obtain ⟨hc0, hc1, hf0, hf1, hp⟩ := WR.parts hcell
  have hcv := conv_own hown
  clear hcell hown hv hgp
  go_enter Try.func28, Try.ntmps28
  go_wp2
  go_ret
  exact ⟨rfl, rfl⟩
theorem WR.new (t : TypeId) (w : World) : WR t (w.alloc (.cells #[.slice none 0 0, .int .i64 0] t)) w.heap.size none [] :=
  ⟨by intro x h; simp at h, by simp, Value.slice none 0 0, rfl, heap_alloc_new w _, World.ownsRow_nil _ _ _ _⟩
set_option maxHeartbeats 400000 in
theorem write_any (w : World) : Calls Try.prog 18 #[] w fun e w' => e = .returned (.pointer (some ⟨w.heap.size, 0, none⟩)) ∧ w' = w.alloc (.cells #[.slice none 0 0, .int .i64 0] 70) := by
  go_enter Try.func18, Try.ntmps18
  go_wp2
  go_ret
  exact ⟨rfl, rfl⟩
set_option maxHeartbeats 400000 in
theorem ref_write_any (w : World) : Calls Try.prog 23 #[] w fun e w' => e = .returned (.pointer (some ⟨w.heap.size, 0, none⟩)) ∧ w' = w.alloc (.cells #[.slice none 0 0, .int .i64 0] 74) := by
  go_enter Try.func23, Try.ntmps23
  go_wp2
  go_ret
  exact ⟨rfl, rfl⟩
set_option maxHeartbeats 400000 in
theorem put_nil (v n : Int) (w : World) : Calls Try.prog 19 #[.pointer none, .int .u32 v, .int .i64 n] w fun e w' => e = .returned (.tuple #[]) ∧ w = w' := by
  go_enter Try.func19, Try.ntmps19
  go_wp2
  go_step3
  go_wp2
  rw [Exit.noGoto_ret]
  exact bodyPost_ret (results_none rfl _ _ _) rfl ⟨rfl, rfl⟩
set_option maxHeartbeats 400000 in
theorem align_nil (n : Int) (w : World) : Calls Try.prog 21 #[.pointer none, .int .i64 n] w fun e w' => e = .returned (.tuple #[]) ∧ w = w' := by
  go_enter Try.func21, Try.ntmps21
  go_wp2
  exact bodyPost_ret (results_none rfl _ _ _) rfl ⟨rfl, rfl⟩
set_option maxHeartbeats 400000 in
theorem text_nil (w : World) : Calls Try.prog 22 #[.pointer none] w fun e w' => e = .returned (.string ⟨#[]⟩) ∧ w = w' := by
  go_enter Try.func22, Try.ntmps22
  go_wp2
  go_ret
  exact ⟨rfl, rfl⟩
end Go.Proofs.Ytmedlplgeeeodaa.Bits
