/- What a header must be: both answers; no condition but the ranges in each. -/
import Derived.Test.YtccljgohekmjkaaRtpRep
namespace Go.Proofs.Ytccljgohekmjkaa.Rtp
open Go.RowKit Go.Proofs.Ytccljgohekmjkaa.Plain Go.Proofs.Ytccljgohekmjkaa.Heap Go.Proofs.Ytccljgohekmjkaa.Open Go.Proofs.Ytccljgohekmjkaa.Rows Go.Proofs.Ytccljgohekmjkaa.Bits

def goodX (x : X2) : Bool := decide (1 ≤ x.1) && decide (x.1 ≤ 14) && decide (1 ≤ x.2.size) && decide (x.2.size ≤ 16)
def hasId (l : List X2) (k : Int) : Bool := l.any fun y => decide (y.1 = k)
def goodTo (l : List X2) : Nat → Bool
  | 0 => true
  | i + 1 => goodTo l i && match l[i]? with
    | none => true
    | some x => goodX x && !hasId (l.take i) x.1
def goodR (h : Hd) : Bool := decide (0 ≤ h.ty) && decide (h.ty ≤ 127) && decide (0 ≤ h.sq) && decide (h.sq ≤ 65535) && decide (h.src.length ≤ 15) && decide (h.xs.length ≤ 14)
def goodH (h : Hd) : Bool := goodR h && goodTo h.xs h.xs.length
theorem goodTo_succ {l : List X2} {i : Nat} {x : X2} (hx : l[i]? = some x) (h : goodTo l i = true) (h1 : goodX x = true) (h2 : hasId (l.take i) x.1 = false) : goodTo l (i + 1) = true := by
  simp only [goodTo, hx, h, h1, h2]
  rfl
theorem goodTo_stop {l : List X2} {i : Nat} {x : X2} (hx : l[i]? = some x) (h1 : goodX x = false ∨ hasId (l.take i) x.1 = true) : ∀ n, i < n → goodTo l n = false := by
  intro n hn
  induction n with
  | zero => omega
  | succ n ih =>
    rcases Nat.lt_or_ge i n with h | h
    · simp only [goodTo, ih h]
      rfl
    · obtain rfl : i = n := by omega
      simp only [goodTo, hx]
      rcases h1 with h1 | h1
      · rw [h1]; cases goodTo l i <;> rfl
      · rw [h1]; cases goodTo l i <;> cases goodX x <;> rfl
theorem goodTo_at {l : List X2} {n i : Nat} {x : X2} (h : goodTo l n = true) (hi : i < n) (hx : l[i]? = some x) : goodX x = true ∧ hasId (l.take i) x.1 = false := by
  cases h1 : goodX x with
  | false => rw [goodTo_stop hx (.inl h1) n hi] at h; cases h
  | true =>
    cases h2 : hasId (l.take i) x.1 with
    | true => rw [goodTo_stop hx (.inr h2) n hi] at h; cases h
    | false => exact ⟨rfl, rfl⟩
theorem goodX_yes {x : X2} (h : goodX x = true) : 1 ≤ x.1 ∧ x.1 ≤ 14 ∧ 1 ≤ x.2.size ∧ x.2.size ≤ 16 := by
  simp only [goodX, Bool.and_eq_true, decide_eq_true_eq] at h
  exact ⟨h.1.1.1, h.1.1.2, h.1.2, h.2⟩
theorem goodX_mk {x : X2} (h1 : 1 ≤ x.1) (h2 : x.1 ≤ 14) (h3 : 1 ≤ x.2.size) (h4 : x.2.size ≤ 16) : goodX x = true := by
  simp only [goodX, Bool.and_eq_true, decide_eq_true_eq]
  exact ⟨⟨⟨h1, h2⟩, h3⟩, h4⟩
theorem goodX_no {x : X2} (h : x.1 < 1 ∨ 14 < x.1 ∨ x.2.size < 1 ∨ 16 < x.2.size) : goodX x = false := by
  cases e : goodX x with
  | false => rfl
  | true => have := goodX_yes e; omega
theorem goodR_yes {h : Hd} (k : goodR h = true) : 0 ≤ h.ty ∧ h.ty ≤ 127 ∧ 0 ≤ h.sq ∧ h.sq ≤ 65535 ∧ h.src.length ≤ 15 ∧ h.xs.length ≤ 14 := by
  simp only [goodR, Bool.and_eq_true, decide_eq_true_eq] at k
  exact ⟨k.1.1.1.1.1, k.1.1.1.1.2, k.1.1.1.2, k.1.1.2, k.1.2, k.2⟩
theorem goodR_mk {h : Hd} (k : 0 ≤ h.ty ∧ h.ty ≤ 127 ∧ 0 ≤ h.sq ∧ h.sq ≤ 65535 ∧ h.src.length ≤ 15 ∧ h.xs.length ≤ 14) : goodR h = true := by
  simp only [goodR, Bool.and_eq_true, decide_eq_true_eq]
  exact ⟨⟨⟨⟨⟨k.1, k.2.1⟩, k.2.2.1⟩, k.2.2.2.1⟩, k.2.2.2.2.1⟩, k.2.2.2.2.2⟩
theorem goodR_no {h : Hd} (k : h.ty < 0 ∨ 127 < h.ty ∨ h.sq < 0 ∨ 65535 < h.sq ∨ 15 < h.src.length ∨ 14 < h.xs.length) : goodH h = false := by
  unfold goodH
  cases e : goodR h with
  | false => rfl
  | true => have := goodR_yes e; omega
/-- The ways through the first test. -/
theorem goodR_ways (ty sq n m : Int) : ty < 0 ∨ (¬ ty < 0 ∧ 127 < ty) ∨ (¬ ty < 0 ∧ ¬ 127 < ty ∧ sq < 0) ∨ (¬ ty < 0 ∧ ¬ 127 < ty ∧ ¬ sq < 0 ∧ 65535 < sq) ∨ (¬ ty < 0 ∧ ¬ 127 < ty ∧ ¬ sq < 0 ∧ ¬ 65535 < sq ∧ 15 < n) ∨
    (¬ ty < 0 ∧ ¬ 127 < ty ∧ ¬ sq < 0 ∧ ¬ 65535 < sq ∧ ¬ 15 < n ∧ 14 < m) ∨ (¬ ty < 0 ∧ ¬ 127 < ty ∧ ¬ sq < 0 ∧ ¬ 65535 < sq ∧ ¬ 15 < n ∧ ¬ 14 < m) := by omega
/-- The numbers met, as bits. -/
def mask (l : List X2) : Nat := l.foldl (fun m x => m ||| (1 <<< x.1.toNat)) 0
theorem i64_and_nat (a b : Nat) (ha : a < 32768) (hb : b < 32768) : Go.bits .and .i64 (a : Int) (b : Int) = ((a &&& b : Nat) : Int) := by
  have hx : a &&& b < 2 ^ 15 := Nat.and_lt_two_pow _ (by omega)
  have h1 : (BitVec.ofInt 64 (a : Int)).toNat = a := by
    rw [BitVec.ofInt_natCast, BitVec.toNat_ofNat]; exact Nat.mod_eq_of_lt (by omega)
  have h2 : (BitVec.ofInt 64 (b : Int)).toNat = b := by
    rw [BitVec.ofInt_natCast, BitVec.toNat_ofNat]; exact Nat.mod_eq_of_lt (by omega)
  show IntKind.i64.wrap ((BitVec.ofInt 64 (a : Int) &&& BitVec.ofInt 64 (b : Int)).toNat : Int) = _
  rw [BitVec.toNat_and, h1, h2, IntKind.wrap_i64]
  omega
theorem i64_or_nat (a b : Nat) (ha : a < 32768) (hb : b < 32768) : Go.bits .or .i64 (a : Int) (b : Int) = ((a ||| b : Nat) : Int) := by
  have hx : a ||| b < 2 ^ 15 := Nat.or_lt_two_pow (by omega) (by omega)
  have h1 : (BitVec.ofInt 64 (a : Int)).toNat = a := by
    rw [BitVec.ofInt_natCast, BitVec.toNat_ofNat]; exact Nat.mod_eq_of_lt (by omega)
  have h2 : (BitVec.ofInt 64 (b : Int)).toNat = b := by
    rw [BitVec.ofInt_natCast, BitVec.toNat_ofNat]; exact Nat.mod_eq_of_lt (by omega)
  show IntKind.i64.wrap ((BitVec.ofInt 64 (a : Int) ||| BitVec.ofInt 64 (b : Int)).toNat : Int) = _
  rw [BitVec.toNat_or, h1, h2, IntKind.wrap_i64]
  omega
theorem pow_id {k : Nat} (h : k ≤ 14) : 2 ^ k < 32768 := by
  have := Nat.pow_le_pow_right (n := 2) (by omega) h
  omega
theorem mask_app (l : List X2) (x : X2) : mask (l ++ [x]) = mask l ||| (1 <<< x.1.toNat) := by simp [mask, List.foldl_append]
theorem mask_take {l : List X2} {i : Nat} {x : X2} (h : l[i]? = some x) : mask (l.take (i + 1)) = mask (l.take i) ||| (1 <<< x.1.toNat) := by
  obtain ⟨hl, rfl⟩ := List.getElem?_eq_some_iff.1 h
  rw [List.take_succ_eq_append_getElem hl, mask_app]
theorem mask_acc (l : List X2) : ∀ (m : Nat), m < 32768 → (∀ x ∈ l, goodX x = true) → l.foldl (fun m x => m ||| (1 <<< x.1.toNat)) m < 32768 ∧
    ∀ k, (l.foldl (fun m x => m ||| (1 <<< x.1.toNat)) m).testBit k = (m.testBit k || l.any fun y => decide (y.1.toNat = k)) := by
  induction l with
  | nil => intro m hm _; exact ⟨hm, fun k => by simp⟩
  | cons x l ih =>
    intro m hm hg
    have h1 := goodX_yes (hg x (List.mem_cons_self ..))
    have h2 : m ||| (1 <<< x.1.toNat) < 32768 := by
      rw [Nat.one_shiftLeft]
      exact Nat.or_lt_two_pow (n := 15) hm (pow_id (by omega))
    obtain ⟨h3, h4⟩ := ih _ h2 fun y hy => hg y (List.mem_cons_of_mem _ hy)
    refine ⟨h3, fun k => ?_⟩
    rw [List.foldl_cons, h4 k, Nat.testBit_or, Nat.one_shiftLeft, Nat.testBit_two_pow, List.any_cons, Bool.or_assoc]
theorem mask_lt {l : List X2} (h : ∀ x ∈ l, goodX x = true) : mask l < 32768 := (mask_acc l 0 (by omega) h).1
theorem mask_bit {l : List X2} (h : ∀ x ∈ l, goodX x = true) {k : Int} (hk : 1 ≤ k) : (mask l).testBit k.toNat = hasId l k := by
  rw [mask, (mask_acc l 0 (by omega) h).2, Nat.zero_testBit, Bool.false_or, hasId]
  have : ∀ y : X2, y ∈ l → decide (y.1.toNat = k.toNat) = decide (y.1 = k) := fun y hy => by
    have := goodX_yes (h y hy)
    by_cases e : y.1 = k
    · rw [decide_eq_true e, decide_eq_true (by rw [e])]
    · rw [decide_eq_false e, decide_eq_false (by omega)]
  clear h
  induction l with
  | nil => rfl
  | cons y l ih => rw [List.any_cons, List.any_cons, this y (List.mem_cons_self ..), ih fun z hz => this z (List.mem_cons_of_mem _ hz)]
theorem mask_and {l : List X2} (h : ∀ x ∈ l, goodX x = true) {k : Int} (hk : 1 ≤ k) (_ : k ≤ 14) : Go.bits .and .i64 (((mask l : Nat) : Int) / 2 ^ k.toNat) 1 = if hasId l k = true then 1 else 0 := by
  have hm := mask_lt h
  have hb := mask_bit h hk
  generalize mask l = M at *
  have e : (M : Int) / 2 ^ k.toNat = ((M / 2 ^ k.toNat : Nat) : Int) := by simp
  have hq : M / 2 ^ k.toNat ≤ M := Nat.div_le_self _ _
  rw [e, show (1 : Int) = ((1 : Nat) : Int) from rfl, i64_and_nat _ _ (by omega) (by omega), nat_mask1, ← hb, Nat.testBit_eq_decide_div_mod_eq]
  by_cases hx : M / 2 ^ k.toNat % 2 = 1
  · rw [if_pos (decide_eq_true hx), hx]
  · rw [if_neg (by rw [decide_eq_false hx]; decide), show M / 2 ^ k.toNat % 2 = 0 by omega]
    rfl
theorem mask_or {l : List X2} {i : Nat} {x : X2} (h : ∀ x ∈ l.take i, goodX x = true) (hx : l[i]? = some x) (h1 : 1 ≤ x.1) (h2 : x.1 ≤ 14) :
    Go.bits .or .i64 ((mask (l.take i) : Nat) : Int) (wrap64 (2 ^ x.1.toNat)) = ((mask (l.take (i + 1)) : Nat) : Int) := by
  have hp := pow_id (k := x.1.toNat) (by omega)
  have e : (2 : Int) ^ x.1.toNat = ((2 ^ x.1.toNat : Nat) : Int) := by simp
  rw [mask_take hx, Nat.one_shiftLeft, e]
  generalize 2 ^ x.1.toNat = q at *
  rw [w64 (by omega) (by omega), i64_or_nat _ _ (mask_lt h) hp]
theorem goodTo_all {l : List X2} {i : Nat} (h : goodTo l i = true) : ∀ x ∈ l.take i, goodX x = true := by
  intro x hx
  obtain ⟨j, hj⟩ := List.getElem?_of_mem hx
  have hj2 : j < i := by
    have := (List.getElem?_eq_some_iff.1 hj).1
    rw [List.length_take] at this
    omega
  rw [List.getElem?_take_of_lt hj2] at hj
  exact (goodTo_at h hj2 hj).1
set_option maxRecDepth 10000 in
set_option maxHeartbeats 4000000 in
theorem good_any (v : Value) (h : Hd) (w : World) (k : HR w v h) :
    Calls Try.prog 17 #[v] w fun e w' => e = .returned (.bool (goodH h)) ∧ Below w.heap.size w w' := by
  obtain ⟨A, c, B, d, rfl, k1, k2⟩ := k
  obtain ⟨b0, hb0⟩ : ∃ b0, b0 = w.heap.size := ⟨_, rfl⟩
  obtain ⟨W0, hW0⟩ : ∃ W0, W0 = w.alloc (.cells (hcs h A c B d) 26) := ⟨_, rfl⟩
  have H0 := Lib.hid (show HX w W0 b0 h A c B d by rw [hb0]; exact HX.new (Below.refl _ w) k1 k2 hW0)
  have HE := Lib.hid hb0
  have HW := Lib.hid hW0
  clear k1 k2 hb0 hW0
  obtain ⟨n, hn⟩ : ∃ n, n = h.src.length := ⟨_, rfl⟩
  obtain ⟨m, hm⟩ : ∃ m, m = h.xs.length := ⟨_, rfl⟩
  have HN := Lib.hid hn
  have HM := Lib.hid hm
  have x1 := H0.out.c1
  have x2 := H0.out.c2
  have x5 := H0.out.c5
  have x6 := H0.out.c6
  rw [← hn] at x5
  rw [← hm] at x6
  clear hn hm
  go_enter Try.func17, Try.ntmps17
  go_upto_region 1 with fail
  rw [← HW.out, ← HE.out]
  rcases goodR_ways h.ty h.sq n m with h0 | h0 | h0 | h0 | h0 | h0 | h0
  case inr.inr.inr.inr.inr.inr =>
    obtain ⟨a1, a2, a3, a4, a5, a6⟩ := h0
    have HGR := Lib.hid (show goodR h = true from goodR_mk ⟨by omega, by omega, by omega, by omega, by have := HN.out; omega, by have := HM.out; omega⟩)
    go_wp2_with fail
    go_loopw [3, 39] (fun mv iv wx => ∃ i : Nat, (i : Int) ≤ (m : Int) ∧ iv = .int .i64 (i : Int) ∧ mv = .int .i64 ((mask (h.xs.take i) : Nat) : Int) ∧ goodTo h.xs i = true ∧ HX w wx b0 h A c B d) (fun _ iv _ => ((m : Int) - intOf iv).toNat)
    case atStart => exact ⟨0, by omega, rfl, rfl, rfl, H0.out⟩
    case round =>
      obtain ⟨i, hi, rfl, rfl, hgt, hx⟩ := hrel
      have H1 := Lib.hid hx
      have HGT := Lib.hid hgt
      clear hx hgt
      by_cases hil : (i : Int) < (m : Int)
      · obtain ⟨g, off, x, e, hg, hx, hxm, y0, y1⟩ := ext_at H1.out.r2 (k := i) (by have := HM.out; omega)
        subst e
        obtain ⟨K, hK⟩ : ∃ K, K = mask (h.xs.take i) := ⟨_, rfl⟩
        rw [← hK]
        have hxn : ∃ x', h.xs[i]? = some x' := ⟨x, hx⟩
        have HX := Lib.hid hx
        obtain ⟨id, dt⟩ := x
        simp only at y0 y1
        obtain ⟨L, hL⟩ : ∃ L : Int, (dt.size : Int) = L := ⟨_, rfl⟩
        have HK := Lib.hid hK
        clear hx hxm hK hxn
        go_upto_region 7 with fail
        obtain ⟨q, hq⟩ : ∃ q, q = wr.heap.size := ⟨_, rfl⟩
        rw [← hq]
        generalize hW2 : World.alloc wr _ = W2
        have hqc : W2.heap[q]? = some (.cells #[.int .i64 id, .string dt] 47 (0, 0)) := by rw [← hW2, hq]; exact heap_alloc_new wr _
        obtain ⟨z0, z1⟩ := cells2 hqc
        have H2 := Lib.hid (H1.out.run (w' := W2) (by rw [← hW2]; exact (Below.refl _ wr).alloc (Nat.le_refl _) _))
        have HST := Lib.hid (show (goodX (id, dt) = false ∨ hasId (h.xs.take i) id = true) → goodH h = false from fun hb => by
          unfold goodH
          rw [goodTo_stop HX.out hb _ (by have := HM.out; omega), Bool.and_false])
        have HL := Lib.hid hL
        clear hW2 hqc hq y0 y1
        by_cases i1 : id < 1
        · have HF := Lib.hid (HST.out (.inl (goodX_no (.inl i1))))
          go_wp2_with fail
          go_ret
          exact ⟨by rw [HF.out]; rfl, H2.out.bw⟩
        · by_cases i2 : 14 < id
          · have HF := Lib.hid (HST.out (.inl (goodX_no (.inr (.inl i2)))))
            go_wp2_with fail
            go_ret
            exact ⟨by rw [HF.out]; rfl, H2.out.bw⟩
          · have hand := mask_and (goodTo_all HGT.out) (k := id) (by omega) (by omega)
            have hor := mask_or (goodTo_all HGT.out) HX.out (by show 1 ≤ id; omega) (by show id ≤ 14; omega)
            simp only at hor
            rw [← HK.out] at hand hor
            obtain ⟨K2, hK2⟩ : ∃ K2, K2 = mask (h.xs.take (i + 1)) := ⟨_, rfl⟩
            rw [← hK2] at hor
            have HK2 := Lib.hid hK2
            clear hK2
            cases hid : hasId (h.xs.take i) id with
            | true =>
              have HF := Lib.hid (HST.out (.inr hid))
              rw [hid, if_pos rfl] at hand
              clear hid
              go_wp2_with fail
              go_ret
              exact ⟨by rw [HF.out]; rfl, H2.out.bw⟩
            | false =>
              rw [hid, if_neg (by decide)] at hand
              have HI := Lib.hid hid
              clear hid
              by_cases l1 : L < 1
              · have HF := Lib.hid (HST.out (.inl (goodX_no (.inr (.inr (.inl (by show dt.size < 1; omega)))))))
                go_wp2_with fail
                go_ret
                exact ⟨by rw [HF.out]; rfl, H2.out.bw⟩
              · by_cases l2 : 16 < L
                · have HF := Lib.hid (HST.out (.inl (goodX_no (.inr (.inr (.inr (by show 16 < dt.size; omega)))))))
                  go_wp2_with fail
                  go_ret
                  exact ⟨by rw [HF.out]; rfl, H2.out.bw⟩
                · have HOK := Lib.hid (goodTo_succ HX.out HGT.out (goodX_mk (by show 1 ≤ id; omega) (by show id ≤ 14; omega) (by show 1 ≤ dt.size; omega) (by show dt.size ≤ 16; omega)) HI.out)
                  go_wp2_with fail
                  go_roundw
                  case rel => exact ⟨i + 1, by omega, by go_num, by rw [HK2.out], HOK.out, H2.out⟩
                  case measure => exact measN m i hil
      · have hin : i = m := by omega
        have HF := Lib.hid (show goodH h = true by
          unfold goodH
          rw [HGR.out, ← HM.out, ← hin, HGT.out]
          rfl)
        go_wp2_with fail
        go_ret
        exact ⟨by rw [HF.out]; rfl, H1.out.bw⟩
  all_goals
    have HF := Lib.hid (show goodH h = false from goodR_no (by have := HN.out; have := HM.out; omega))
    first
      | obtain ⟨a1, a2, a3, a4, a5, a6⟩ := h0
      | obtain ⟨a1, a2, a3, a4, a5⟩ := h0
      | obtain ⟨a1, a2, a3, a4⟩ := h0
      | obtain ⟨a1, a2, a3⟩ := h0
      | obtain ⟨a1, a2⟩ := h0
      | skip
    go_wp2_with fail
    go_ret
    exact ⟨by rw [HF.out]; rfl, H0.out.bw⟩
end Go.Proofs.Ytccljgohekmjkaa.Rtp
