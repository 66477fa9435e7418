/- What the program's signed and chunk tell; no condition but the ranges in each. -/
import Derived.Test.YtmedlplgeeeodaaTwDec
import Derived.Test.YtmedlplgeeeodaaRowMany
namespace Go.Proofs.Ytmedlplgeeeodaa.Tw
open Go.RowKit Go.Proofs.Ytmedlplgeeeodaa.Plain Go.Proofs.Ytmedlplgeeeodaa.Heap Go.Proofs.Ytmedlplgeeeodaa.Open Go.Proofs.Ytmedlplgeeeodaa.Rows Go.Proofs.Ytmedlplgeeeodaa.Bits
theorem signed24 (v : Int) (w : World) (h0 : 0 ≤ v) (h1 : v < 16777216) :
    Calls Try.prog 32 #[.int .u32 v, .int .i64 24] w fun e w' => e = .returned (.int .i64 (sg 24 v)) ∧ w = w' := by
  go_enter Try.func32, Try.ntmps32
  go_wp2
  go_ret
  refine ⟨ret_int ?_, rfl⟩
  unfold sg wrap64 wrap32
  simp only [Nat.add_one_sub_one, Int.reducePow]
  split <;> omega
theorem signed16 (v : Int) (w : World) (h0 : 0 ≤ v) (h1 : v < 65536) :
    Calls Try.prog 32 #[.int .u32 v, .int .i64 16] w fun e w' => e = .returned (.int .i64 (sg 16 v)) ∧ w = w' := by
  go_enter Try.func32, Try.ntmps32
  go_wp2
  go_ret
  refine ⟨ret_int ?_, rfl⟩
  unfold sg wrap64 wrap32
  simp only [Nat.add_one_sub_one, Int.reducePow]
  split <;> omega
theorem measL (N : Int) (k : Nat) (h : (k : Int) < N) : (N - intOf (.int .i64 ((k : Int) + 1))).toNat < (N - intOf (.int .i64 (k : Int))).toNat := by simp [intOf]; omega
/-- What a chunk comes to. -/
def ChunkPost (t : TypeId) (s : ByteArray) (r lack p : Nat) (w : World) (e : Ending) (w' : World) : Prop :=
  if 8 * s.size < r + 16 then e = .returned (.tuple #[.slice none 0 0, .int .i64 60]) ∧ Kept (fun _ => False) w w'
  else match chunkD s r lack with
    | none => e = .returned (.tuple #[.slice none 0 0, .int .i64 100]) ∧ Kept (fun k => k = p) w w'
    | some x => ∃ A c, e = .returned (.tuple #[.slice A x.length c, .int .i64 0]) ∧ RW w' 1 (.slice A x.length c) x.length (nums .i64 x) ∧ (∀ g, isAt (.slice A x.length c) g → w.heap.size ≤ g) ∧ RR t w' p s (r + 16) false ∧ Kept (fun k => k = p) w w'
theorem chunk_short {t : TypeId} {s : ByteArray} {r lack p : Nat} {w w' : World} (h : 8 * s.size < r + 16) (hk : Kept (fun _ => False) w w') : ChunkPost t s r lack p w (.returned (.tuple #[.slice none 0 0, .int .i64 60])) w' := by
  unfold ChunkPost
  rw [if_pos h]
  exact ⟨rfl, hk⟩
theorem chunk_none {t : TypeId} {s : ByteArray} {r lack p : Nat} {w w' : World} (h : ¬ 8 * s.size < r + 16) (hc : chunkD s r lack = none) (hk : Kept (fun k => k = p) w w') : ChunkPost t s r lack p w (.returned (.tuple #[.slice none 0 0, .int .i64 100])) w' := by
  unfold ChunkPost
  rw [if_neg h, hc]
  exact ⟨rfl, hk⟩
theorem chunk_some {t : TypeId} {s : ByteArray} {r lack p : Nat} {w w' : World} {x : List Int} {n : Nat} {A : Option Addr} {c : Nat} (h : ¬ 8 * s.size < r + 16) (hc : chunkD s r lack = some x) (hn : n = x.length) (hr : RW w' 1 (.slice A n c) n (nums .i64 x)) (ha : ∀ g, isAt (.slice A n c) g → w.heap.size ≤ g) (hrr : RR t w' p s (r + 16) false) (hk : Kept (fun k => k = p) w w') :
    ChunkPost t s r lack p w (.returned (.tuple #[.slice A n c, .int .i64 0])) w' := by
  unfold ChunkPost
  subst hn
  rw [if_neg h, hc]
  exact ⟨A, c, rfl, hr, ha, hrr, hk⟩
/-- What is appended is new, or where the row was. -/
theorem grown_at {lv v' : Value} {B : Nat} {w1 : World} (hat : ∀ g, isAt lv g → B ≤ g) (hn : ∀ g, isAt v' g → isAt lv g ∨ g = w1.heap.size) (hb : B ≤ w1.heap.size) : ∀ g, isAt v' g → B ≤ g := fun g hg => by
  rcases hn g hg with h | h
  · exact hat g h
  · omega
set_option linter.unusedSimpArgs false in
set_option maxRecDepth 10000 in
set_option maxHeartbeats 8000000 in
theorem chunk_any (s : ByteArray) (r lack p : Nat) (w : World) (hw : RR 77 w p s r false) (hr : r ≤ 8 * s.size) (hs : s.size ≤ 1099511627776) (hl1 : 1 ≤ (lack : Int)) (hl2 : (lack : Int) ≤ 4096) :
    Calls Try.prog 33 #[.pointer (some ⟨p, 0, none⟩), .int .i64 (lack : Int)] w (ChunkPost 77 s r lack p w) := by
  have HW := bx hw
  have HRL := bx hr
  have HS := bx hs
  have HPL := bx hw.lt
  clear hw hr
  obtain ⟨Z, hZ⟩ : ∃ Z : Int, 8 * (s.size : Int) - (r : Int) = Z := ⟨_, rfl⟩
  have HZ := bx hZ
  have hz0 : 0 ≤ Z := by have := HRL.out; omega
  have hz1 : Z ≤ 8796093022208 := by omega
  clear hZ hs
  go_enter Try.func33, Try.ntmps33
  go_wp2_with fail
  refine (left_fit HW.out HRL.out HS.out).mono ?_
  rw [HZ.out]
  rintro e X ⟨rfl, h1, hk1⟩
  have HX := bx h1
  have HK := bx hk1
  clear h1 hk1
  by_cases hsh : Z < 16
  · have HSH := bx (show 8 * s.size < r + 16 by have := HZ.out; omega)
    have q1 : decide (Z < 16) = true := decide_eq_true hsh
    go_wp2_with fail
    go_ret2
    exact chunk_short HSH.out HK.out
  · have HSH := bx (show ¬ 8 * s.size < r + 16 by have := HZ.out; omega)
    have HFT := bx (show r + 16 ≤ 8 * s.size by have := HZ.out; omega)
    have q1 : decide (Z < 16) = false := decide_eq_false hsh
    clear hsh hz0 hz1
    go_wp2_with fail
    have HK0 := bx (HK.out.mono (S' := fun k => k = p) (fun _ _ e => e.elim))
    refine (get_fit 1 1 rfl HX.out (by omega) (by have := HFT.out; omega) HS.out).mono ?_
    rintro e X1 ⟨rfl, h1, hk1⟩
    have HXX1 := bx (show RR 77 X1 p s (r + 1) false from h1)
    have HKX1 := bx (show Kept (fun k => k = p) w X1 from HK0.out.trans hk1 (fun _ _ h => h))
    obtain ⟨b0, hv⟩ : ∃ v, v = val s (r) 1 := ⟨_, rfl⟩
    obtain ⟨b0_lo, b0_hi⟩ : 0 ≤ b0 ∧ b0 < 2 := by rw [hv]; exact val_bd s (r) 1
    rw [← hv]
    have Hb0 := bx hv
    clear h1 hk1 hv
    by_cases hb0 : b0 = 0
    · have q2 : (b0 == 0) = true := by rw [beq_iff_eq]; exact hb0
      have HB0 := bx (show val s r 1 = 0 by rw [← Hb0.out]; exact hb0)
      clear hb0
      go_wp2_with fail
      refine (get_fit 2 2 rfl HXX1.out (by omega) (by have := HFT.out; omega) HS.out).mono ?_
      rintro e X2 ⟨rfl, h1, hk1⟩
      have HXX2 := bx (show RR 77 X2 p s (r + 1 + 2) false from h1)
      have HKX2 := bx (show Kept (fun k => k = p) w X2 from HKX1.out.trans hk1 (fun _ _ h => h))
      obtain ⟨st, hv⟩ : ∃ v, v = val s (r + 1) 2 := ⟨_, rfl⟩
      obtain ⟨st_lo, st_hi⟩ : 0 ≤ st ∧ st < 4 := by rw [hv]; exact val_bd s (r + 1) 2
      rw [← hv]
      have Hst := bx hv
      clear h1 hk1 hv
      go_wp2_with fail
      refine (get_fit 13 13 rfl HXX2.out (by omega) (by have := HFT.out; omega) HS.out).mono ?_
      rintro e X3 ⟨rfl, h1, hk1⟩
      have HXX3 := bx (show RR 77 X3 p s (r + 1 + 2 + 13) false from h1)
      have HKX3 := bx (show Kept (fun k => k = p) w X3 from HKX2.out.trans hk1 (fun _ _ h => h))
      obtain ⟨nn, hv⟩ : ∃ v, v = val s (r + 1 + 2) 13 := ⟨_, rfl⟩
      obtain ⟨nn_lo, nn_hi⟩ : 0 ≤ nn ∧ nn < 8192 := by rw [hv]; exact val_bd s (r + 1 + 2) 13
      rw [← hv]
      have Hnn := bx hv
      clear h1 hk1 hv
      obtain ⟨n, rfl⟩ : ∃ n : Nat, nn = (n : Int) := ⟨nn.toNat, by omega⟩
      have HV := bx (show RR 77 X3 p s (r + 16) false by have h := HXX3.out; rwa [show r + 1 + 2 + 13 = r + 16 by omega] at h)
      have HC := bx (show chunkD s r lack = if 2 < st ∨ (n : Int) = 0 then none else some (List.replicate (min n lack) st) by
        unfold chunkD
        rw [if_pos HB0.out, ← Hst.out, show r + 3 = r + 1 + 2 by omega, ← Hnn.out, Int.toNat_natCast])
      clear HXX1 HXX2 HXX3
      by_cases hst : 2 < st
      · have q3 : decide (2 < st) = true := decide_eq_true hst
        have HN := bx (show chunkD s r lack = none by rw [HC.out, if_pos (.inl hst)])
        go_wp2_with fail
        go_ret2
        exact chunk_none HSH.out HN.out HKX3.out
      · have q3 : decide (2 < st) = false := decide_eq_false hst
        by_cases hn0 : (n : Int) = 0
        · have HN := bx (show chunkD s r lack = none by rw [HC.out, if_pos (.inr hn0)])
          have hn00 : n = 0 := by omega
          subst hn00
          clear hn0
          go_wp2_with fail
          go_ret2
          exact chunk_none HSH.out HN.out HKX3.out
        · have q4 : ((n : Int) == 0) = false := by rw [beq_eq_false_iff_ne]; exact hn0
          obtain ⟨m, hm⟩ : ∃ m, m = min n lack := ⟨_, rfl⟩
          have HN := bx (show chunkD s r lack = some (List.replicate m st) by rw [HC.out, if_neg (by omega), hm])
          have hm4 : (m : Int) ≤ 4096 := by omega
          have hways : ((n : Int) ≤ (lack : Int) ∧ n = m) ∨ ((lack : Int) < (n : Int) ∧ lack = m) := by omega
          have HMN := bx hm
          clear hn0 hm
          rcases hways with ⟨d, e⟩ | ⟨d, e⟩
          · subst e
            go_wp2_with fail
            go_loopw [6, 35] (fun lv iv wx => ∃ k : Nat, (k : Int) ≤ ((n : Nat) : Int) ∧ iv = .int .i64 (k : Int) ∧ RW wx 1 lv k (nums .i64 (List.replicate k st)) ∧ (∀ g, isAt lv g → w.heap.size ≤ g) ∧ RR 77 wx p s (r + 16) false ∧ Kept (fun k => k = p) w wx) (fun _ iv _ => (((n : Nat) : Int) - intOf iv).toNat)
            case atStart => exact ⟨0, by omega, rfl, RW.nil _ _, (by rintro g ⟨o, m, c, e⟩; cases e), HV.out, HKX3.out⟩
            case round =>
              obtain ⟨k, hk, rfl, hrw, hat, hrr, hkk⟩ := hrel
              obtain ⟨lA, lc, rfl⟩ := hrw.shape
              have HRW := bx hrw
              have HAT := bx hat
              have HRR := bx hrr
              have HKK := bx hkk
              rename World => Y
              clear hrw hat hrr hkk
              by_cases hkm : (k : Int) < ((n : Nat) : Int)
              · have q5 : decide ((k : Int) < ((n : Nat) : Int)) = true := decide_eq_true hkm
                have q5' : decide (k < n) = true := decide_eq_true (by omega)
                go_wp2_with (first
                  | (at_builtin
                     refine wpList_row rfl (.tmp 37) (.tmp 39) 23 rfl 3 (.int .i64 0) 1 8 Try.underlying23 info_int rfl (by omega) (.slice lA k lc) k (nums .i64 (List.replicate k st)) rfl (HRW.out.kept ((Kept.refl (fun _ => False) Y).alloc _) (fun _ _ => id)) _ _ [.int .i64 st] rfl (Rd.one Y _ _) (by simp [Value.oneCell']) (by omega) ?_
                     intro v5 w5 hr5 hk5 hn5
                     obtain ⟨A5, c5, rfl⟩ := hr5.shape
                     have HR5 := bx hr5
                     have HK5 := bx (show Kept (isAt (.slice lA k lc)) Y w5 from Kept.trans (S := isAt (.slice lA k lc)) ((Kept.refl (isAt (.slice lA k lc)) Y).alloc _) hk5 (fun _ _ h => h))
                     have HN5 := bx hn5
                     clear hr5 hk5 hn5))
                go_roundw
                case rel =>
                  refine ⟨k + 1, by omega, by go_num, ?_, grown_at HAT.out HN5.out (by have := HKK.out.size; simp; omega), HRR.out.kept HK5.out (fun e => by have := HAT.out p e; have := HPL.out; omega), HKK.out.trans HK5.out (fun g hg h => by have := HAT.out g h; omega)⟩
                  have h := HR5.out
                  rw [List.replicate_succ', nums_append]
                  exact h
                case measure => exact measN _ k hkm
              · have hke : k = n := by omega
                have q5 : decide ((k : Int) < ((n : Nat) : Int)) = false := decide_eq_false hkm
                have q5' : decide (k < n) = false := decide_eq_false (by omega)
                have HKE := bx hke
                clear hke
                go_wp2_with fail
                go_ret2
                exact chunk_some HSH.out HN.out (by rw [List.length_replicate]; exact HKE.out) (by rw [← HKE.out]; exact HRW.out) HAT.out HRR.out HKK.out
          · subst e
            go_wp2_with fail
            go_loopw [6, 35] (fun lv iv wx => ∃ k : Nat, (k : Int) ≤ ((lack : Nat) : Int) ∧ iv = .int .i64 (k : Int) ∧ RW wx 1 lv k (nums .i64 (List.replicate k st)) ∧ (∀ g, isAt lv g → w.heap.size ≤ g) ∧ RR 77 wx p s (r + 16) false ∧ Kept (fun k => k = p) w wx) (fun _ iv _ => (((lack : Nat) : Int) - intOf iv).toNat)
            case atStart => exact ⟨0, by omega, rfl, RW.nil _ _, (by rintro g ⟨o, m, c, e⟩; cases e), HV.out, HKX3.out⟩
            case round =>
              obtain ⟨k, hk, rfl, hrw, hat, hrr, hkk⟩ := hrel
              obtain ⟨lA, lc, rfl⟩ := hrw.shape
              have HRW := bx hrw
              have HAT := bx hat
              have HRR := bx hrr
              have HKK := bx hkk
              rename World => Y
              clear hrw hat hrr hkk
              by_cases hkm : (k : Int) < ((lack : Nat) : Int)
              · have q5 : decide ((k : Int) < ((lack : Nat) : Int)) = true := decide_eq_true hkm
                have q5' : decide (k < lack) = true := decide_eq_true (by omega)
                go_wp2_with (first
                  | (at_builtin
                     refine wpList_row rfl (.tmp 37) (.tmp 39) 23 rfl 3 (.int .i64 0) 1 8 Try.underlying23 info_int rfl (by omega) (.slice lA k lc) k (nums .i64 (List.replicate k st)) rfl (HRW.out.kept ((Kept.refl (fun _ => False) Y).alloc _) (fun _ _ => id)) _ _ [.int .i64 st] rfl (Rd.one Y _ _) (by simp [Value.oneCell']) (by omega) ?_
                     intro v5 w5 hr5 hk5 hn5
                     obtain ⟨A5, c5, rfl⟩ := hr5.shape
                     have HR5 := bx hr5
                     have HK5 := bx (show Kept (isAt (.slice lA k lc)) Y w5 from Kept.trans (S := isAt (.slice lA k lc)) ((Kept.refl (isAt (.slice lA k lc)) Y).alloc _) hk5 (fun _ _ h => h))
                     have HN5 := bx hn5
                     clear hr5 hk5 hn5))
                go_roundw
                case rel =>
                  refine ⟨k + 1, by omega, by go_num, ?_, grown_at HAT.out HN5.out (by have := HKK.out.size; simp; omega), HRR.out.kept HK5.out (fun e => by have := HAT.out p e; have := HPL.out; omega), HKK.out.trans HK5.out (fun g hg h => by have := HAT.out g h; omega)⟩
                  have h := HR5.out
                  rw [List.replicate_succ', nums_append]
                  exact h
                case measure => exact measN _ k hkm
              · have hke : k = lack := by omega
                have q5 : decide ((k : Int) < ((lack : Nat) : Int)) = false := decide_eq_false hkm
                have q5' : decide (k < lack) = false := decide_eq_false (by omega)
                have HKE := bx hke
                clear hke
                go_wp2_with fail
                go_ret2
                exact chunk_some HSH.out HN.out (by rw [List.length_replicate]; exact HKE.out) (by rw [← HKE.out]; exact HRW.out) HAT.out HRR.out HKK.out
    · have q2 : (b0 == 0) = false := by rw [beq_eq_false_iff_ne]; exact hb0
      have HB0 := bx (show ¬ val s r 1 = 0 by rw [← Hb0.out]; exact hb0)
      clear hb0
      go_wp2_with fail
      refine (get_fit 1 1 rfl HXX1.out (by omega) (by have := HFT.out; omega) HS.out).mono ?_
      rintro e X2 ⟨rfl, h1, hk1⟩
      have HXX2 := bx (show RR 77 X2 p s (r + 1 + 1) false from h1)
      have HKX2 := bx (show Kept (fun k => k = p) w X2 from HKX1.out.trans hk1 (fun _ _ h => h))
      obtain ⟨b1, hv⟩ : ∃ v, v = val s (r + 1) 1 := ⟨_, rfl⟩
      obtain ⟨b1_lo, b1_hi⟩ : 0 ≤ b1 ∧ b1 < 2 := by rw [hv]; exact val_bd s (r + 1) 1
      rw [← hv]
      have Hb1 := bx hv
      clear h1 hk1 hv
      have HXX2' := bx (show RR 77 X2 p s (r + 2) false from HXX2.out)
      clear HXX1 HXX2
      have HXX2 := HXX2'
      clear HXX2'
      by_cases hb1 : b1 = 1
      · have q3 : (b1 == 1) = true := by rw [beq_iff_eq]; exact hb1
        have HB1 := bx (show val s (r + 1) 1 = 1 by rw [← Hb1.out]; exact hb1)
        clear hb1
        have HCD := bx (show chunkD s r lack = if rowOk s (r + 2) 2 lack 7 = true then some (rowL s (r + 2) 2 (min 7 lack)) else none by
          unfold chunkD
          rw [if_neg HB0.out, if_pos HB1.out])
        go_wp2_with fail
        go_loopw [6, 11, 47] (fun lv ov iv wx => ∃ k : Nat, (k : Int) ≤ 7 ∧ iv = .int .i64 (k : Int) ∧ ov = .bool (rowOk s (r + 2) 2 lack k) ∧ ∃ (v : Value) (m : Nat), lv = v ∧ m = min k lack ∧ RW wx 1 v m (nums .i64 (rowL s (r + 2) 2 m)) ∧ (∀ g, isAt v g → w.heap.size ≤ g) ∧ RR 77 wx p s (r + 2 + 2 * k) false ∧ Kept (fun k => k = p) w wx) (fun _ _ iv _ => (7 - intOf iv).toNat)
        case atStart => exact ⟨0, by omega, rfl, rfl, .slice none 0 0, 0, rfl, by omega, RW.nil _ _, (by rintro g ⟨o, m, c, e⟩; cases e), HXX2.out, HKX2.out⟩
        case round =>
          obtain ⟨k, hk, rfl, rfl, lv, m, rfl, hm, hrw, hat, hrr, hkk⟩ := hrel
          obtain ⟨lA, lc, rfl⟩ := hrw.shape
          have HRW := bx hrw
          have HAT := bx hat
          have HRR := bx hrr
          have HKK := bx hkk
          rename World => Y
          clear hrw hat hrr hkk
          by_cases hkm : (k : Int) < 7
          · have q5 : decide ((k : Int) < 7) = true := decide_eq_true hkm
            have q5' : decide (k < 7) = true := decide_eq_true (by omega)
            go_wp2_with fail
            refine (get_fit 2 2 rfl HRR.out (by omega) (by have := HFT.out; omega) HS.out).mono ?_
            rintro e Y2 ⟨rfl, h1, hk1⟩
            have HRR2 := bx h1
            have HRW2 := bx (HRW.out.kept hk1 (fun g hg e => by have := HAT.out g hg; have := HPL.out; omega))
            have HKK2 := bx (show Kept (fun k => k = p) w Y2 from HKK.out.trans hk1 (fun _ _ h => h))
            obtain ⟨c, hv⟩ : ∃ v, v = val s (r + 2 + 2 * k) 2 := ⟨_, rfl⟩
            obtain ⟨c_lo, c_hi⟩ : 0 ≤ c ∧ c < 4 := by rw [hv]; exact val_bd s _ 2
            rw [← hv]
            have HCC := bx (show c = codeAt s (r + 2) 2 k from hv)
            clear h1 hk1 hv
            by_cases hkl : (k : Int) < (lack : Int)
            · have hmk : k = m := by omega
              clear hm
              subst hmk
              have q6 : decide ((k : Int) < (lack : Int)) = true := decide_eq_true hkl
              have q6' : decide (k < lack) = true := decide_eq_true (by omega)
              cases hok : rowOk s (r + 2) 2 lack k with
              | false =>
                have HOK := bx (show rowOk s (r + 2) 2 lack (k + 1) = false by rw [rowOk, hok]; rfl)
                clear hok
                go_wp2_with (first
                  | (at_builtin
                     refine wpList_row rfl (.tmp 71) (.tmp 73) 23 rfl 3 (.int .i64 0) 1 8 Try.underlying23 info_int rfl (by omega) (.slice lA k lc) k (nums .i64 (rowL s (r + 2) 2 k)) rfl (HRW2.out.kept ((Kept.refl (fun _ => False) Y2).alloc _) (fun _ _ => id)) _ _ [.int .i64 c] rfl (Rd.one Y2 _ _) (by simp [Value.oneCell']) (by omega) ?_
                     intro v5 w5 hr5 hk5 hn5
                     obtain ⟨A5, c5, rfl⟩ := hr5.shape
                     have HR5 := bx hr5
                     have HK5 := bx (show Kept (isAt (.slice lA k lc)) Y2 w5 from Kept.trans (S := isAt (.slice lA k lc)) ((Kept.refl (isAt (.slice lA k lc)) Y2).alloc _) hk5 (fun _ _ h => h))
                     have HN5 := bx hn5
                     clear hr5 hk5 hn5))
                go_roundw
                case rel =>
                  refine ⟨k + 1, by omega, by go_num, by rw [HOK.out], .slice A5 (k + 1) c5, k + 1, rfl, by omega, ?_, grown_at HAT.out HN5.out (by have := HKK2.out.size; simp; omega), ?_, HKK2.out.trans HK5.out (fun g hg h => by have := HAT.out g h; omega)⟩
                  · have h := HR5.out
                    rw [rowL_succ, nums_append, ← HCC.out]
                    exact h
                  · have h := HRR2.out.kept HK5.out (fun e => by have := HAT.out p e; have := HPL.out; omega)
                    rwa [show r + 2 + 2 * k + 2 = r + 2 + 2 * (k + 1) by omega] at h
                case measure => exact measL _ k hkm
              | true =>
                by_cases hc2 : 2 < c
                · have HOK := bx (show rowOk s (r + 2) 2 lack (k + 1) = false by rw [rowOk, ← HCC.out, decide_eq_false (p := c ≤ 2) (by omega)]; simp)
                  have q7 : decide (c ≤ 2) = false := decide_eq_false (by omega)
                  clear hok hc2
                  go_wp2_with (first
                    | (at_builtin
                       refine wpList_row rfl (.tmp 71) (.tmp 73) 23 rfl 3 (.int .i64 0) 1 8 Try.underlying23 info_int rfl (by omega) (.slice lA k lc) k (nums .i64 (rowL s (r + 2) 2 k)) rfl (HRW2.out.kept ((Kept.refl (fun _ => False) Y2).alloc _) (fun _ _ => id)) _ _ [.int .i64 c] rfl (Rd.one Y2 _ _) (by simp [Value.oneCell']) (by omega) ?_
                       intro v5 w5 hr5 hk5 hn5
                       obtain ⟨A5, c5, rfl⟩ := hr5.shape
                       have HR5 := bx hr5
                       have HK5 := bx (show Kept (isAt (.slice lA k lc)) Y2 w5 from Kept.trans (S := isAt (.slice lA k lc)) ((Kept.refl (isAt (.slice lA k lc)) Y2).alloc _) hk5 (fun _ _ h => h))
                       have HN5 := bx hn5
                       clear hr5 hk5 hn5))
                  go_roundw
                  case rel =>
                    refine ⟨k + 1, by omega, by go_num, by rw [HOK.out], .slice A5 (k + 1) c5, k + 1, rfl, by omega, ?_, grown_at HAT.out HN5.out (by have := HKK2.out.size; simp; omega), ?_, HKK2.out.trans HK5.out (fun g hg h => by have := HAT.out g h; omega)⟩
                    · have h := HR5.out
                      rw [rowL_succ, nums_append, ← HCC.out]
                      exact h
                    · have h := HRR2.out.kept HK5.out (fun e => by have := HAT.out p e; have := HPL.out; omega)
                      rwa [show r + 2 + 2 * k + 2 = r + 2 + 2 * (k + 1) by omega] at h
                  case measure => exact measL _ k hkm
                · have HOK := bx (show rowOk s (r + 2) 2 lack (k + 1) = true by rw [rowOk, ← HCC.out, decide_eq_true (p := c ≤ 2) (by omega), hok, decide_eq_true (p := k < lack) (by omega)]; rfl)
                  have q7 : decide (c ≤ 2) = true := decide_eq_true (by omega)
                  clear hok hc2
                  go_wp2_with (first
                    | (at_builtin
                       refine wpList_row rfl (.tmp 71) (.tmp 73) 23 rfl 3 (.int .i64 0) 1 8 Try.underlying23 info_int rfl (by omega) (.slice lA k lc) k (nums .i64 (rowL s (r + 2) 2 k)) rfl (HRW2.out.kept ((Kept.refl (fun _ => False) Y2).alloc _) (fun _ _ => id)) _ _ [.int .i64 c] rfl (Rd.one Y2 _ _) (by simp [Value.oneCell']) (by omega) ?_
                       intro v5 w5 hr5 hk5 hn5
                       obtain ⟨A5, c5, rfl⟩ := hr5.shape
                       have HR5 := bx hr5
                       have HK5 := bx (show Kept (isAt (.slice lA k lc)) Y2 w5 from Kept.trans (S := isAt (.slice lA k lc)) ((Kept.refl (isAt (.slice lA k lc)) Y2).alloc _) hk5 (fun _ _ h => h))
                       have HN5 := bx hn5
                       clear hr5 hk5 hn5))
                  go_roundw
                  case rel =>
                    refine ⟨k + 1, by omega, by go_num, by rw [HOK.out], .slice A5 (k + 1) c5, k + 1, rfl, by omega, ?_, grown_at HAT.out HN5.out (by have := HKK2.out.size; simp; omega), ?_, HKK2.out.trans HK5.out (fun g hg h => by have := HAT.out g h; omega)⟩
                    · have h := HR5.out
                      rw [rowL_succ, nums_append, ← HCC.out]
                      exact h
                    · have h := HRR2.out.kept HK5.out (fun e => by have := HAT.out p e; have := HPL.out; omega)
                      rwa [show r + 2 + 2 * k + 2 = r + 2 + 2 * (k + 1) by omega] at h
                  case measure => exact measL _ k hkm
            · have hml : lack = m := by omega
              clear hm
              subst hml
              have q6 : decide ((k : Int) < (lack : Int)) = false := decide_eq_false hkl
              have q6' : decide (k < lack) = false := decide_eq_false (by omega)
              cases hok : rowOk s (r + 2) 2 lack k with
              | false =>
                have HOK := bx (show rowOk s (r + 2) 2 lack (k + 1) = false by rw [rowOk, hok]; rfl)
                clear hok
                go_wp2_with fail
                go_roundw
                case rel =>
                  refine ⟨k + 1, by omega, by go_num, by rw [HOK.out], .slice lA lack lc, lack, rfl, by omega, HRW2.out, HAT.out, ?_, HKK2.out⟩
                  have h := HRR2.out
                  rwa [show r + 2 + 2 * k + 2 = r + 2 + 2 * (k + 1) by omega] at h
                case measure => exact measL _ k hkm
              | true =>
                by_cases hc2 : 2 < c
                · have HOK := bx (show rowOk s (r + 2) 2 lack (k + 1) = false by rw [rowOk, ← HCC.out, decide_eq_false (p := c ≤ 2) (by omega)]; simp)
                  have q7 : decide (c ≤ 2) = false := decide_eq_false (by omega)
                  clear hok hc2
                  go_wp2_with fail
                  go_roundw
                  case rel =>
                    refine ⟨k + 1, by omega, by go_num, by rw [HOK.out], .slice lA lack lc, lack, rfl, by omega, HRW2.out, HAT.out, ?_, HKK2.out⟩
                    have h := HRR2.out
                    rwa [show r + 2 + 2 * k + 2 = r + 2 + 2 * (k + 1) by omega] at h
                  case measure => exact measL _ k hkm
                · have q7 : decide (c ≤ 2) = true := decide_eq_true (by omega)
                  by_cases hc0 : c = 0
                  · have HOK := bx (show rowOk s (r + 2) 2 lack (k + 1) = true by rw [rowOk, ← HCC.out, decide_eq_true (p := c ≤ 2) (by omega), hok, decide_eq_true (p := c = 0) hc0, Bool.or_true]; rfl)
                    have q8 : (c == 0) = true := by rw [beq_iff_eq]; exact hc0
                    clear hok hc2 hc0
                    go_wp2_with fail
                    go_roundw
                    case rel =>
                      refine ⟨k + 1, by omega, by go_num, by rw [HOK.out], .slice lA lack lc, lack, rfl, by omega, HRW2.out, HAT.out, ?_, HKK2.out⟩
                      have h := HRR2.out
                      rwa [show r + 2 + 2 * k + 2 = r + 2 + 2 * (k + 1) by omega] at h
                    case measure => exact measL _ k hkm
                  · have HOK := bx (show rowOk s (r + 2) 2 lack (k + 1) = false by rw [rowOk, ← HCC.out, decide_eq_false (p := c = 0) hc0, decide_eq_false (p := k < lack) (by omega)]; simp)
                    have q8 : (c == 0) = false := by rw [beq_eq_false_iff_ne]; exact hc0
                    clear hok hc2 hc0
                    go_wp2_with fail
                    go_roundw
                    case rel =>
                      refine ⟨k + 1, by omega, by go_num, by rw [HOK.out], .slice lA lack lc, lack, rfl, by omega, HRW2.out, HAT.out, ?_, HKK2.out⟩
                      have h := HRR2.out
                      rwa [show r + 2 + 2 * k + 2 = r + 2 + 2 * (k + 1) by omega] at h
                    case measure => exact measL _ k hkm
          · have hke : k = 7 := by omega
            subst hke
            have HMM := bx hm
            clear hm
            have q5 : decide (((7 : Nat) : Int) < 7) = false := by decide
            clear hkm hk
            cases hok : rowOk s (r + 2) 2 lack 7 with
            | false =>
              have HN := bx (show chunkD s r lack = none by rw [HCD.out, hok]; rfl)
              clear hok
              go_wp2_with fail
              go_ret2
              exact chunk_none HSH.out HN.out HKK.out
            | true =>
              have HN := bx (show chunkD s r lack = some (rowL s (r + 2) 2 m) by rw [HCD.out, hok, HMM.out]; rfl)
              clear hok
              go_wp2_with fail
              go_ret2
              refine chunk_some HSH.out HN.out (by rw [rowL_len]) HRW.out HAT.out ?_ HKK.out
              have h := HRR.out
              rwa [show r + 2 + 2 * 7 = r + 16 by omega] at h
      · have q3 : (b1 == 1) = false := by rw [beq_eq_false_iff_ne]; exact hb1
        have HB1 := bx (show ¬ val s (r + 1) 1 = 1 by rw [← Hb1.out]; exact hb1)
        clear hb1
        have HCD := bx (show chunkD s r lack = if rowOk s (r + 2) 1 lack 14 = true then some (rowL s (r + 2) 1 (min 14 lack)) else none by
          unfold chunkD
          rw [if_neg HB0.out, if_neg HB1.out])
        go_wp2_with fail
        go_loopw [6, 11, 47] (fun lv ov iv wx => ∃ k : Nat, (k : Int) ≤ 14 ∧ iv = .int .i64 (k : Int) ∧ ov = .bool (rowOk s (r + 2) 1 lack k) ∧ ∃ (v : Value) (m : Nat), lv = v ∧ m = min k lack ∧ RW wx 1 v m (nums .i64 (rowL s (r + 2) 1 m)) ∧ (∀ g, isAt v g → w.heap.size ≤ g) ∧ RR 77 wx p s (r + 2 + 1 * k) false ∧ Kept (fun k => k = p) w wx) (fun _ _ iv _ => (14 - intOf iv).toNat)
        case atStart => exact ⟨0, by omega, rfl, rfl, .slice none 0 0, 0, rfl, by omega, RW.nil _ _, (by rintro g ⟨o, m, c, e⟩; cases e), HXX2.out, HKX2.out⟩
        case round =>
          obtain ⟨k, hk, rfl, rfl, lv, m, rfl, hm, hrw, hat, hrr, hkk⟩ := hrel
          obtain ⟨lA, lc, rfl⟩ := hrw.shape
          have HRW := bx hrw
          have HAT := bx hat
          have HRR := bx hrr
          have HKK := bx hkk
          rename World => Y
          clear hrw hat hrr hkk
          by_cases hkm : (k : Int) < 14
          · have q5 : decide ((k : Int) < 14) = true := decide_eq_true hkm
            have q5' : decide (k < 14) = true := decide_eq_true (by omega)
            go_wp2_with fail
            refine (get_fit 1 1 rfl HRR.out (by omega) (by have := HFT.out; omega) HS.out).mono ?_
            rintro e Y2 ⟨rfl, h1, hk1⟩
            have HRR2 := bx h1
            have HRW2 := bx (HRW.out.kept hk1 (fun g hg e => by have := HAT.out g hg; have := HPL.out; omega))
            have HKK2 := bx (show Kept (fun k => k = p) w Y2 from HKK.out.trans hk1 (fun _ _ h => h))
            obtain ⟨c, hv⟩ : ∃ v, v = val s (r + 2 + 1 * k) 1 := ⟨_, rfl⟩
            obtain ⟨c_lo, c_hi⟩ : 0 ≤ c ∧ c < 2 := by rw [hv]; exact val_bd s _ 1
            rw [← hv]
            have HCC := bx (show c = codeAt s (r + 2) 1 k from hv)
            clear h1 hk1 hv
            by_cases hkl : (k : Int) < (lack : Int)
            · have hmk : k = m := by omega
              clear hm
              subst hmk
              have q6 : decide ((k : Int) < (lack : Int)) = true := decide_eq_true hkl
              have q6' : decide (k < lack) = true := decide_eq_true (by omega)
              cases hok : rowOk s (r + 2) 1 lack k with
              | false =>
                have HOK := bx (show rowOk s (r + 2) 1 lack (k + 1) = false by rw [rowOk, hok]; rfl)
                clear hok
                go_wp2_with (first
                  | (at_builtin
                     refine wpList_row rfl (.tmp 71) (.tmp 73) 23 rfl 3 (.int .i64 0) 1 8 Try.underlying23 info_int rfl (by omega) (.slice lA k lc) k (nums .i64 (rowL s (r + 2) 1 k)) rfl (HRW2.out.kept ((Kept.refl (fun _ => False) Y2).alloc _) (fun _ _ => id)) _ _ [.int .i64 c] rfl (Rd.one Y2 _ _) (by simp [Value.oneCell']) (by omega) ?_
                     intro v5 w5 hr5 hk5 hn5
                     obtain ⟨A5, c5, rfl⟩ := hr5.shape
                     have HR5 := bx hr5
                     have HK5 := bx (show Kept (isAt (.slice lA k lc)) Y2 w5 from Kept.trans (S := isAt (.slice lA k lc)) ((Kept.refl (isAt (.slice lA k lc)) Y2).alloc _) hk5 (fun _ _ h => h))
                     have HN5 := bx hn5
                     clear hr5 hk5 hn5))
                go_roundw
                case rel =>
                  refine ⟨k + 1, by omega, by go_num, by rw [HOK.out], .slice A5 (k + 1) c5, k + 1, rfl, by omega, ?_, grown_at HAT.out HN5.out (by have := HKK2.out.size; simp; omega), ?_, HKK2.out.trans HK5.out (fun g hg h => by have := HAT.out g h; omega)⟩
                  · have h := HR5.out
                    rw [rowL_succ, nums_append, ← HCC.out]
                    exact h
                  · have h := HRR2.out.kept HK5.out (fun e => by have := HAT.out p e; have := HPL.out; omega)
                    rwa [show r + 2 + 1 * k + 1 = r + 2 + 1 * (k + 1) by omega] at h
                case measure => exact measL _ k hkm
              | true =>
                by_cases hc2 : 2 < c
                · have HOK := bx (show rowOk s (r + 2) 1 lack (k + 1) = false by rw [rowOk, ← HCC.out, decide_eq_false (p := c ≤ 2) (by omega)]; simp)
                  have q7 : decide (c ≤ 2) = false := decide_eq_false (by omega)
                  clear hok hc2
                  go_wp2_with (first
                    | (at_builtin
                       refine wpList_row rfl (.tmp 71) (.tmp 73) 23 rfl 3 (.int .i64 0) 1 8 Try.underlying23 info_int rfl (by omega) (.slice lA k lc) k (nums .i64 (rowL s (r + 2) 1 k)) rfl (HRW2.out.kept ((Kept.refl (fun _ => False) Y2).alloc _) (fun _ _ => id)) _ _ [.int .i64 c] rfl (Rd.one Y2 _ _) (by simp [Value.oneCell']) (by omega) ?_
                       intro v5 w5 hr5 hk5 hn5
                       obtain ⟨A5, c5, rfl⟩ := hr5.shape
                       have HR5 := bx hr5
                       have HK5 := bx (show Kept (isAt (.slice lA k lc)) Y2 w5 from Kept.trans (S := isAt (.slice lA k lc)) ((Kept.refl (isAt (.slice lA k lc)) Y2).alloc _) hk5 (fun _ _ h => h))
                       have HN5 := bx hn5
                       clear hr5 hk5 hn5))
                  go_roundw
                  case rel =>
                    refine ⟨k + 1, by omega, by go_num, by rw [HOK.out], .slice A5 (k + 1) c5, k + 1, rfl, by omega, ?_, grown_at HAT.out HN5.out (by have := HKK2.out.size; simp; omega), ?_, HKK2.out.trans HK5.out (fun g hg h => by have := HAT.out g h; omega)⟩
                    · have h := HR5.out
                      rw [rowL_succ, nums_append, ← HCC.out]
                      exact h
                    · have h := HRR2.out.kept HK5.out (fun e => by have := HAT.out p e; have := HPL.out; omega)
                      rwa [show r + 2 + 1 * k + 1 = r + 2 + 1 * (k + 1) by omega] at h
                  case measure => exact measL _ k hkm
                · have HOK := bx (show rowOk s (r + 2) 1 lack (k + 1) = true by rw [rowOk, ← HCC.out, decide_eq_true (p := c ≤ 2) (by omega), hok, decide_eq_true (p := k < lack) (by omega)]; rfl)
                  have q7 : decide (c ≤ 2) = true := decide_eq_true (by omega)
                  clear hok hc2
                  go_wp2_with (first
                    | (at_builtin
                       refine wpList_row rfl (.tmp 71) (.tmp 73) 23 rfl 3 (.int .i64 0) 1 8 Try.underlying23 info_int rfl (by omega) (.slice lA k lc) k (nums .i64 (rowL s (r + 2) 1 k)) rfl (HRW2.out.kept ((Kept.refl (fun _ => False) Y2).alloc _) (fun _ _ => id)) _ _ [.int .i64 c] rfl (Rd.one Y2 _ _) (by simp [Value.oneCell']) (by omega) ?_
                       intro v5 w5 hr5 hk5 hn5
                       obtain ⟨A5, c5, rfl⟩ := hr5.shape
                       have HR5 := bx hr5
                       have HK5 := bx (show Kept (isAt (.slice lA k lc)) Y2 w5 from Kept.trans (S := isAt (.slice lA k lc)) ((Kept.refl (isAt (.slice lA k lc)) Y2).alloc _) hk5 (fun _ _ h => h))
                       have HN5 := bx hn5
                       clear hr5 hk5 hn5))
                  go_roundw
                  case rel =>
                    refine ⟨k + 1, by omega, by go_num, by rw [HOK.out], .slice A5 (k + 1) c5, k + 1, rfl, by omega, ?_, grown_at HAT.out HN5.out (by have := HKK2.out.size; simp; omega), ?_, HKK2.out.trans HK5.out (fun g hg h => by have := HAT.out g h; omega)⟩
                    · have h := HR5.out
                      rw [rowL_succ, nums_append, ← HCC.out]
                      exact h
                    · have h := HRR2.out.kept HK5.out (fun e => by have := HAT.out p e; have := HPL.out; omega)
                      rwa [show r + 2 + 1 * k + 1 = r + 2 + 1 * (k + 1) by omega] at h
                  case measure => exact measL _ k hkm
            · have hml : lack = m := by omega
              clear hm
              subst hml
              have q6 : decide ((k : Int) < (lack : Int)) = false := decide_eq_false hkl
              have q6' : decide (k < lack) = false := decide_eq_false (by omega)
              cases hok : rowOk s (r + 2) 1 lack k with
              | false =>
                have HOK := bx (show rowOk s (r + 2) 1 lack (k + 1) = false by rw [rowOk, hok]; rfl)
                clear hok
                go_wp2_with fail
                go_roundw
                case rel =>
                  refine ⟨k + 1, by omega, by go_num, by rw [HOK.out], .slice lA lack lc, lack, rfl, by omega, HRW2.out, HAT.out, ?_, HKK2.out⟩
                  have h := HRR2.out
                  rwa [show r + 2 + 1 * k + 1 = r + 2 + 1 * (k + 1) by omega] at h
                case measure => exact measL _ k hkm
              | true =>
                by_cases hc2 : 2 < c
                · have HOK := bx (show rowOk s (r + 2) 1 lack (k + 1) = false by rw [rowOk, ← HCC.out, decide_eq_false (p := c ≤ 2) (by omega)]; simp)
                  have q7 : decide (c ≤ 2) = false := decide_eq_false (by omega)
                  clear hok hc2
                  go_wp2_with fail
                  go_roundw
                  case rel =>
                    refine ⟨k + 1, by omega, by go_num, by rw [HOK.out], .slice lA lack lc, lack, rfl, by omega, HRW2.out, HAT.out, ?_, HKK2.out⟩
                    have h := HRR2.out
                    rwa [show r + 2 + 1 * k + 1 = r + 2 + 1 * (k + 1) by omega] at h
                  case measure => exact measL _ k hkm
                · have q7 : decide (c ≤ 2) = true := decide_eq_true (by omega)
                  by_cases hc0 : c = 0
                  · have HOK := bx (show rowOk s (r + 2) 1 lack (k + 1) = true by rw [rowOk, ← HCC.out, decide_eq_true (p := c ≤ 2) (by omega), hok, decide_eq_true (p := c = 0) hc0, Bool.or_true]; rfl)
                    have q8 : (c == 0) = true := by rw [beq_iff_eq]; exact hc0
                    clear hok hc2 hc0
                    go_wp2_with fail
                    go_roundw
                    case rel =>
                      refine ⟨k + 1, by omega, by go_num, by rw [HOK.out], .slice lA lack lc, lack, rfl, by omega, HRW2.out, HAT.out, ?_, HKK2.out⟩
                      have h := HRR2.out
                      rwa [show r + 2 + 1 * k + 1 = r + 2 + 1 * (k + 1) by omega] at h
                    case measure => exact measL _ k hkm
                  · have HOK := bx (show rowOk s (r + 2) 1 lack (k + 1) = false by rw [rowOk, ← HCC.out, decide_eq_false (p := c = 0) hc0, decide_eq_false (p := k < lack) (by omega)]; simp)
                    have q8 : (c == 0) = false := by rw [beq_eq_false_iff_ne]; exact hc0
                    clear hok hc2 hc0
                    go_wp2_with fail
                    go_roundw
                    case rel =>
                      refine ⟨k + 1, by omega, by go_num, by rw [HOK.out], .slice lA lack lc, lack, rfl, by omega, HRW2.out, HAT.out, ?_, HKK2.out⟩
                      have h := HRR2.out
                      rwa [show r + 2 + 1 * k + 1 = r + 2 + 1 * (k + 1) by omega] at h
                    case measure => exact measL _ k hkm
          · have hke : k = 14 := by omega
            subst hke
            have HMM := bx hm
            clear hm
            have q5 : decide (((14 : Nat) : Int) < 14) = false := by decide
            clear hkm hk
            cases hok : rowOk s (r + 2) 1 lack 14 with
            | false =>
              have HN := bx (show chunkD s r lack = none by rw [HCD.out, hok]; rfl)
              clear hok
              go_wp2_with fail
              go_ret2
              exact chunk_none HSH.out HN.out HKK.out
            | true =>
              have HN := bx (show chunkD s r lack = some (rowL s (r + 2) 1 m) by rw [HCD.out, hok, HMM.out]; rfl)
              clear hok
              go_wp2_with fail
              go_ret2
              refine chunk_some HSH.out HN.out (by rw [rowL_len]) HRW.out HAT.out ?_ HKK.out
              have h := HRR.out
              rwa [show r + 2 + 1 * 14 = r + 16 by omega] at h
end Go.Proofs.Ytmedlplgeeeodaa.Tw
