/- The law BitsBack; no condition but that the arguments are of their kinds. -/
import Derived.Test.YtlbpoenkdnampaaBitsLaw4
import Derived.Test.YtlbpoenkdnampaaBitsLaw2
namespace Go.Proofs.Ytlbpoenkdnampaa.Bits
open Go.RowKit Go.Proofs.Ytlbpoenkdnampaa.Plain Go.Proofs.Ytlbpoenkdnampaa.Heap Go.Proofs.Ytlbpoenkdnampaa.Open

/-- A writer and a reader of the call's own. -/
def BW (t t' : TypeId) (B : Nat) (w0 w : World) (p q : Nat) (L : List Int) (s : ByteArray) (x : Nat × Bool) : Prop := RB t' B w0 w q s x ∧ p ≠ q ∧ ∃ g, (∀ k, g = some k → k ≠ q) ∧ WR t w p g L
section
variable {t t' : TypeId} {B : Nat} {w0 w : World} {p q : Nat} {L : List Int} {s : ByteArray} {x : Nat × Bool}
theorem BW.step {w' : World} {x' : Nat × Bool} (h : BW t t' B w0 w p q L s x) (hr : RB t' B w0 w' q s x') (hk : Kept (fun k => k = q) w w') : BW t t' B w0 w' p q L s x' := by
  obtain ⟨h1, h2, g, h3, h4⟩ := h
  exact ⟨hr, h2, g, h3, h4.kept hk h2 h3⟩
theorem BW.quiet (h : BW t t' B w0 w p q L s x) (k : Nat) : BW t t' B w0 (w.drewN k) p q L s x := by
  obtain ⟨h1, h2, g, h3, h4⟩ := h
  exact ⟨h1.quiet k, h2, g, h3, h4.drewN k⟩
theorem BW.drew (h : BW t t' B w0 w p q L s x) : BW t t' B w0 w.drew p q L s x := by
  obtain ⟨h1, h2, g, h3, h4⟩ := h
  exact ⟨h1.drew, h2, g, h3, h4⟩
theorem BW.done {w' : World} (h : BW t t' B w0 w p q L s x) (hb : Below w.heap.size w w') : Below B w0 w' := below_then h.1.2.2.1 h.1.2.1 hb
theorem BW.cell (h : BW t t' B w0 w p q L s x) {b off : Nat} {u : Value} (hb : b < B) (hc : w0.cell? ⟨b, off, none⟩ = some u) : w.cell? ⟨b, off, none⟩ = some u := (h.1.2.2.1.cell (p := ⟨b, off, none⟩) hb).trans hc
theorem BW.new {w' : World} (h : WB t B w0 w p L) (h' : w' = w.alloc (.cells #[.string s, .int .i64 0, .bool false] t')) : BW t t' B w0 w' p w.heap.size L s (0, false) := by
  have hr := RB.new t' B w0 w w' p s h h'
  obtain ⟨h1, h2, h3, g, h4, h5⟩ := h
  obtain ⟨l1, l2⟩ := h5.lt
  refine ⟨hr, by omega, g, fun k hk => by have := l2 k hk; omega, ?_⟩
  subst h'
  exact h5.kept ((Kept.refl (fun _ => False) w).alloc _) id (fun _ _ => id)
theorem WB.cell (h : WB t B w0 w p L) {b off : Nat} {u : Value} (hb : b < B) (hc : w0.cell? ⟨b, off, none⟩ = some u) : w.cell? ⟨b, off, none⟩ = some u := (h.2.2.1.cell (p := ⟨b, off, none⟩) hb).trans hc
end
section
variable {t : TypeId} (B : Nat) (w0 w : World) (p q : Nat) (L : List Int) (s : ByteArray) (x : Nat × Bool) (n : Int)
theorem get_bw (h : BW t 48 B w0 w p q L s x) (hs : s.size ≤ 1099511627776) :
    Calls Try.prog 12 #[.pointer (some ⟨q, 0, none⟩), .int .i64 n] w fun e w' => e = .returned (.int .u32 (gets s x.1 x.2 n).1) ∧ BW t 48 B w0 w' p q L s (gets s x.1 x.2 n).2 :=
  (get_rb B w0 w s x n q h.1 hs).mono fun _ _ ⟨k1, k2, k3⟩ => ⟨k1, h.step k2 k3⟩
theorem left_bw (h : BW t 48 B w0 w p q L s x) (hs : s.size ≤ 1099511627776) :
    Calls Try.prog 14 #[.pointer (some ⟨q, 0, none⟩)] w fun e w' => e = .returned (.int .i64 (left s x.1 x.2)) ∧ BW t 48 B w0 w' p q L s x :=
  (left_rb B w0 w s x q h.1 hs).mono fun e w' ⟨k1, k2, k, k3⟩ => by subst k3; exact ⟨k1, h.quiet k⟩
theorem bad_bw (h : BW t 48 B w0 w p q L s x) :
    Calls Try.prog 16 #[.pointer (some ⟨q, 0, none⟩)] w fun e w' => e = .returned (.bool x.2) ∧ BW t 48 B w0 w' p q L s x :=
  (bad_rb B w0 w s x q h.1).mono fun e w' ⟨k1, k2, k, k3⟩ => by subst k3; exact ⟨k1, h.quiet k⟩
theorem text_bw {t' : TypeId} (h : BW 53 t' B w0 w p q L s x) :
    Calls Try.prog 20 #[.pointer (some ⟨p, 0, none⟩)] w fun e w' => e = .returned (.string (txt L)) ∧ w = w' := by
  obtain ⟨h1, h2, g, h3, h4⟩ := h
  exact text_any L p g w h4
end
def UpTo (k n : Nat) : Prop := k ≤ n ∧ k ≤ 300
theorem mask_walk (v : Int) (h0 : 0 ≤ v) (h1 : v < 4294967296) (k : Nat) : ((k : Int) < 32 → Go.bits .and .u32 v ((2 ^ k - 1) % 4294967296) = v % 2 ^ k) ∧ (k = 32 → v % 2 ^ k = v) := by
  obtain ⟨V, rfl⟩ := Int.eq_ofNat_of_zero_le h0
  refine ⟨fun hk => ?_, fun hk => by subst hk; omega⟩
  have p0 : 0 < 2 ^ k := Nat.pow_pos (by omega)
  have p1 : 2 ^ k ≤ 2 ^ 31 := Nat.pow_le_pow_right (by omega) (by omega)
  have e : ((2 : Int) ^ k - 1) % 4294967296 = ((2 ^ k - 1 : Nat) : Int) := by
    have h2 : ((2 ^ k : Nat) : Int) = (2 : Int) ^ k := by simp
    rw [← h2]
    omega
  rw [e, u32_and _ _ (by omega) (by omega) (by omega) (by omega), Int.toNat_natCast, Int.toNat_natCast, Nat.and_two_pow_sub_one_eq_mod]
  simp
set_option maxRecDepth 5000 in
set_option maxHeartbeats 400000 in
theorem BitsBack_any (A : Option Addr) (n c : Nat) (xs : Steps) (w : World) (hr : RS w A n xs) :
    Calls Try.prog 4 #[.slice A n c] w fun e w' => e = .returned (.bool true) ∧ Below w.heap.size w w' := by
  have HR := Lib.hid hr
  clear hr
  go_enter Try.func4, Try.ntmps4
  go_wp2_with fail
  refine (write_wb _).mono ?_
  rintro e w1 ⟨rfl, h1⟩
  have H1 := Lib.hid h1; clear h1
  obtain ⟨p, hp⟩ : ∃ p, p = w.heap.size := ⟨_, rfl⟩
  rw [← hp]
  have H3 := Lib.hid (show WB 53 w.heap.size w w1 p [] by rw [hp]; exact H1.out)
  clear H1 hp
  go_wp2
  go_loopw [4, 5] (fun sv i wr => ∃ k : Nat, UpTo k n ∧ i = .int .i64 k ∧ sv = .int .i64 ((cat xs k).length : Nat) ∧ WB 53 w.heap.size w wr p (cat xs k)) (fun _ i _ => n - (intOf i).toNat)
  case atStart => exact ⟨0, ⟨Nat.zero_le _, Nat.zero_le _⟩, rfl, rfl, H3.out⟩
  case round =>
    obtain ⟨k, hk, rfl, rfl, hrp⟩ := hrel
    have HQ := Lib.hid hrp
    have HK := Lib.hid hk
    clear hrp hk
    by_cases hlt : k < n ∧ (k : Int) < 300
    · obtain ⟨hlt, hlt3⟩ := hlt
      obtain ⟨b, off, rfl, hblt, hcell⟩ := HR.out.2.2 (by omega)
      obtain ⟨kd, v, m, hx, hv0, hv1, _, q0, q1, q2⟩ := hcell k hlt
      have c1 := HQ.out.cell hblt q1
      have c2 := HQ.out.cell hblt q2
      have HX := Lib.hid (cat_succ hx)
      have HL := Lib.hid (cat_le xs k)
      have HT := Lib.hid (show k ≤ 300 from HK.out.2)
      clear hcell q0 q1 q2 hx
      have ek := kof_walk m
      have HKK := Lib.hid (kof_le m)
      have HP := Lib.hid (show puts (cat xs k) v (kof m) = cat xs (k + 1) by
        rw [HX.out]
        exact puts_len HKK.out (by have := HL.out; have := HT.out; have := HKK.out; omega))
      have HN := Lib.hid (show (cat xs (k + 1)).length = (cat xs k).length + kof m by rw [HX.out, List.length_append, bitsOf_length])
      have en : wrap64 (((cat xs k).length : Int) + (kof m : Int)) = ((cat xs k).length : Int) + (kof m : Int) := w64 (by omega) (by have := HL.out; have := HT.out; have := HKK.out; omega)
      have HL5 := Lib.hid (show (cat xs k).length ≤ 524288 by have := HL.out; have := HT.out; omega)
      generalize kof m = kk at *
      generalize hL : cat xs k = L at *
      clear hL
      go_wp2_with fail
      refine (put_wb _ _ _ _ v kk _ HQ.out HL5.out hv0 hv1).mono ?_
      rintro e w3 ⟨rfl, h3⟩
      rw [HP.out] at h3
      have H4 := Lib.hid h3; clear h3
      go_wp2
      go_roundw
      case rel =>
        refine ⟨k + 1, ⟨by omega, by omega⟩, by go_num, ?_, H4.out⟩
        rw [HN.out]
        go_num
      case measure => simp [intOf]; omega
    · have HN := Lib.hid (show k = n ∨ k = 300 by have := HK.out.1; have := HK.out.2; omega)
      have HL5 := Lib.hid (cat_le xs k)
      have HS := Lib.hid (show (txt (cat xs k)).size ≤ 1099511627776 by rw [txt_size]; have := HL5.out; have := HK.out.2; omega)
      obtain ⟨rest, hrest⟩ : ∃ rest : Nat, rest = 8 * (txt (cat xs k)).size - (cat xs k).length := ⟨_, rfl⟩
      have hsz := txt_size (cat xs k)
      have HLF := Lib.hid (show left (txt (cat xs k)) (cat xs k).length false = (rest : Int) by unfold left; rw [if_neg (by decide)]; omega)
      have HGL := Lib.hid (show gets (txt (cat xs k)) (cat xs k).length false (rest : Int) = (0, (cat xs k).length + rest, false) by
        rw [gets_yes (by omega) (by omega), val_pad (cat_bits xs k)])
      have f1 : (rest : Int) < 8 := by omega
      have e1 : wrap64 (((cat xs k).length : Int) + 7) = ((cat xs k).length : Int) + 7 := w64 (by omega) (by have := HL5.out; have := HK.out.2; omega)
      have e2 : Int.tdiv (((cat xs k).length : Int) + 7) 8 = ((txt (cat xs k)).size : Int) := by rw [Int.tdiv_eq_ediv_of_nonneg (by omega)]; omega
      have e3 : wrap64 ((txt (cat xs k)).size : Int) = ((txt (cat xs k)).size : Int) := w64 (by omega) (by have := HS.out; omega)
      clear hrest hsz
      by_cases hkn : k < n
      · have h3 : ¬ (k : Int) < 300 := by omega
        go_wp2_with fail
        refine (text_wb _ _ _ _ _ HQ.out).mono ?_
        rintro e w3 ⟨rfl, rfl⟩
        go_wp2_with fail
        refine (read_any _ _).mono ?_
        rintro e w4 ⟨rfl, h4⟩
        have H4 := Lib.hid (BW.new (t' := 48) HQ.out h4)
        clear h4
        generalize wr.heap.size = q at *
        go_wp2
        go_loopw [8] (fun i wr => ∃ j : Nat, j ≤ k ∧ i = .int .i64 j ∧ BW 53 48 w.heap.size w wr p q (cat xs k) (txt (cat xs k)) ((cat xs j).length, false)) (fun i _ => n - (intOf i).toNat)
        case atStart => exact ⟨0, Nat.zero_le _, rfl, H4.out⟩
        case round =>
          obtain ⟨j, hj, rfl, hrp⟩ := hrel
          have HQ2 := Lib.hid hrp
          clear hrp
          by_cases hjk : j < k
          · have hjn : j < n := by have := HK.out.1; omega
            have hj3 : (j : Int) < 300 := by have := HK.out.2; omega
            obtain ⟨b, off, rfl, hblt, hcell⟩ := HR.out.2.2 (by omega)
            obtain ⟨kd, v, m, hx, hv0, hv1, _, q0, q1, q2⟩ := hcell j hjn
            have c1 := HQ2.out.cell hblt q1
            have c2 := HQ2.out.cell hblt q2
            have ek := kof_walk m
            have HKK := Lib.hid (kof_le m)
            have HX := Lib.hid (show (cat xs (j + 1)).length = (cat xs j).length + kof m by rw [cat_succ hx, List.length_append, bitsOf_length])
            have HG := Lib.hid (show gets (txt (cat xs k)) (cat xs j).length false (kof m : Int) = (v % 2 ^ (kof m), (cat xs (j + 1)).length, false) by
              rw [gets_yes HKK.out (cat_fit hx hjk), back hx hjk hv0, HX.out])
            have HM := Lib.hid (mask_walk v hv0 hv1 (kof m))
            have HJ := Lib.hid hj
            clear hcell q0 q1 q2 hx hj
            generalize kof m = kk at *
            by_cases h32 : (kk : Int) < 32
            · have hm := HM.out.1 h32
              go_wp2_with fail
              refine (get_bw _ _ _ _ _ _ _ _ (kk : Int) HQ2.out HS.out).mono ?_
              rintro e w5 ⟨rfl, h5⟩
              rw [HG.out] at h5 ⊢
              have H5 := Lib.hid h5; clear h5
              go_wp2
              go_roundw
              case rel => exact ⟨j + 1, by omega, by go_num, H5.out⟩
              case measure => simp [intOf]; omega
            · have hm := HM.out.2 (by have := HKK.out; omega)
              go_wp2_with fail
              refine (get_bw _ _ _ _ _ _ _ _ (kk : Int) HQ2.out HS.out).mono ?_
              rintro e w5 ⟨rfl, h5⟩
              rw [HG.out, hm] at h5 ⊢
              have H5 := Lib.hid h5; clear h5
              go_wp2
              go_roundw
              case rel => exact ⟨j + 1, by omega, by go_num, H5.out⟩
              case measure => simp [intOf]; omega
          · obtain rfl : j = k := by omega
            go_wp2_with fail
            refine (bad_bw _ _ _ _ _ _ _ _ HQ2.out).mono ?_
            rintro e w6 ⟨rfl, h6⟩
            have H6 := Lib.hid h6; clear h6
            go_wp2_with fail
            refine (left_bw _ _ _ _ _ _ _ _ H6.out HS.out).mono ?_
            rintro e w7 ⟨rfl, h7⟩
            rw [HLF.out]
            have H7 := Lib.hid h7; clear h7
            go_wp2_with fail
            refine (left_bw _ _ _ _ _ _ _ _ H7.out HS.out).mono ?_
            rintro e w8 ⟨rfl, h8⟩
            rw [HLF.out]
            have H8 := Lib.hid h8; clear h8
            go_wp2_with fail
            refine (get_bw _ _ _ _ _ _ _ _ (rest : Int) H8.out HS.out).mono ?_
            rintro e w9 ⟨rfl, h9⟩
            rw [HGL.out] at h9 ⊢
            have H9 := Lib.hid h9; clear h9
            go_wp2_with fail
            refine (text_bw _ _ _ _ _ _ _ _ H9.out).mono ?_
            rintro e w10 ⟨rfl, rfl⟩
            go_wp2_with fail
            refine (wakes_any _).mono ?_
            rintro e w11 ⟨rfl, hb⟩
            go_wp2
            go_ret
            exact ⟨rfl, H9.out.done hb⟩
      · skip
        go_wp2_with fail
        refine (text_wb _ _ _ _ _ HQ.out).mono ?_
        rintro e w3 ⟨rfl, rfl⟩
        go_wp2_with fail
        refine (read_any _ _).mono ?_
        rintro e w4 ⟨rfl, h4⟩
        have H4 := Lib.hid (BW.new (t' := 48) HQ.out h4)
        clear h4
        generalize wr.heap.size = q at *
        go_wp2
        go_loopw [8] (fun i wr => ∃ j : Nat, j ≤ k ∧ i = .int .i64 j ∧ BW 53 48 w.heap.size w wr p q (cat xs k) (txt (cat xs k)) ((cat xs j).length, false)) (fun i _ => n - (intOf i).toNat)
        case atStart => exact ⟨0, Nat.zero_le _, rfl, H4.out⟩
        case round =>
          obtain ⟨j, hj, rfl, hrp⟩ := hrel
          have HQ2 := Lib.hid hrp
          clear hrp
          by_cases hjk : j < k
          · have hjn : j < n := by have := HK.out.1; omega
            have hj3 : (j : Int) < 300 := by have := HK.out.2; omega
            obtain ⟨b, off, rfl, hblt, hcell⟩ := HR.out.2.2 (by omega)
            obtain ⟨kd, v, m, hx, hv0, hv1, _, q0, q1, q2⟩ := hcell j hjn
            have c1 := HQ2.out.cell hblt q1
            have c2 := HQ2.out.cell hblt q2
            have ek := kof_walk m
            have HKK := Lib.hid (kof_le m)
            have HX := Lib.hid (show (cat xs (j + 1)).length = (cat xs j).length + kof m by rw [cat_succ hx, List.length_append, bitsOf_length])
            have HG := Lib.hid (show gets (txt (cat xs k)) (cat xs j).length false (kof m : Int) = (v % 2 ^ (kof m), (cat xs (j + 1)).length, false) by
              rw [gets_yes HKK.out (cat_fit hx hjk), back hx hjk hv0, HX.out])
            have HM := Lib.hid (mask_walk v hv0 hv1 (kof m))
            have HJ := Lib.hid hj
            clear hcell q0 q1 q2 hx hj
            generalize kof m = kk at *
            by_cases h32 : (kk : Int) < 32
            · have hm := HM.out.1 h32
              go_wp2_with fail
              refine (get_bw _ _ _ _ _ _ _ _ (kk : Int) HQ2.out HS.out).mono ?_
              rintro e w5 ⟨rfl, h5⟩
              rw [HG.out] at h5 ⊢
              have H5 := Lib.hid h5; clear h5
              go_wp2
              go_roundw
              case rel => exact ⟨j + 1, by omega, by go_num, H5.out⟩
              case measure => simp [intOf]; omega
            · have hm := HM.out.2 (by have := HKK.out; omega)
              go_wp2_with fail
              refine (get_bw _ _ _ _ _ _ _ _ (kk : Int) HQ2.out HS.out).mono ?_
              rintro e w5 ⟨rfl, h5⟩
              rw [HG.out, hm] at h5 ⊢
              have H5 := Lib.hid h5; clear h5
              go_wp2
              go_roundw
              case rel => exact ⟨j + 1, by omega, by go_num, H5.out⟩
              case measure => simp [intOf]; omega
          · obtain rfl : j = k := by omega
            go_wp2_with fail
            refine (bad_bw _ _ _ _ _ _ _ _ HQ2.out).mono ?_
            rintro e w6 ⟨rfl, h6⟩
            have H6 := Lib.hid h6; clear h6
            go_wp2_with fail
            refine (left_bw _ _ _ _ _ _ _ _ H6.out HS.out).mono ?_
            rintro e w7 ⟨rfl, h7⟩
            rw [HLF.out]
            have H7 := Lib.hid h7; clear h7
            go_wp2_with fail
            refine (left_bw _ _ _ _ _ _ _ _ H7.out HS.out).mono ?_
            rintro e w8 ⟨rfl, h8⟩
            rw [HLF.out]
            have H8 := Lib.hid h8; clear h8
            go_wp2_with fail
            refine (get_bw _ _ _ _ _ _ _ _ (rest : Int) H8.out HS.out).mono ?_
            rintro e w9 ⟨rfl, h9⟩
            rw [HGL.out] at h9 ⊢
            have H9 := Lib.hid h9; clear h9
            go_wp2_with fail
            refine (text_bw _ _ _ _ _ _ _ _ H9.out).mono ?_
            rintro e w10 ⟨rfl, rfl⟩
            go_wp2_with fail
            refine (wakes_any _).mono ?_
            rintro e w11 ⟨rfl, hb⟩
            go_wp2
            go_ret
            exact ⟨rfl, H9.out.done hb⟩
theorem BitsBack_row (A : Option Addr) (n c : Nat) (xs : Steps) (w : World) (h : Els 3 (rTwo (rInt .i64) (rTwo (rInt .u32) (rInt .i64))) w A n xs) :
    Calls Try.prog 4 #[.slice A n c] w fun e w' => e = .returned (.bool true) ∧ Below w.heap.size w w' := BitsBack_any A n c xs w (RS.of h)
end Go.Proofs.Ytlbpoenkdnampaa.Bits
