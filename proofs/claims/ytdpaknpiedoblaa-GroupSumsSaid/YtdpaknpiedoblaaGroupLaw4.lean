/- GroupOne, GroupLate: what each comes to; no condition but what data there is. -/
import Derived.Test.YtdpaknpiedoblaaGroupLaw3
namespace Go.Proofs.Ytdpaknpiedoblaa.Group
open Go.RowKit Go.Proofs.Ytdpaknpiedoblaa.Plain Go.Proofs.Ytdpaknpiedoblaa.Heap Go.Proofs.Ytdpaknpiedoblaa.Open

theorem wf_u16 {n : Int} (h : (Lit.int .u16 n).wf = true) : 0 ≤ n ∧ n ≤ 65535 := by
  simpa [Lit.wf, IntKind.min, IntKind.max, IntKind.signed, IntKind.bits] using h
/-- One group, or none. -/
def One (at_ sum : Int) (st : St) : Prop := (st = (none, none) ∧ sum = 0) ∨ ∃ f, 0 ≤ f ∧ f ≤ at_ ∧ st = (some (f, at_, at_, sum), none)
theorem one_step {A S x s : Int} {st : St} (h : One A S st) (h0 : 0 ≤ A) (h1 : A ≤ 1000000000) (hx : 0 ≤ x) (hx' : x ≤ 65535) (hs : 0 ≤ s) (hs' : s ≤ 1500) (hS : 0 ≤ S) :
    ∃ f, 0 ≤ f ∧ f ≤ A + x ∧ gstep 1099511627776 st s (A + x) (A + x) false = ((some (f, A + x, A + x, S + s), none), 0, 0, 0, false) := by
  have hb : ¬ badA s (A + x) (A + x) false := by unfold badA; simp; omega
  rcases h with ⟨rfl, rfl⟩ | ⟨f, f0, f1, rfl⟩
  · refine ⟨A + x, by omega, by omega, ?_⟩
    unfold gstep
    rw [if_neg hb]
    simp
  · refine ⟨f, f0, by omega, ?_⟩
    unfold gstep
    rw [if_neg hb]
    simp only
    rw [if_neg (by omega), if_pos (by omega)]
    have e : mx A (A + x) = A + x := by unfold mx; split <;> omega
    rw [e]
theorem One.ok {A S : Int} {st : St} (h : One A S st) (h0 : 0 ≤ A) (h1 : A ≤ 1000000000) (hS : 0 ≤ S) (hS' : S ≤ 1000000000) : okSt 1000000000 st := by
  rcases h with ⟨rfl, rfl⟩ | ⟨f, f0, f1, rfl⟩
  · exact ⟨nofun, nofun⟩
  · refine ⟨fun g hg => ?_, nofun⟩
    injection hg with hg
    subst hg
    simp only [okG]
    omega
set_option maxHeartbeats 1000000 in
set_option maxRecDepth 10000 in
theorem GroupOne_any (A1 : Option Addr) (n1 c1 : Nat) (g : List Int) (A2 : Option Addr) (n2 c2 : Nat) (l : List Int) (w : World) (h1 : Els 1 (rInt .u16) w A1 n1 g) (h2 : Els 1 (rInt .u16) w A2 n2 l) :
    Calls Try.prog 7 #[.slice A1 n1 c1, .slice A2 n2 c2] w fun e w' => e = .returned (.bool true) ∧ Below w.heap.size w w' := by
  obtain ⟨r1, u1⟩ := h1.ints
  obtain ⟨r2, u2⟩ := h2.ints
  have R1 := Lib.hid r1
  have R2 := Lib.hid r2
  have U1 := Lib.hid u1
  have U2 := Lib.hid u2
  clear h1 h2 r1 r2 u1 u2
  go_enter Try.func7, Try.ntmps7
  go_wp2_with fail
  refine (new_any 1099511627776 _ (by decide) (by decide)).mono ?_
  rintro e w1 ⟨rfl, h1⟩
  have H1 := Lib.hid h1; clear h1
  obtain ⟨p, hp⟩ : ∃ p, p = w.heap.size := ⟨_, rfl⟩
  have HP := Lib.hid hp
  have H2 := Lib.hid (show GB w.heap.size w w1 p 1099511627776 (none, none) by rw [hp]; exact H1.out)
  rw [← hp]
  clear H1 hp
  go_wp2
  go_loopw [7, 8, 9] (fun a s i wr => ∃ (k : Nat) (A S : Int) (st : St), k ≤ 200 ∧ i = .int .i64 k ∧ a = .int .i64 A ∧ s = .int .i64 S ∧ 0 ≤ A ∧ A ≤ 65535 * k ∧ 0 ≤ S ∧ S ≤ 1500 * k ∧ One A S st ∧ GB w.heap.size w wr p 1099511627776 st) (fun _ _ i _ => 200 - (intOf i).toNat)
  case atStart => exact ⟨0, 0, 0, (none, none), by omega, rfl, rfl, rfl, by omega, by omega, by omega, by omega, .inl ⟨rfl, rfl⟩, H2.out⟩
  case round =>
    obtain ⟨k, A, S, st, hk, rfl, rfl, rfl, hA, hA', hS, hS', ho, hg⟩ := hrel
    have HO := Lib.hid ho
    have HG := Lib.hid hg
    clear ho hg
    by_cases hlt : k < n1
    · by_cases hlt2 : k < n2
      · by_cases hlt3 : (k : Int) < 200
        · obtain ⟨b1, o1, rfl, hb1, hc1⟩ := R1.out.2.2 (by omega)
          obtain ⟨b2, o2, rfl, hb2, hc2⟩ := R2.out.2.2 (by omega)
          have x1 : wr.cell? ⟨b1, o1 + k, none⟩ = some (.int .u16 (g.getD k 0)) := (HG.out.2.2.1.cell (p := ⟨b1, o1 + k, none⟩) hb1).trans (hc1 k hlt)
          have x2 : wr.cell? ⟨b2, o2 + k, none⟩ = some (.int .u16 (l.getD k 0)) := (HG.out.2.2.1.cell (p := ⟨b2, o2 + k, none⟩) hb2).trans (hc2 k hlt2)
          obtain ⟨y1, y1'⟩ := wf_u16 (U1.out k hlt)
          obtain ⟨y2, y2'⟩ := wf_u16 (U2.out k hlt2)
          clear hc1 hc2
          generalize g.getD k 0 = x at *
          generalize l.getD k 0 = y at *
          have e1 : wrap64 (A + x) = A + x := w64 (by omega) (by omega)
          have m0 : Int.tmod y 1501 = y % 1501 := tmod_pos y2
          have m1 : 0 ≤ y % 1501 ∧ y % 1501 ≤ 1500 := by omega
          have e2 : wrap64 (y % 1501) = y % 1501 := w64 (by omega) (by omega)
          have e3 : wrap64 (S + y % 1501) = S + y % 1501 := w64 (by omega) (by omega)
          have hs := Lib.hid m1
          generalize y % 1501 = z at *
          obtain ⟨f, f0, f1, hst⟩ := one_step (x := x) (s := z) HO.out hA (by omega) y1 y1' hs.out.1 hs.out.2 hS
          have hok := HO.out.ok hA (by omega) hS (by omega)
          have HS := Lib.hid hst
          have HK := Lib.hid hok
          clear hst hok
          go_wp2_with fail
          refine (one_any (A + x) (A + x) z _).mono ?_
          rintro e w2 ⟨rfl, h2⟩
          have H3 := Lib.hid (HG.out.run h2); clear h2
          go_wp2_with fail
          refine (add_any 1000000000 _ _ 0 z (A + x) (A + x) false false _ _ 1099511627776 st H3.out HK.out (by decide)).mono ?_
          rintro e w3 ⟨rfl, h3⟩
          rw [HS.out] at h3 ⊢
          simp only [dval]
          have H4 := Lib.hid h3; clear h3
          have H5 := Lib.hid (H4.out.kept (((Kept.refl (fun _ => False) w3).alloc (.cells #[.int .i64 0, .int .i64 0, .int .i64 0] 33))))
          go_wp2_with fail
          refine (open_gb _ _ _ _ _ _ H5.out).mono ?_
          rintro e w4 ⟨rfl, h4⟩
          simp only [oval]
          have H6 := Lib.hid h4; clear h4
          go_wp2
          go_roundw
          case rel => exact ⟨k + 1, A + x, S + z, _, by omega, by go_num, rfl, rfl, by omega, by omega, by omega, by omega, .inr ⟨f, f0, f1, rfl⟩, H6.out⟩
          case measure => simp [intOf]; omega
        · go_wp2_with fail
          refine (wakes_any _).mono ?_
          rintro e w3 ⟨rfl, hb⟩
          go_wp2
          go_ret
          exact ⟨rfl, below_then HG.out.2.2.1 HG.out.2.1 hb⟩
      · go_wp2_with fail
        refine (wakes_any _).mono ?_
        rintro e w3 ⟨rfl, hb⟩
        go_wp2
        go_ret
        exact ⟨rfl, below_then HG.out.2.2.1 HG.out.2.1 hb⟩
    · go_wp2_with fail
      refine (wakes_any _).mono ?_
      rintro e w3 ⟨rfl, hb⟩
      go_wp2
      go_ret
      exact ⟨rfl, below_then HG.out.2.2.1 HG.out.2.1 hb⟩
end Go.Proofs.Ytdpaknpiedoblaa.Group
