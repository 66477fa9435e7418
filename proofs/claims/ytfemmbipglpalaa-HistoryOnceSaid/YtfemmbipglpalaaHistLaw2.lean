/- HistoryFull: what it comes to; no condition but what data there is. -/
import Derived.Test.YtfemmbipglpalaaHistPlain
import Derived.Test.YtfemmbipglpalaaHistLaw1
namespace Go.Proofs.Ytfemmbipglpalaa.History
open Go.RowKit Go.Proofs.Ytfemmbipglpalaa.Plain Go.Proofs.Ytfemmbipglpalaa.Heap Go.Proofs.Ytfemmbipglpalaa.Maps Go.Proofs.Ytfemmbipglpalaa.Open

theorem HB.expire {B : Nat} {w0 w : World} {p r : Nat} {h : HS} (hb : HB B w0 w p r h) (ok : okH h) (now : Int) (hf0 : 0 ≤ h.first) (hf1 : h.first ≤ h.next) (hnow : -9223372036854775808 ≤ now ∧ now ≤ 9223372036854775807) (hat : ∀ x ∈ h.l, 0 ≤ x.2.2 ∧ x.2.2 ≤ 1125899906842624) :
    Calls Try.prog 18 #[.pointer (some ⟨p, 0, none⟩), .int .i64 now] w
      fun e w' => ∃ A ml c, e = .returned (.slice A ml c) ∧ HB B w0 w' p r (expire h now).1 ∧ okH (expire h now).1 ∧ ml = (expire h now).2.length ∧ Rd w' 3 A ml (flat3 (expire h now).2) ∧ (∀ b off, A = some ⟨b, off, none⟩ → w.heap.size ≤ b) ∧ Kept (fun g => g = p ∨ g = r ∨ w.heap.size ≤ g) w w' :=
  (expire_any p r h now w hb.hr ok hf0 hf1 hnow hat).mono fun _ _ ⟨lv, ml, h1, h2⟩ => by
    obtain ⟨A, c, rfl⟩ : ∃ A c, lv = .slice A ml c := by
      rcases h2.ol.2 with ⟨rfl, rfl⟩ | ⟨g, cap, cur, rfl, _⟩
      · exact ⟨_, _, rfl⟩
      · exact ⟨_, _, rfl⟩
    refine ⟨A, ml, c, h1, ⟨h2.hr, hb.bp, hb.br, Nat.le_trans hb.sz h2.kp.size, hb.below.trans (h2.kp.below hb.sz (fun i hi => by have h1 := hb.bp; have h2 := hb.br; have h3 := hb.sz; rcases hi with hi | hi | hi <;> omega))⟩, h2.ok, h2.ll, Rd.of_own h2.ol, fun b off e => ?_, h2.kp⟩
    subst e
    rcases h2.ol.2 with ⟨he, _⟩ | ⟨g, cap, cur, he, hb2, _⟩
    · cases he
    · injection he with he _ _
      injection he with he
      injection he with he
      rw [he]
      exact hb2
theorem mod_any (k n : Int) (w : World) (h0 : 1 ≤ n) (h1 : n ≤ 4611686018427387904) : Calls Try.prog 11 #[.int .i64 k, .int .i64 n] w fun e w' => e = .returned (.int .i64 (k % n)) ∧ w = w' := by
  have hb := tmod_bd k (m := n) (by omega)
  have e0 : (n == 0) = false := by simp; omega
  have w1 : wrap64 (Int.tmod k n) = Int.tmod k n := w64 (by omega) (by omega)
  have w2 : wrap64 (Int.tmod k n + n) = Int.tmod k n + n := w64 (by omega) (by omega)
  have hm := modp (n := k) (m := n) (by omega)
  have hb2 := Int.emod_nonneg k (show n ≠ 0 by omega)
  have hb3 := Int.emod_lt_of_pos k (show 0 < n by omega)
  have w3 : wrap64 (Int.tmod (Int.tmod k n + n) n) = k % n := by rw [hm]; exact w64 (by omega) (by omega)
  go_enter Try.func11, Try.ntmps11
  go_wp2
  go_ret
  exact ⟨rfl, rfl⟩
/-- Packets of one size, sent at one time. -/
def fl (k : Int) (n : Nat) : List E3 := (List.range n).map fun (i : Nat) => ((i : Int), k, (5 : Int))
theorem fl_succ (k : Int) (n : Nat) : fl k (n + 1) = fl k n ++ [((n : Int), k, 5)] := by simp [fl, List.range_succ]
theorem fl_len (k : Int) (n : Nat) : (fl k n).length = n := by simp [fl]
theorem fl_get (k : Int) (n i : Nat) (h : i < n) : (fl k n)[i]? = some ((i : Int), k, 5) := by simp [fl, h]
theorem fl_consec (k : Int) (n : Nat) : consec 0 (fl k n) := by
  induction n with
  | zero => trivial
  | succ n ih => rw [fl_succ]; exact consec_snoc ih _ (by rw [fl_len]; simp)
theorem consec_at {n : Int} {L : List E3} (hc : consec n L) (i : Nat) (x : E3) (hx : L[i]? = some x) : findE (n + (i : Int)) L = some x := by
  induction L generalizing n i with
  | nil => simp at hx
  | cons y L ih =>
    cases i with
    | zero =>
      simp at hx
      subst hx
      unfold findE
      rw [if_pos (by rw [hc.1]; simp)]
    | succ i =>
      simp at hx
      unfold findE
      rw [if_neg (by rw [hc.1]; omega), show n + ((i + 1 : Nat) : Int) = n + 1 + (i : Int) by omega]
      exact ih hc.2 i hx
theorem tw_all {p : E3 → Bool} {L : List E3} (h : ∀ x ∈ L, p x = true) : L.takeWhile p = L ∧ L.dropWhile p = [] := by
  induction L with
  | nil => exact ⟨rfl, rfl⟩
  | cons x L ih =>
    have h1 := h x (by simp)
    obtain ⟨i1, i2⟩ := ih fun y hy => h y (by simp [hy])
    rw [List.takeWhile_cons_of_pos h1, List.dropWhile_cons_of_pos h1, i1, i2]
    exact ⟨rfl, rfl⟩
/-- A history of n packets of size k, sent at 5. -/
structure Fl (k : Int) (n : Nat) (h : HS) : Prop where
  t : h.timeout = 1000
  next : h.next = n
  first : h.first = 0
  last0 : 0 ≤ h.last
  last1 : h.last ≤ 5
  fly : h.flying = k * n
  l : h.l = fl k n
  ok : okH h
theorem fl_send {k : Int} {n : Nat} {h : HS} (f : Fl k n h) (k0 : 0 ≤ k) (k1 : k ≤ 1500) (hn : n < 1024) : (hsend h k 5).2.2 = 0 ∧ Fl k (n + 1) (hsend h k 5).1 := by
  have hl := f.last0
  have hl1 := f.last1
  have e : hsend h k 5 = ({ h with next := h.next + 1, last := 5, flying := h.flying + k, l := h.l ++ [(h.next, k, 5)] }, h.next % 65536, 0) := by
    unfold hsend
    rw [if_neg (by unfold sendBad; omega), if_neg (by omega), if_neg (by rw [f.l, fl_len]; omega)]
  have ok2 := send_ok f.ok k 5 (by rw [f.next]; omega)
  rw [e] at ok2 ⊢
  refine ⟨rfl, f.t, by show h.next + 1 = _; rw [f.next]; omega, f.first, by show (0 : Int) ≤ 5; omega, by show (5 : Int) ≤ 5; omega, ?_, ?_, ok2⟩
  · show h.flying + k = k * ((n + 1 : Nat) : Int)
    rw [f.fly]
    grind
  · show h.l ++ [(h.next, k, 5)] = fl k (n + 1)
    rw [fl_succ, f.l, f.next]
theorem fl_full {k : Int} {h : HS} (f : Fl k 1024 h) (k0 : 0 ≤ k) (k1 : k ≤ 1500) : hsend h k 6 = (h, 0, 250) := by
  have hl := f.last0
  have hl1 := f.last1
  unfold hsend
  rw [if_neg (by unfold sendBad; omega), if_neg (by omega), if_pos (by rw [f.l, fl_len])]
set_option maxRecDepth 20000 in
theorem fl_hear {k : Int} {h : HS} (f : Fl k 1024 h) : (hearL h [(3, true, 0, false, false)]).1.l.length = 1023 ∧ (hearL h [(3, true, 0, false, false)]).1.next = 1024 ∧ (hearL h [(3, true, 0, false, false)]).1.last ≤ 5 := by
  have hk : hkey h 3 = 3 := by unfold hkey; rw [f.next]; kernel_rfl
  have hf : findE 3 h.l = some (3, k, 5) := by
    rw [f.l]
    have h1 := consec_at (n := 0) (fl_consec k 1024) 3 (3, k, 5) (fl_get k 1024 3 (by decide))
    rwa [show (0 : Int) + ((3 : Nat) : Int) = 3 from rfl] at h1
  have e : hearL h [(3, true, 0, false, false)] = (dropE h (3, k, 5), [((3, k, 5), 0, false, false)], []) := by
    show hear1 (h, [], []) (3, true, 0, false, false) = _
    unfold hear1
    simp only [hk, hf]
    rfl
  rw [e]
  have h2 := eraseE_len hf
  have h3 : h.l.length = 1024 := by rw [f.l]; exact fl_len k 1024
  refine ⟨?_, f.next, f.last1⟩
  show (eraseE 3 h.l).length = 1023
  omega
set_option maxRecDepth 20000 in
theorem fl_expire {k : Int} {h : HS} (f : Fl k 1024 h) : (expire h 1006).2.length = 1024 ∧ (expire h 1006).1.l = [] ∧ (expire h 1006).1.next = 1024 ∧ (expire h 1006).1.last ≤ 5 := by
  have hc : consec h.first h.l := by rw [f.first, f.l]; exact fl_consec k 1024
  have hl : h.l.length = 1024 := by rw [f.l]; exact fl_len k 1024
  have hn : h.next = h.first + (h.l.length : Int) := by rw [f.first, hl, f.next]; omega
  have hall : ∀ x ∈ h.l, old 1006 h.timeout x = true := fun x hx => by
    rw [f.l] at hx
    simp only [fl, List.mem_map] at hx
    obtain ⟨i, _, rfl⟩ := hx
    rw [f.t]
    rfl
  obtain ⟨e1, e2⟩ := tw_all hall
  rw [expire_consec h 1006 hc hn, e1, e2]
  exact ⟨hl, rfl, f.next, f.last1⟩
theorem send_late {h : HS} {k : Int} (hl : ¬ h.l.length = 1024) (hn : h.next = 1024) (h5 : h.last ≤ 5) (k0 : 0 ≤ k) (k1 : k ≤ 1500) : (hsend h k 2000).2 = (1024, 0) := by
  unfold hsend
  rw [if_neg (by unfold sendBad; omega), if_neg (by omega), if_neg hl, hn]
  rfl
set_option maxRecDepth 10000 in
set_option maxHeartbeats 2000000 in
theorem HistoryFull_any (size : Int) (got : Bool) (w : World) (_ : (Lit.int .i64 size).wf = true) :
    Calls Try.prog 7 #[.int .i64 size, .bool got] w fun e w' => e = .returned (.bool true) ∧ Below w.heap.size w w' := by
  have m0 := Int.emod_nonneg size (show (1501 : Int) ≠ 0 by omega)
  have m1 := Int.emod_lt_of_pos size (show (0 : Int) < 1501 by omega)
  go_enter Try.func7, Try.ntmps7
  go_wp2_with fail
  refine (new_hb 1000 _ (by decide) (by decide)).mono ?_
  rintro e w1 ⟨p, r, rfl, h1⟩
  have H1 := Lib.hid h1
  clear h1
  go_wp2_with fail
  refine (mod_any size 1501 _ (by decide) (by decide)).mono ?_
  rintro e w2 ⟨rfl, rfl⟩
  generalize size % 1501 = k at *
  have k0 : 0 ≤ k := m0
  have k1 : k ≤ 1500 := by omega
  have HK := Lib.hid (And.intro k0 k1)
  clear m0 m1 k0 k1
  go_wp2_with fail
  go_loopw [8] (fun iv wr => ∃ (i : Nat) (h : HS), i ≤ 1024 ∧ iv = .int .i64 (i : Int) ∧ Fl k i h ∧ HB w.heap.size w wr p r h) (fun iv _ => 1024 - (intOf iv).toNat)
  case atStart => exact ⟨0, _, by omega, rfl, ⟨rfl, rfl, rfl, by simp, by simp, by simp, by simp [fl], fresh_ok _⟩, H1.out⟩
  case round =>
    obtain ⟨i, h, hi, rfl, hf, hb⟩ := hrel
    have HF := Lib.hid hf
    have HBr := Lib.hid hb
    clear hf hb H1
    by_cases hlt : (i : Int) < 1024
    · have hi1 : i + 1 ≤ 1024 := by omega
      obtain ⟨s1, s2⟩ := fl_send HF.out HK.out.1 HK.out.2 (by omega)
      have S2 := Lib.hid s2
      have S1 := Lib.hid s1
      clear s1 s2
      go_wp2_with fail
      refine (HBr.out.send HF.out.ok k 5).mono ?_
      rintro e w3 ⟨rfl, h3⟩
      rw [S1.out]
      have H3 := Lib.hid h3
      clear h3
      go_wp2_with fail
      go_roundw
      case rel => exact ⟨i + 1, _, hi1, by go_num, S2.out, H3.out⟩
      case measure => exact meas3 1024 i hlt
    · obtain rfl : i = 1024 := by omega
      have e1 : wrap64 (k * 1024) = k * 1024 := by have := HK.out; exact w64 (by omega) (by omega)
      have efl : h.flying = k * 1024 := by have := HF.out.fly; simpa using this
      have Efl := Lib.hid efl
      clear efl
      go_wp2_with fail
      refine (HBr.out.send HF.out.ok k 6).mono ?_
      rintro e w3 ⟨rfl, h3⟩
      rw [fl_full HF.out HK.out.1 HK.out.2] at h3 ⊢
      simp only
      have H3 := Lib.hid h3
      clear h3
      go_wp2_with fail
      refine (H3.out.count).mono ?_
      rintro e w4 ⟨rfl, h4⟩
      rw [HF.out.l, fl_len]
      have H4 := Lib.hid h4
      clear h4
      go_wp2_with fail
      refine (H4.out.flying).mono ?_
      rintro e w5 ⟨rfl, h5⟩
      rw [Efl.out]
      have H5 := Lib.hid h5
      clear h5
      cases got with
      | true =>
        go_wp2_with fail
        generalize hW : World.alloc w5 _ = W5
        have HW := Lib.hid (show HB w.heap.size w W5 p r h by rw [← hW]; exact H5.out.run ((Below.refl _ _).alloc (Nat.le_refl _) _))
        have hrd : Rd W5 5 (some ⟨w5.heap.size, 0, none⟩) 1 (flat5 [(3, true, 0, false, false)]) := by
          rw [← hW]
          exact Rd.block (cs := #[.int .i64 3, .bool true, .int .i64 0, .bool false, .bool false]) (heap_alloc_new w5 _) rfl
        have hlt5 := H5.out.hr.cells.2.2.2.2.2.2.2
        refine (HW.out.hear HF.out.ok (by rw [HF.out.next]; decide) (some ⟨w5.heap.size, 0, none⟩) 1 1 [(3, true, 0, false, false)] 6 hrd rfl (by decide) (fun b off e => by injection e with e; injection e with e; omega)).mono ?_
        rintro e w6 ⟨gv, lv, mg, ml, rfl, h6, h7⟩
        have H6 := Lib.hid h6
        have OK6 := Lib.hid h7.ok
        obtain ⟨f1, f2, f3⟩ := fl_hear HF.out
        have hsl := Lib.hid (send_late (by rw [f1]; decide) f2 f3 HK.out.1 HK.out.2)
        clear h6 h7 hrd hW f1 f2 f3 hlt5
        go_wp2_with fail
        refine (H6.out.send OK6.out k 2000).mono ?_
        rintro e w8 ⟨rfl, h8⟩
        rw [hsl.out]
        simp only
        have H8 := Lib.hid h8
        clear h8
        go_wp2_with fail
        refine (wakes_any _).mono ?_
        rintro e w9 ⟨rfl, hb⟩
        go_wp2
        go_ret
        exact ⟨rfl, below_then H8.out.below H8.out.sz hb⟩
      | false =>
        go_wp2_with fail
        refine (H5.out.expire HF.out.ok 1006 (by rw [HF.out.first]; decide) (by rw [HF.out.first, HF.out.next]; decide) (by decide) (fun x hx => by
          have h2 := hx
          rw [HF.out.l] at h2
          simp only [fl, List.mem_map] at h2
          obtain ⟨j, _, rfl⟩ := h2
          exact ⟨by show (0 : Int) ≤ 5; decide, by show (5 : Int) ≤ 1125899906842624; decide⟩)).mono ?_
        rintro e w6 ⟨A, ml, c, rfl, h6, ok6, hml, _, _, _⟩
        obtain ⟨f1, f2, f3, f4⟩ := fl_expire HF.out
        rw [f1] at hml
        subst hml
        have H6 := Lib.hid h6
        have OK6 := Lib.hid ok6
        have hsl := Lib.hid (send_late (by rw [f2]; decide) f3 f4 HK.out.1 HK.out.2)
        clear h6 ok6 f1 f2 f3 f4
        go_wp2_with fail
        refine (H6.out.send OK6.out k 2000).mono ?_
        rintro e w8 ⟨rfl, h8⟩
        rw [hsl.out]
        simp only
        have H8 := Lib.hid h8
        clear h8
        go_wp2_with fail
        refine (wakes_any _).mono ?_
        rintro e w9 ⟨rfl, hb⟩
        go_wp2
        go_ret
        exact ⟨rfl, below_then H8.out.below H8.out.sz hb⟩
end Go.Proofs.Ytfemmbipglpalaa.History
