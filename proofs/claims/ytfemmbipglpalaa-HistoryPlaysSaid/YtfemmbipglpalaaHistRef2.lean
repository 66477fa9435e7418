/- The document's history: what Expire comes to, and that it is what the other one gives up; no condition but the ranges in each. -/
import Derived.Test.YtfemmbipglpalaaHistRef1
import Derived.Test.YtfemmbipglpalaaHistPlain
import Derived.Test.YtfemmbipglpalaaSatRef
import Derived.Deep.QuietTactic
namespace Go.Proofs.Ytfemmbipglpalaa.History
open Go.RowKit Go.Proofs.Ytfemmbipglpalaa.Plain Go.Proofs.Ytfemmbipglpalaa.Heap Go.Proofs.Ytfemmbipglpalaa.Maps Go.Proofs.Ytfemmbipglpalaa.Rows

/-- What both need of the list: rising numbers, from first on, and times that do not fall. -/
def sorted : List E3 → Prop
  | [] => True
  | x :: l => (∀ y ∈ l, x.1 < y.1 ∧ x.2.2 ≤ y.2.2) ∧ sorted l
theorem sorted_snoc {l : List E3} {x : E3} (h : sorted l) (hx : ∀ y ∈ l, y.1 < x.1 ∧ y.2.2 ≤ x.2.2) : sorted (l ++ [x]) := by
  induction l with
  | nil => exact ⟨fun y hy => (by cases hy), trivial⟩
  | cons y l ih =>
    refine ⟨fun z hz => ?_, ih h.2 fun z hz => hx z (List.mem_cons_of_mem _ hz)⟩
    rcases List.mem_append.1 hz with hz | hz
    · exact h.1 z hz
    · simp at hz; subst hz; exact hx y (List.mem_cons_self ..)
theorem sorted_erase {l : List E3} {k : Int} (h : sorted l) : sorted (eraseE k l) := by
  induction l with
  | nil => trivial
  | cons y l ih =>
    unfold eraseE
    split
    · exact h.2
    · exact ⟨fun z hz => h.1 z (eraseE_mem hz), ih h.2⟩
theorem sorted_filter {l : List E3} (p : E3 → Bool) (h : sorted l) : sorted (l.filter p) := by
  induction l with
  | nil => trivial
  | cons y l ih =>
    rw [List.filter_cons]
    split
    · exact ⟨fun z hz => h.1 z (List.mem_filter.1 hz).1, ih h.2⟩
    · exact ih h.2
theorem clamp_mono {a b : Int} (h : a ≤ b) : Sat.clamp64 a ≤ Sat.clamp64 b := by
  unfold Sat.clamp64
  split <;> split <;> (try split) <;> (try split) <;> omega
/-- Where the first is not too old, none is. -/
theorem filter_young {l : List E3} {x : E3} {now out : Int} (h : sorted (x :: l)) (hx : old now out x = false) : (x :: l).filter (old now out) = [] ∧ (x :: l).filter (fun y => !old now out y) = x :: l := by
  have hall : ∀ y ∈ x :: l, old now out y = false := fun y hy => by
    rcases List.mem_cons.1 hy with rfl | hy
    · exact hx
    · have h1 := (h.1 y hy).2
      have h2 := clamp_mono (show now - y.2.2 ≤ now - x.2.2 by omega)
      unfold old at hx ⊢
      simp only [decide_eq_false_iff_not] at hx ⊢
      omega
  constructor
  · rw [List.filter_eq_nil_iff]
    intro y hy
    rw [hall y hy]; simp
  · rw [List.filter_eq_self]
    intro y hy
    rw [hall y hy]; rfl
theorem find_head {n : Int} {l : List E3} {e : E3} (hs : sorted l) (hn : ∀ x ∈ l, n ≤ x.1) (h : findE n l = some e) : ∃ l', l = e :: l' := by
  cases l with
  | nil => cases h
  | cons x l =>
    unfold findE at h
    split at h
    · injection h with h; subst h; exact ⟨l, rfl⟩
    · rename_i hne
      obtain ⟨h1, h2⟩ := findE_key h
      have h3 := hn x (List.mem_cons_self ..)
      have h4 := (hs.1 e h2).1
      omega
theorem find_none_lt {n : Int} {l : List E3} (hn : ∀ x ∈ l, n ≤ x.1) (h : findE n l = none) : ∀ x ∈ l, n + 1 ≤ x.1 := by
  induction l with
  | nil => intro x hx; cases hx
  | cons y l ih =>
    unfold findE at h
    split at h
    · cases h
    · rename_i hne
      intro x hx
      rcases List.mem_cons.1 hx with rfl | hx
      · have := hn x (List.mem_cons_self ..); omega
      · exact ih (fun z hz => hn z (List.mem_cons_of_mem _ hz)) h x hx
theorem exp_sorted (now : Int) : ∀ (f : Nat) (n : Int) (s : H2), sorted s.1.l → (∀ x ∈ s.1.l, n ≤ x.1 ∧ x.1 < n + f) →
    (expLoop now f n s).2 = s.2 ++ s.1.l.filter (old now s.1.timeout) ∧ (expLoop now f n s).1.l = s.1.l.filter (fun y => !old now s.1.timeout y) ∧ (expLoop now f n s).1.timeout = s.1.timeout ∧ (expLoop now f n s).1.next = s.1.next ∧ (expLoop now f n s).1.last = s.1.last ∧ (expLoop now f n s).1.first = s.1.first
  | 0, n, s, _, hb => by
    have hl : s.1.l = [] := by
      cases h : s.1.l with
      | nil => rfl
      | cons x l => have := hb x (by rw [h]; exact List.mem_cons_self ..); omega
    simp [expLoop, hl]
  | f + 1, n, s, hs, hb => by
    unfold expLoop
    cases hf : findE n s.1.l with
    | none =>
      have h1 := find_none_lt (fun x hx => (hb x hx).1) hf
      exact exp_sorted now f (n + 1) s hs fun x hx => ⟨h1 x hx, by have := (hb x hx).2; omega⟩
    | some e =>
      obtain ⟨l', hl⟩ := find_head hs (fun x hx => (hb x hx).1) hf
      have hk := (findE_key hf).1
      simp only
      by_cases ho : Sat.clamp64 (now - e.2.2) ≤ s.1.timeout
      · rw [if_pos ho]
        have hy : old now s.1.timeout e = false := by unfold old; simp only [decide_eq_false_iff_not]; omega
        rw [hl] at hs ⊢
        obtain ⟨h1, h2⟩ := filter_young (now := now) (out := s.1.timeout) hs hy
        rw [h1, h2]
        simp
      · rw [if_neg ho]
        have hy : old now s.1.timeout e = true := by unfold old; simp only [decide_eq_true_eq]; omega
        have hd : (dropE s.1 e).l = l' := by
          show eraseE e.1 s.1.l = l'
          rw [hl]; unfold eraseE; rw [if_pos rfl]
        rw [hl] at hs
        obtain ⟨i1, i2, i3, i4, i5, i6⟩ := exp_sorted now f (n + 1) (dropE s.1 e, s.2 ++ [e]) (by rw [hd]; exact hs.2) (fun x hx => by
          rw [hd] at hx
          have h1 := (hs.1 x hx).1
          have h2 := (hb x (by rw [hl]; exact List.mem_cons_of_mem _ hx)).2
          omega)
        refine ⟨?_, ?_, i3, i4, i5, i6⟩
        · rw [i1, hd, hl, List.filter_cons_of_pos hy, List.append_assoc]; rfl
        · rw [i2, hd, hl, List.filter_cons_of_neg (by simp [hy])]; rfl
theorem first_loop : ∀ (f : Nat) (h : HS), (∀ x ∈ h.l, h.first ≤ x.1) → h.first + f ≤ h.next → (firstLoop f h).l = h.l ∧ (firstLoop f h).timeout = h.timeout ∧ (firstLoop f h).next = h.next ∧ (firstLoop f h).last = h.last ∧ (∀ x ∈ h.l, (firstLoop f h).first ≤ x.1) ∧ h.first ≤ (firstLoop f h).first ∧ (firstLoop f h).first ≤ h.next
  | 0, h, hb, hn => ⟨rfl, rfl, rfl, rfl, hb, Int.le_refl _, by simpa [firstLoop] using hn⟩
  | f + 1, h, hb, hn => by
    unfold firstLoop
    cases hf : findE h.first h.l with
    | none =>
      obtain ⟨i1, i2, i3, i4, i5, i6, i7⟩ := first_loop f { h with first := h.first + 1 } (find_none_lt hb hf) (by show h.first + 1 + f ≤ h.next; omega)
      exact ⟨i1, i2, i3, i4, i5, Int.le_trans (show h.first ≤ h.first + 1 by omega) i6, i7⟩
    | some e => exact ⟨rfl, rfl, rfl, rfl, hb, Int.le_refl _, by show h.first ≤ h.next; omega⟩
/-- What Plays keeps of a history. -/
structure Pl (h : HS) : Prop where
  ok : okH h
  so : sorted h.l
  f0 : 0 ≤ h.first
  f1 : h.first ≤ h.next
  ge : ∀ x ∈ h.l, h.first ≤ x.1
  at0 : ∀ x ∈ h.l, 0 ≤ x.2.2 ∧ x.2.2 ≤ h.last
  last0 : 0 ≤ h.last
  last1 : h.last ≤ 1125899906842624
  t0 : 1 ≤ h.timeout
  t1 : h.timeout ≤ 1125899906842624
theorem expire_is {h : HS} (p : Pl h) (now : Int) : (expire h now).2 = h.l.filter (old now h.timeout) ∧ (expire h now).1.l = h.l.filter (fun y => !old now h.timeout y) ∧ (expire h now).1.timeout = h.timeout ∧ (expire h now).1.next = h.next ∧ (expire h now).1.last = h.last ∧
    (0 ≤ (expire h now).1.first ∧ (expire h now).1.first ≤ h.next) ∧ (∀ x ∈ (expire h now).1.l, (expire h now).1.first ≤ x.1) := by
  have hf1 := p.f1
  have e1 := exp_sorted now (h.next - h.first).toNat h.first (h, []) p.so (fun x hx => ⟨p.ge x hx, by have := (p.ok.lt x hx).2; omega⟩)
  obtain ⟨a1, a2, a3, a4, a5, a6⟩ := e1
  have e2 := first_loop (h.next - h.first).toNat (expLoop now (h.next - h.first).toNat h.first (h, [])).1 (fun x hx => by
    rw [a2] at hx
    rw [a6]
    exact p.ge x (List.mem_filter.1 hx).1) (by rw [a6, a4]; show h.first + _ ≤ h.next; omega)
  obtain ⟨b1, b2, b3, b4, b5, b6, b7⟩ := e2
  unfold expire
  simp only
  refine ⟨by rw [a1]; rfl, b1.trans a2, b2.trans a3, b3.trans a4, b4.trans a5, ⟨by rw [a6] at b6; exact Int.le_trans p.f0 b6, by rw [a4] at b7; exact b7⟩, fun x hx => ?_⟩
  rw [b1] at hx
  exact b5 x hx
theorem filter_take {l : List E3} {i : Nat} {x : E3} (p : E3 → Bool) (h : l[i]? = some x) : (l.take (i + 1)).filter p = (l.take i).filter p ++ (if p x = true then [x] else []) := by
  obtain ⟨hi, rfl⟩ := List.getElem?_eq_some_iff.1 h
  rw [List.take_succ_eq_append_getElem hi, List.filter_append]
  congr 1
  rw [List.filter_cons]
  rfl
theorem filter_len {l : List E3} (p : E3 → Bool) (i : Nat) : ((l.take i).filter p).length ≤ i := Nat.le_trans (List.length_filter_le _ _) (List.length_take_le _ _)
/-- What the document's Expire leaves. -/
def RExpired (w : World) (p : Nat) (h : HS) (gone stay : List E3) (e : Ending) (w' : World) : Prop :=
  ∃ A c u, e = .returned (.slice A gone.length c) ∧ RW w' 3 (.slice A gone.length c) gone.length (flat3 gone) ∧ (∀ g, isAt (.slice A gone.length c) g → w.heap.size ≤ g) ∧ QR w' p { h with l := stay } u ∧ (∀ g, isAt u g → w.heap.size ≤ g) ∧ Kept (fun g => g = p) w w'
set_option maxRecDepth 10000 in
set_option maxHeartbeats 4000000 in
theorem rexpire_any (now : Int) (p : Nat) (w : World) (h : HS) (v : Value) (hr : QR w p h v) (hpl : Pl h) (hw0 : -9223372036854775808 ≤ now) (hw1 : now ≤ 9223372036854775807) : Calls Try.prog 25 #[.pointer (some ⟨p, 0, none⟩), .int .i64 now] w
    (RExpired w p h (h.l.filter (old now h.timeout)) (h.l.filter (fun y => !old now h.timeout y))) := by
  obtain ⟨A, cap, rfl⟩ := hr.row.shape
  obtain ⟨c0, c1, c2, c3, hf, hp⟩ := hr.cells
  have HR := Lib.hid hr
  have PL := Lib.hid hpl
  obtain ⟨L, hL⟩ : ∃ L, L = h.l.length := ⟨_, rfl⟩
  have hlen := hpl.ok.len
  rw [← hL] at c1 hlen
  have HL := Lib.hid hL
  have hlen' : (L : Int) ≤ 1024 := by omega
  have t0 := hpl.t0
  have t1 := hpl.t1
  obtain ⟨T, hT⟩ : ∃ T, T = h.timeout := ⟨_, rfl⟩
  rw [← hT] at c0 t0 t1
  rw [← hT]
  have HT := Lib.hid hT
  have C0 := Lib.hid c0
  have C1 := Lib.hid c1
  have HF := Lib.hid hf
  clear hr hpl hL c2 c3 hf hlen hT c0 c1
  go_enter Try.func25, Try.ntmps25
  go_wp2_with fail
  go_loopw [5, 6, 7] (fun ov sv iv wx => ∃ i : Nat, (i : Int) ≤ (L : Int) ∧ iv = .int .i64 (i : Int) ∧ RW wx 3 ov ((h.l.take i).filter (old now T)).length (flat3 ((h.l.take i).filter (old now T))) ∧ RW wx 3 sv ((h.l.take i).filter (fun y => !old now T y)).length (flat3 ((h.l.take i).filter (fun y => !old now T y))) ∧
    (∀ g, isAt ov g → w.heap.size ≤ g) ∧ (∀ g, isAt sv g → w.heap.size ≤ g) ∧ (∀ g, isAt ov g → ¬ isAt sv g) ∧ Kept (fun _ => False) w wx) (fun _ _ iv _ => ((L : Int) - intOf iv).toNat)
  case atStart => exact ⟨0, by omega, rfl, by simpa [flat3] using RW.nil _ _, by simpa [flat3] using RW.nil _ _, fun g hg => (by obtain ⟨_, _, _, e⟩ := hg; cases e), fun g hg => (by obtain ⟨_, _, _, e⟩ := hg; cases e), fun g hg => (by obtain ⟨_, _, _, e⟩ := hg; cases e), Kept.refl _ _⟩
  case round =>
    obtain ⟨i, hi, rfl, ho, hs, ho2, hs2, hd, hk⟩ := hrel
    rename_i ov sv _
    obtain ⟨Ao, co, rfl⟩ := ho.shape
    obtain ⟨As, cs, rfl⟩ := hs.shape
    have lo := filter_len (l := h.l) (old now T) i
    have ls := filter_len (l := h.l) (fun y => !old now T y) i
    obtain ⟨no, hno⟩ : ∃ no, no = ((h.l.take i).filter (old now T)).length := ⟨_, rfl⟩
    obtain ⟨ns, hns⟩ : ∃ ns, ns = ((h.l.take i).filter (fun y => !old now T y)).length := ⟨_, rfl⟩
    rw [← hno] at ho lo ho2 hd
    rw [← hns] at hs ls hs2 hd
    rw [← hno, ← hns]
    have HO := Lib.hid ho
    have HS := Lib.hid hs
    have HO2 := Lib.hid ho2
    have HS2 := Lib.hid hs2
    have HD := Lib.hid hd
    have HK := Lib.hid hk
    have HNO := Lib.hid hno
    have HNS := Lib.hid hns
    have HRX := Lib.hid (HR.out.run hk)
    have c0 := (hk.cell (p := ⟨p, 0, none⟩) hp id).trans C0.out
    have c1 := (hk.cell (p := ⟨p, 1, none⟩) hp id).trans C1.out
    have f1 := (hk.frozen (p := ⟨p, 1, none⟩) hp id).trans (HF.out 1)
    have hlo : no ≤ 1000000 := by omega
    have hls : ns ≤ 1000000 := by omega
    clear ho hs ho2 hs2 hd hk hno hns lo ls
    by_cases hil : (i : Int) < (L : Int)
    · obtain ⟨x, hx⟩ : ∃ x, h.l[i]? = some x := ⟨_, List.getElem?_eq_getElem (by rw [← HL.out]; omega)⟩
      obtain ⟨g, off, rfl, hg, x0, x1, x2⟩ := HRX.out.at hx
      obtain ⟨a0, a1⟩ := PL.out.at0 x (List.mem_of_getElem? hx)
      have a2 := PL.out.last1
      have HFO := Lib.hid (filter_take (old now T) hx)
      have HFS := Lib.hid (filter_take (fun y => !old now T y) hx)
      have hdec : (Sat.clamp64 (now - x.2.2) > T ∧ old now T x = true) ∨ (¬ Sat.clamp64 (now - x.2.2) > T ∧ old now T x = false) := by
        unfold old
        by_cases h1 : T < Sat.clamp64 (now - x.2.2)
        · exact .inl ⟨h1, by simpa using h1⟩
        · exact .inr ⟨h1, by simpa using h1⟩
      obtain ⟨y1, y2, y3⟩ := x
      simp only at x0 x1 x2 a0 a1 hdec
      obtain ⟨Z, hZ⟩ : ∃ Z, Z = Sat.clamp64 (now - y3) := ⟨_, rfl⟩
      rw [← hZ] at hdec
      have CS := Lib.hid (fun w => show Calls Try.prog 35 #[.int .i64 now, .int .i64 y3] w fun e w' => e = .returned (.int .i64 Z) ∧ w' = w from
        (Sat.ref_sub_any now y3 w hw0 hw1 (by omega) (by omega)).mono fun e w' ⟨h1, h2⟩ => ⟨by rw [h1, hZ], h2.symm⟩)
      clear hx hZ a0 a1 a2
      have hdz : (decide (Z > T) = true ∧ old now T (y1, y2, y3) = true) ∨ (decide (Z > T) = false ∧ old now T (y1, y2, y3) = false) := by
        rcases hdec with h1 | h1
        · exact .inl ⟨by simpa using h1.1, h1.2⟩
        · exact .inr ⟨by simpa using h1.1, h1.2⟩
      clear hdec
      have HRD := Lib.hid (fun W : World => rd_three W 38 (y1, y2, y3))
      rcases hdz with ⟨z1, z2⟩ | ⟨z1, z2⟩
      · have Z2 := Lib.hid z2
        clear z2
        go_wp2_with fail
        go_quiet ((go_at_call 35; exact Calls.quiet_of_same (CS.out _)))
        go_upto_region 6 with fail
        generalize hWq : World.drewN wr _ = wq
        have hkq : Kept (fun _ => False) wr wq := by rw [← hWq]; exact (Kept.refl _ _).drewN _
        have HKQ := Lib.hid hkq
        have c1 := (hkq.cell (p := ⟨p, 1, none⟩) HRX.out.cells.2.2.2.2.2 id).trans c1
        have x0 := (hkq.cell (p := ⟨g, off + i * 3, none⟩) hg id).trans x0
        have x1 := (hkq.cell (p := ⟨g, off + i * 3 + 1, none⟩) hg id).trans x1
        have x2 := (hkq.cell (p := ⟨g, off + i * 3 + 2, none⟩) hg id).trans x2
        clear hWq hkq
        go_wp2_with (first
          | (at_builtin
             refine wpList_row rfl (.tmp 32) (.tmp 40) 34 rfl 38 (.agg #[.int .i64 0, .int .i64 0, .int .i64 0]) 3 24 Try.underlying34 info_sent rfl (by omega) (.slice Ao no co) no (flat3 ((h.l.take i).filter (old now T))) rfl (HO.out.kept (HKQ.out.alloc _) (fun _ _ => id)) _ _ (flat3 [(y1, y2, y3)]) rfl (HRD.out _) (flat3_one _) hlo ?_
             intro v5 w5 hr5 hk5 hn5
             obtain ⟨A5, c5, rfl⟩ := hr5.shape
             have HR5 := Lib.hid hr5
             have HK5 := Lib.hid hk5
             have HN5 := Lib.hid hn5
             clear hr5 hk5 hn5))
        go_roundw
        case rel =>
          have hkk : Kept (isAt (.slice Ao no co)) wr w5 := Kept.trans (S := isAt (.slice Ao no co)) ((HKQ.out.mono (S' := isAt (.slice Ao no co)) fun _ _ e => e.elim).alloc _) HK5.out (fun _ _ h => h)
          have hsz := (HKQ.out.alloc (.cells #[.int .i64 y1, .int .i64 y2, .int .i64 y3] 38)).size
          have hnew : ∀ g, isAt (.slice A5 (no + 1) c5) g → isAt (.slice Ao no co) g ∨ wr.heap.size ≤ g := fun g hg => by
            rcases HN5.out g hg with h1 | h1
            · exact .inl h1
            · exact .inr (by rw [h1]; exact hsz)
          have hlo2 : ((h.l.take (i + 1)).filter (old now T)).length = no + 1 := by rw [HFO.out, Z2.out]; simp [HNO.out]
          have hls2 : (h.l.take (i + 1)).filter (fun y => !old now T y) = (h.l.take i).filter (fun y => !old now T y) := by rw [HFS.out, Z2.out]; simp
          refine ⟨i + 1, by omega, by go_num, ?_, ?_, fun g hg => ?_, HS2.out, fun g hg => ?_, Kept.trans (S := fun _ => False) HK.out hkk (fun g hg e => by have := HO2.out g e; omega)⟩
          · rw [hlo2, HFO.out, Z2.out, if_pos rfl, flat3_append]
            exact HR5.out
          · rw [hls2, ← HNS.out]
            exact HS.out.kept hkk (fun g hg e => HD.out g e hg)
          · rcases hnew g hg with h1 | h1
            · exact HO2.out g h1
            · have := HK.out.size; omega
          · rcases hnew g hg with h1 | h1
            · exact HD.out g h1
            · intro hs3
              have := HS.out.lt hs3
              omega
        case measure => exact measI L i hil
      · have Z2 := Lib.hid z2
        clear z2
        go_wp2_with fail
        go_quiet ((go_at_call 35; exact Calls.quiet_of_same (CS.out _)))
        go_upto_region 7 with fail
        generalize hWq : World.drewN wr _ = wq
        have hkq : Kept (fun _ => False) wr wq := by rw [← hWq]; exact (Kept.refl _ _).drewN _
        have HKQ := Lib.hid hkq
        have c1 := (hkq.cell (p := ⟨p, 1, none⟩) HRX.out.cells.2.2.2.2.2 id).trans c1
        have x0 := (hkq.cell (p := ⟨g, off + i * 3, none⟩) hg id).trans x0
        have x1 := (hkq.cell (p := ⟨g, off + i * 3 + 1, none⟩) hg id).trans x1
        have x2 := (hkq.cell (p := ⟨g, off + i * 3 + 2, none⟩) hg id).trans x2
        clear hWq hkq
        go_wp2_with (first
          | (at_builtin
             refine wpList_row rfl (.tmp 42) (.tmp 50) 34 rfl 38 (.agg #[.int .i64 0, .int .i64 0, .int .i64 0]) 3 24 Try.underlying34 info_sent rfl (by omega) (.slice As ns cs) ns (flat3 ((h.l.take i).filter (fun y => !old now T y))) rfl (HS.out.kept (HKQ.out.alloc _) (fun _ _ => id)) _ _ (flat3 [(y1, y2, y3)]) rfl (HRD.out _) (flat3_one _) hls ?_
             intro v5 w5 hr5 hk5 hn5
             obtain ⟨A5, c5, rfl⟩ := hr5.shape
             have HR5 := Lib.hid hr5
             have HK5 := Lib.hid hk5
             have HN5 := Lib.hid hn5
             clear hr5 hk5 hn5))
        go_roundw
        case rel =>
          have hkk : Kept (isAt (.slice As ns cs)) wr w5 := Kept.trans (S := isAt (.slice As ns cs)) ((HKQ.out.mono (S' := isAt (.slice As ns cs)) fun _ _ e => e.elim).alloc _) HK5.out (fun _ _ h => h)
          have hsz := (HKQ.out.alloc (.cells #[.int .i64 y1, .int .i64 y2, .int .i64 y3] 38)).size
          have hnew : ∀ g, isAt (.slice A5 (ns + 1) c5) g → isAt (.slice As ns cs) g ∨ wr.heap.size ≤ g := fun g hg => by
            rcases HN5.out g hg with h1 | h1
            · exact .inl h1
            · exact .inr (by rw [h1]; exact hsz)
          have hls2 : ((h.l.take (i + 1)).filter (fun y => !old now T y)).length = ns + 1 := by rw [HFS.out, Z2.out]; simp [HNS.out]
          have hlo2 : (h.l.take (i + 1)).filter (old now T) = (h.l.take i).filter (old now T) := by rw [HFO.out, Z2.out]; simp
          refine ⟨i + 1, by omega, by go_num, ?_, ?_, HO2.out, fun g hg => ?_, fun g hg => ?_, Kept.trans (S := fun _ => False) HK.out hkk (fun g hg e => by have := HS2.out g e; omega)⟩
          · rw [hlo2, ← HNO.out]
            exact HO.out.kept hkk (fun g hg e => HD.out g hg e)
          · rw [hls2, HFS.out, Z2.out]
            simp only [Bool.not_false, if_pos, flat3_append]
            exact HR5.out
          · rcases hnew g hg with h1 | h1
            · exact HS2.out g h1
            · have := HK.out.size; omega
          · intro hs3
            rcases hnew g hs3 with h1 | h1
            · exact HD.out g hg h1
            · have := HO.out.lt hg
              omega
        case measure => exact measI L i hil
    · have hiL : i = L := by omega
      have hall : h.l.take i = h.l := by rw [hiL, HL.out]; exact List.take_length
      have FO := Lib.hid (show no = (h.l.filter (old now T)).length by rw [HNO.out, hall])
      have FS := Lib.hid (show ns = (h.l.filter (fun y => !old now T y)).length by rw [HNS.out, hall])
      have HA := Lib.hid hall
      clear hall hiL
      go_wp2_with fail
      go_ret
      refine ⟨Ao, co, .slice As ns cs, by rw [← FO.out]; rfl, ?_, by rw [← FO.out]; exact HO2.out, ?_, HS2.out, Kept.setCell (S := fun g => g = p) (HK.out.mono fun _ _ e => e.elim) (p := ⟨p, 1, none⟩) (.inl rfl) _⟩
      · have h1 := HO.out
        rw [HA.out] at h1
        rw [← FO.out]
        exact h1.kept (Kept.setCell (S := fun g => g = p) (Kept.refl _ _) (p := ⟨p, 1, none⟩) (.inl rfl) _) (fun g hg e => by have := HO2.out g hg; omega)
      · refine QR.setRow (h := h) (HR.out) HK.out ?_ HS2.out rfl
        show RW _ 3 _ (h.l.filter (fun y => !old now T y)).length (flat3 (h.l.filter (fun y => !old now T y)))
        have h1 := HS.out
        rw [HA.out] at h1
        rw [← FS.out]
        exact h1
end Go.Proofs.Ytfemmbipglpalaa.History
