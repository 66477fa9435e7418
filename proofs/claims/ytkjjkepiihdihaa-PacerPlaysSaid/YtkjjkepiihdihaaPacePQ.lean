/- The pacer and the document's, side by side; no condition but those in each. -/
import Derived.Test.YtkjjkepiihdihaaPaceRef3
import Derived.Test.YtkjjkepiihdihaaPaceOwn
namespace Go.Proofs.Ytkjjkepiihdihaa.Pace
open Go.RowKit Go.Proofs.Ytkjjkepiihdihaa.Plain Go.Proofs.Ytkjjkepiihdihaa.Heap Go.Proofs.Ytkjjkepiihdihaa.Rows Go.Proofs.Ytkjjkepiihdihaa.Open

/-- The document's pacer at p, in memory that is not N's. -/
structure QX (N : Nat → Prop) (w0 w : World) (p : Nat) (s : PS) (bu : Int) : Prop where
  ok : okP s
  hbu : s.burst = bu * 8000000
  pb : ∃ v, PV 72 N w p v (rb s bu)
  kept : Kept (fun g => ¬ N g) w0 w
theorem QX.set {N : Nat → Prop} {w0 w : World} {p : Nat} {s : PS} {bu : Int} (h : QX N w0 w p s bu) (rate window now : Int) : Calls Try.prog 21 #[.pointer (some ⟨p, 0, none⟩), .int .i64 rate, .int .i64 window, .int .i64 now] w
    fun e w' => e = .returned (.tuple #[]) ∧ QX N w0 w' p (setp s rate window now) bu := by
  obtain ⟨ok, hbu, ⟨v, hv⟩, hk⟩ := h
  exact (rset_any N rate window now bu p v w s hv ok hbu).mono fun e w' ⟨he, h2, k2⟩ => ⟨he, setp_ok ok _ _ _, hbu, ⟨v, h2⟩, hk.trans k2 fun g _ e => by subst e; exact hv.np⟩
theorem QX.enqueue {N : Nat → Prop} {w0 w : World} {p : Nat} {s : PS} {bu : Int} (h : QX N w0 w p s bu) (a b cl d now : Int) : Calls Try.prog 20 #[.pointer (some ⟨p, 0, none⟩), .agg #[.int .i64 a, .int .i64 b, .int .i64 cl, .int .i64 d], .int .i64 now] w
    fun e w' => e = .returned (.bool (enq s a b cl d now).2) ∧ QX N w0 w' p (enq s a b cl d now).1 bu := by
  obtain ⟨ok, hbu, ⟨v, hv⟩, hk⟩ := h
  have hok := enq_ok ok a b cl d now
  have no : ¬ (0 ≤ cl ∧ cl < 4 ∧ 0 ≤ d ∧ d ≤ 1500 ∧ ((s.q cl.toNat).length : Int) < s.queue) → enq s a b cl d now = (goes s now, false) := fun h => by unfold enq; rw [if_neg h]
  have yes : (0 ≤ cl ∧ cl < 4 ∧ 0 ≤ d ∧ d ≤ 1500 ∧ ((s.q cl.toNat).length : Int) < s.queue) → enq s a b cl d now = (push (goes s now) a b cl.toNat d, true) := fun h => by unfold enq; rw [if_pos h]
  by_cases hc : 0 ≤ cl ∧ cl < 4
  · obtain ⟨c, rfl⟩ : ∃ c : Nat, cl = (c : Int) := ⟨cl.toNat, by omega⟩
    by_cases hd : 0 ≤ d ∧ d ≤ 1500
    · by_cases hl : ((s.q c).length : Int) < s.queue
      · have e := yes ⟨hc.1, hc.2, hd.1, hd.2, by simpa using hl⟩
        rw [e] at hok ⊢
        exact (renq_take N a b d now bu c p v w s hv ok hbu (by omega) (by simpa using hd.1) (by simpa using hd.2) hl).mono fun e w' ⟨he, u, h2, k2⟩ => ⟨he, hok, hbu, ⟨_, by simpa using h2⟩, hk.trans k2 fun g _ e => by
          rcases e with e | e
          · subst e; exact hv.np
          · exact fun hn => (hv.own c (by omega) g e).1 hn⟩
      · have e := no fun h => hl (by simpa using h.2.2.2.2)
        rw [e] at hok ⊢
        exact (renq_full N a b d now bu c p v w s hv ok hbu (by omega) (by simpa using hd.1) (by simpa using hd.2) (by have := ok.len c (by omega); omega)).mono fun e w' ⟨he, h2, k2⟩ => ⟨he, hok, hbu, ⟨v, h2⟩, hk.trans k2 fun g _ e => by subst e; exact hv.np⟩
    · have e := no fun h => hd ⟨h.2.2.1, h.2.2.2.1⟩
      rw [e] at hok ⊢
      refine (renq_walk N a b c d now bu p v w s hv ok hbu ?_).mono fun e w' ⟨he, h2, k2⟩ => ⟨he, hok, hbu, ⟨v, h2⟩, hk.trans k2 fun g _ e => by subst e; exact hv.np⟩
      by_cases h0 : d < 0
      · exact .inr (.inr (.inl ⟨by simp, by simp; omega, by simpa using h0⟩))
      · exact .inr (.inr (.inr ⟨by simp, by simp; omega, by simpa using h0, by simp; omega⟩))
  · have e := no fun h => hc ⟨h.1, h.2.1⟩
    rw [e] at hok ⊢
    refine (renq_walk N a b cl d now bu p v w s hv ok hbu ?_).mono fun e w' ⟨he, h2, k2⟩ => ⟨he, hok, hbu, ⟨v, h2⟩, hk.trans k2 fun g _ e => by subst e; exact hv.np⟩
    by_cases h0 : cl < 0
    · exact .inl (by simpa using h0)
    · exact .inr (.inl ⟨by simpa using h0, by simp; omega⟩)
theorem QX.polling {N : Nat → Prop} {w0 w : World} {p : Nat} {s : PS} {bu : Int} (h : QX N w0 w p s bu) (now f : Int) : Calls Try.prog 23 #[.pointer (some ⟨p, 0, none⟩), .int .i64 now, .int .i64 f] w
    fun e w' => ∃ A c, e = .returned (.slice A (poll s now f).1.length c) ∧ RW w' 4 (.slice A (poll s now f).1.length c) (poll s now f).1.length (flat4 (poll s now f).1) ∧ (∀ g, isAt (.slice A (poll s now f).1.length c) g → w.heap.size ≤ g) ∧ QX N w0 w' p (poll s now f).2 bu ∧ Kept (fun g => g = p) w w' := by
  obtain ⟨ok, hbu, ⟨v, hv⟩, hk⟩ := h
  exact (rpoll_walk N now f bu p v w s hv ok hbu).mono fun e w' ⟨ov, v', he, h1, h2, h3, h4, _, k2⟩ => by
    obtain ⟨A, c, rfl⟩ := h1.shape
    have k3 : Kept (fun g => ¬ N g) w w' := k2.mono fun g _ e => by subst e; exact hv.np
    exact ⟨A, c, he, h1, h2, ⟨h4, (poll_acc ok now f).2.2.2.2.1.trans hbu, ⟨v', h3⟩, hk.trans k3 fun _ _ h => h⟩, k2⟩
theorem QX.waiting {N : Nat → Prop} {w0 w : World} {p : Nat} {s : PS} {bu : Int} (h : QX N w0 w p s bu) : Calls Try.prog 24 #[.pointer (some ⟨p, 0, none⟩)] w
    fun e w' => e = .returned (.tuple #[.int .i64 ((upto s 4).length : Int), .int .i64 (szs (upto s 4))]) ∧ w = w' := by
  obtain ⟨v, hv⟩ := h.pb
  exact rwaiting_any N p v w s bu hv h.ok
theorem QX.age {N : Nat → Prop} {w0 w : World} {p : Nat} {s : PS} {bu : Int} (h : QX N w0 w p s bu) (now : Int) : Calls Try.prog 26 #[.pointer (some ⟨p, 0, none⟩), .int .i64 now] w
    fun e w' => e = .returned (.int .i64 (ages (clampT s now) (upto s 4))) ∧ w.drew = w' := by
  obtain ⟨v, hv⟩ := h.pb
  exact rage_any N now p v w s bu hv h.ok
theorem QX.spare {N : Nat → Prop} {w0 w : World} {p : Nat} {s : PS} {bu : Int} (h : QX N w0 w p s bu) : Calls Try.prog 28 #[.pointer (some ⟨p, 0, none⟩)] w
    fun e w' => e = .returned (.int .i64 (s.credit / 8000000)) ∧ w = w' := by
  obtain ⟨v, hv⟩ := h.pb
  exact rspare_any N p v w s bu hv h.ok
/-- What each of the two must leave alone: old blocks, the caller's own, the other one and its rows. -/
def N1 (B : Nat) (E : Nat → Prop) (q : Nat) (u : Nat → Value) : Nat → Prop := fun g => (g < B ∨ E g) ∨ g = q ∨ ∃ c, c < 4 ∧ isAt (u c) g
structure PQ (B : Nat) (E : Nat → Prop) (w : World) (p q : Nat) (sp sq : PS) (b : Int) : Prop where
  ok1 : okP sp
  ok2 : okP sq
  hbu : sq.burst = b * 8000000
  mem : ∃ v u, PV 63 (N1 B E q u) w p v sp ∧ PV 72 (N1 B E p v) w q u (rb sq b)
theorem PQ.px {B : Nat} {E : Nat → Prop} {w : World} {p q : Nat} {sp sq : PS} {b : Int} (h : PQ B E w p q sp sq b) : ∃ N, PX N w w p sp ∧ (∀ g, g < B ∨ E g → N g) ∧ ∀ w' s', PX N w w' p s' → PQ B E w' p q s' sq b := by
  obtain ⟨ok1, ok2, hbu, v, u, hv, hu⟩ := h
  refine ⟨N1 B E q u, ⟨ok1, ⟨v, hv⟩, Kept.refl _ _⟩, fun g hg => .inl hg, fun w' s' hx => ?_⟩
  obtain ⟨ok', ⟨v', hv'⟩, hk⟩ := hx
  refine ⟨ok', ok2, hbu, v', u, hv', (hk.block q hu.cells.2.2.2.2.2.2.2.2.2.2.2 (fun hn => hn (.inr (.inl rfl)))).trans hu.blk, fun c hc => (hu.qs c hc).kept hk fun g hg hn => hn (.inr (.inr ⟨c, hc, hg⟩)), fun hn => ?_, fun c hc g hg => ⟨fun hn => ?_, (hu.own c hc g hg).2⟩, hu.ne, fun g hg => ?_⟩
  · rcases hn with h1 | h1 | ⟨c, hc, h1⟩
    · exact hu.np (.inl h1)
    · exact hv'.np (.inr (.inl h1.symm))
    · exact (hv'.own c hc q h1).1 (.inr (.inl rfl))
  · rcases hn with h1 | h1 | ⟨d, hd, h1⟩
    · exact (hu.own c hc g hg).1 (.inl h1)
    · exact (hu.own c hc g hg).1 (.inr (.inl h1))
    · exact (hv'.own d hd g h1).1 (.inr (.inr ⟨c, hc, hg⟩))
  · rcases hg with h1 | h1 | ⟨d, hd, h1⟩
    · exact hv'.lt g (.inl h1)
    · rw [h1]; exact hv'.cells.2.2.2.2.2.2.2.2.2.2.2
    · exact (hv'.qs d hd).lt h1
theorem PQ.qx {B : Nat} {E : Nat → Prop} {w : World} {p q : Nat} {sp sq : PS} {b : Int} (h : PQ B E w p q sp sq b) : ∃ N, QX N w w q sq b ∧ (∀ g, g < B ∨ E g → N g) ∧ ∀ w' s', QX N w w' q s' b → PQ B E w' p q sp s' b := by
  obtain ⟨ok1, ok2, hbu, v, u, hv, hu⟩ := h
  refine ⟨N1 B E p v, ⟨ok2, hbu, ⟨u, hu⟩, Kept.refl _ _⟩, fun g hg => .inl hg, fun w' s' hx => ?_⟩
  obtain ⟨ok', hbu', ⟨u', hu'⟩, hk⟩ := hx
  refine ⟨ok1, ok', hbu', v, u', ⟨(hk.block p hv.cells.2.2.2.2.2.2.2.2.2.2.2 (fun hn => hn (.inr (.inl rfl)))).trans hv.blk, fun c hc => (hv.qs c hc).kept hk fun g hg hn => hn (.inr (.inr ⟨c, hc, hg⟩)), fun hn => ?_, fun c hc g hg => ⟨fun hn => ?_, (hv.own c hc g hg).2⟩, hv.ne, fun g hg => ?_⟩, hu'⟩
  · rcases hn with h1 | h1 | ⟨c, hc, h1⟩
    · exact hv.np (.inl h1)
    · exact hu'.np (.inr (.inl h1.symm))
    · exact (hu'.own c hc p h1).1 (.inr (.inl rfl))
  · rcases hn with h1 | h1 | ⟨d, hd, h1⟩
    · exact (hv.own c hc g hg).1 (.inl h1)
    · exact (hv.own c hc g hg).1 (.inr (.inl h1))
    · exact (hu'.own d hd g h1).1 (.inr (.inr ⟨c, hc, hg⟩))
  · rcases hg with h1 | h1 | ⟨d, hd, h1⟩
    · exact hu'.lt g (.inl h1)
    · rw [h1]; exact hu'.cells.2.2.2.2.2.2.2.2.2.2.2
    · exact (hu'.qs d hd).lt h1
theorem PQ.grab {B : Nat} {E E' : Nat → Prop} {w w' : World} {p q : Nat} {sp sq : PS} {b : Int} (h : PQ B E w p q sp sq b) (hk : Kept (fun _ => False) w w') (hE : ∀ g, E' g → E g ∨ (w.heap.size ≤ g ∧ g < w'.heap.size)) : PQ B E' w' p q sp sq b := by
  obtain ⟨ok1, ok2, hbu, v, u, hv, hu⟩ := h
  refine ⟨ok1, ok2, hbu, v, u, hv.kept hk id (fun _ _ _ _ => id) fun g hg => ?_, hu.kept hk id (fun _ _ _ _ => id) fun g hg => ?_⟩
  · rcases hg with (h1 | h1) | h1
    · exact .inl ⟨.inl (.inl h1), hv.lt g (.inl (.inl h1))⟩
    · rcases hE g h1 with h2 | h2
      · exact .inl ⟨.inl (.inr h2), hv.lt g (.inl (.inr h2))⟩
      · exact .inr h2
    · exact .inl ⟨.inr h1, hv.lt g (.inr h1)⟩
  · rcases hg with (h1 | h1) | h1
    · exact .inl ⟨.inl (.inl h1), hu.lt g (.inl (.inl h1))⟩
    · rcases hE g h1 with h2 | h2
      · exact .inl ⟨.inl (.inr h2), hu.lt g (.inl (.inr h2))⟩
      · exact .inr h2
    · exact .inl ⟨.inr h1, hu.lt g (.inr h1)⟩
theorem PQ.lt {B : Nat} {E : Nat → Prop} {w : World} {p q : Nat} {sp sq : PS} {b : Int} (h : PQ B E w p q sp sq b) {g : Nat} (hg : g < B ∨ E g) : g < w.heap.size := by
  obtain ⟨v, u, hv, _⟩ := h.mem
  exact hv.lt g (.inl hg)
/-- An element of what went, with all of its four numbers. -/
theorem out_at4 {w : World} {A : Option Addr} {n c : Nat} {out : List W5} (h : RW w 4 (.slice A n c) n (flat4 out)) {i : Nat} {x : W5} (hx : out[i]? = some x) (hi : i < n) :
    ∃ g off, A = some ⟨g, off, none⟩ ∧ w.cell? ⟨g, off + i * 4, none⟩ = some (.int .i64 x.1) ∧ w.cell? ⟨g, off + i * 4 + 1, none⟩ = some (.int .i64 x.2.1) ∧ w.cell? ⟨g, off + i * 4 + 2, none⟩ = some (.int .i64 x.2.2.1) ∧ w.cell? ⟨g, off + i * 4 + 3, none⟩ = some (.int .i64 x.2.2.2.1) := by
  obtain ⟨g, off, hA, hg, hc⟩ := h.rd.2 (by omega)
  obtain ⟨f0, f1, f2, f3⟩ := flat4_get _ i x hx
  exact ⟨g, off, hA, hc _ _ f0, hc _ _ f1, hc _ _ f2, hc _ _ f3⟩
set_option maxHeartbeats 2000000 in
/-- Two lists of packets that read alike. -/
theorem packets_same (A B : Option Addr) (n c d : Nat) (out : List W5) (w : World) (hr : RW w 4 (.slice A n c) n (flat4 out)) (hs : RW w 4 (.slice B n d) n (flat4 out)) (hn : (n : Int) ≤ 1024) :
    Calls Try.prog 22 #[.slice A n c, .slice B n d] w fun e w' => e = .returned (.bool true) ∧ Kept (fun _ => False) w w' := by
  have hl : out.length = n := by have h1 := hr.1; rw [flat4_len] at h1; omega
  have HR := Lib.hid hr
  have HS := Lib.hid hs
  have HL := Lib.hid hl
  clear hr hs hl
  go_enter Try.func22, Try.ntmps22
  go_wp2_with fail
  go_loopw [5] (fun i wr => ∃ k : Nat, (k : Int) ≤ (n : Int) ∧ i = .int .i64 (k : Int) ∧ Kept (fun _ => False) w wr) (fun i _ => ((n : Int) - intOf i).toNat)
  case atStart => exact ⟨0, by omega, rfl, Kept.refl _ _⟩
  case round =>
    obtain ⟨k, hk, rfl, hw⟩ := hrel
    have HW := Lib.hid hw
    clear hw
    by_cases hlt : (k : Int) < (n : Int)
    · obtain ⟨x, hx⟩ : ∃ x, out[k]? = some x := ⟨_, List.getElem?_eq_getElem (by rw [HL.out]; omega)⟩
      obtain ⟨g, off, rfl, x0, x1, x2, x3⟩ := out_at4 (HR.out.kept HW.out (fun _ _ => id)) hx (by omega)
      obtain ⟨g', off', rfl, y0, y1, y2, y3⟩ := out_at4 (HS.out.kept HW.out (fun _ _ => id)) hx (by omega)
      clear hx
      go_wp2_with fail
      go_quiet (fail)
      go_wp2
      go_roundw
      case rel => exact ⟨k + 1, by omega, by go_num, HW.out.drewN _⟩
      case measure => exact meas4 n k hlt
    · go_wp2
      go_ret
      exact ⟨rfl, HW.out⟩
end Go.Proofs.Ytkjjkepiihdihaa.Pace
