/- PhasePlays: what it comes to; no condition but what data there is. -/
import Derived.Test.YtclieljalegmkaaPhaseRef3
namespace Go.Proofs.Ytclieljalegmkaa.Phase
open Go.RowKit Go.Proofs.Ytclieljalegmkaa.Plain Go.Proofs.Ytclieljalegmkaa.Heap Go.Proofs.Ytclieljalegmkaa.Float Go.Proofs.Ytclieljalegmkaa.Open

/-- The samples, and the reference's, of the call's own, from block B on. -/
structure PQ1 (B : Nat) (w0 w : World) (p q : Nat) (L M : List Int) : Prop where
  ne : p ≠ q
  bp : B ≤ p
  bq : B ≤ q
  sz : B ≤ w.heap.size
  below : Below B w0 w
  two : ∃ v u, w.heap[p]? = some (.cells #[v] 57 (0, 0)) ∧ w.heap[q]? = some (.cells #[u] 63 (0, 0)) ∧
    SN w (fun g => g < B ∨ g = p ∨ g = q ∨ isAt u g) v L ∧ SN w (fun g => g < B ∨ g = p ∨ g = q ∨ isAt v g) u M
section
variable {B : Nat} {w0 w : World} {p q : Nat} {L M : List Int}
theorem PQ1.run (h : PQ1 B w0 w p q L M) {w' : World} (hb : Below w.heap.size w w') : PQ1 B w0 w' p q L M := by
  obtain ⟨v, u, h1, h2, h3, h4⟩ := h.two
  have hk := Kept.of_below (S := fun _ => False) hb
  exact ⟨h.ne, h.bp, h.bq, Nat.le_trans h.sz hb.size, below_then h.below h.sz hb, v, u, (hk.block p (Array.getElem?_eq_some_iff.1 h1).1 id).trans h1, (hk.block q (Array.getElem?_eq_some_iff.1 h2).1 id).trans h2, h3.kept hk (fun _ _ h => h), h4.kept hk (fun _ _ h => h)⟩
theorem PQ1.add (h : PQ1 B w0 w p q L M) (x : Int) (hl : L.length ≤ 64) : Calls Try.prog 16 #[.pointer (some ⟨p, 0, none⟩), .int .i64 x] w
    fun e w' => e = .returned (.tuple #[]) ∧ PQ1 B w0 w' p q (pstep L x) M := by
  obtain ⟨v, u, h1, h2, h3, h4⟩ := h.two
  have hp : p < w.heap.size := (Array.getElem?_eq_some_iff.1 h1).1
  have hq : q < w.heap.size := (Array.getElem?_eq_some_iff.1 h2).1
  have hsz := h.sz
  refine (add_n _ p v L x w h1 h3 (fun g hg => ?_) (.inr (.inl rfl)) hl).mono fun e w' ⟨k1, ⟨v', k2, k3⟩, k4⟩ => ⟨k1, h.ne, h.bp, h.bq, Nat.le_trans h.sz k4.size, h.below.trans (k4.below h.sz (fun i hi => ?_)), v', u, k2, ?_, k3, ?_⟩
  · rcases hg with a | a | a | a
    · omega
    · omega
    · omega
    · exact h4.lt a
  · rcases hi with a | a
    · rw [a]; exact h.bp
    · exact Nat.le_of_not_lt (fun hlt => h3.at a (.inl hlt))
  · refine (k4.block q hq ?_).trans h2
    rintro (a | a)
    · exact h.ne a.symm
    · exact h3.at a (.inr (.inr (.inl rfl)))
  · refine (h4.kept k4 (fun g hg hn => ?_)).re (fun g hg hn => ?_)
    · rcases hn with a | a
      · exact h4.at hg (.inr (.inl a))
      · exact h4.at hg (.inr (.inr (.inr a)))
    · rcases hn with a | a | a | a
      · exact h4.at hg (.inl a)
      · exact h4.at hg (.inr (.inl a))
      · exact h4.at hg (.inr (.inr (.inl a)))
      · exact k3.at a (.inr (.inr (.inr hg)))
theorem PQ1.radd (h : PQ1 B w0 w p q L M) (x : Int) (hl : M.length ≤ 64) : Calls Try.prog 20 #[.pointer (some ⟨q, 0, none⟩), .int .i64 x] w
    fun e w' => e = .returned (.tuple #[]) ∧ PQ1 B w0 w' p q L (pstep M x) := by
  obtain ⟨v, u, h1, h2, h3, h4⟩ := h.two
  have hp : p < w.heap.size := (Array.getElem?_eq_some_iff.1 h1).1
  have hq : q < w.heap.size := (Array.getElem?_eq_some_iff.1 h2).1
  have hsz := h.sz
  refine (ref_add _ q u M x w h2 h4 hl).mono fun e w' ⟨k1, ⟨u', k2, k3⟩, k4⟩ => ⟨k1, h.ne, h.bp, h.bq, Nat.le_trans h.sz k4.size, h.below.trans (k4.below h.sz (fun i hi => ?_)), v, u', ?_, k2, ?_, ?_⟩
  · rw [hi]; exact h.bq
  · exact (k4.block p hp h.ne).trans h1
  · refine (h3.kept k4 (fun g hg hn => ?_)).re (fun g hg hn => ?_)
    · exact h3.at hg (.inr (.inr (.inl hn)))
    · rcases hn with a | a | a | a
      · exact h3.at hg (.inl a)
      · exact h3.at hg (.inr (.inl a))
      · exact h3.at hg (.inr (.inr (.inl a)))
      · exact k3.at a (h3.lt hg)
  · refine k3.re (fun g hg hn => k3.at hg ?_)
    rcases hn with a | a | a | a
    · show g < w.heap.size; omega
    · show g < w.heap.size; omega
    · show g < w.heap.size; omega
    · exact h3.lt a
theorem PQ1.to_pp (h : PQ1 B w0 w p q L M) : PR w 0 p L := by
  obtain ⟨v, u, h1, h2, h3, h4⟩ := h.two
  exact ⟨v, h1, h3.sl (.inr (.inl rfl))⟩
theorem PQ1.powers (h : PQ1 B w0 w p q L M) (hl : L.length ≤ 64) : Calls Try.prog 17 #[.pointer (some ⟨p, 0, none⟩)] w
    fun e w' => e = .returned (.tuple #[.int .i64 (powers L).1, .int .i64 (powers L).2.1, .int .i64 (powers L).2.2]) ∧ PQ1 B w0 w' p q L M := by
  have hr := h.to_pp
  rcases Nat.lt_or_ge L.length 4 with h4 | h4
  · exact (powers_few 0 p L w hr h4).mono fun _ _ ⟨h1, h2⟩ => ⟨h1, h.run h2⟩
  · exact (powers_many 0 p L w hr h4 hl).mono fun _ _ ⟨h1, h2⟩ => ⟨h1, h.run h2⟩
theorem PQ1.swings (h : PQ1 B w0 w p q L M) (hl : L.length ≤ 64) (s : Int) : Calls Try.prog 18 #[.pointer (some ⟨p, 0, none⟩), .int .i64 s] w
    fun e w' => e = .returned (.bool (swg (Phase.powers L) s)) ∧ PQ1 B w0 w' p q L M :=
  (swings_pr h.to_pp hl s).mono fun _ _ ⟨h1, h2⟩ => ⟨h1, h.run h2⟩
theorem PQ1.rpowers (h : PQ1 B w0 w p q L M) (hl : M.length ≤ 64) : Calls Try.prog 21 #[.pointer (some ⟨q, 0, none⟩)] w
    fun e w' => e = .returned (.agg #[.int .i64 (Phase.powers M).1, .int .i64 (Phase.powers M).2.1, .int .i64 (Phase.powers M).2.2]) ∧ PQ1 B w0 w' p q L M := by
  obtain ⟨v, u, h1, h2, h3, h4⟩ := h.two
  exact (ref_powers _ q u M w h2 h4 hl).mono fun _ _ ⟨h1, h2⟩ => ⟨h1, h.run h2⟩
theorem PQ1.rswings (h : PQ1 B w0 w p q L M) (hl : M.length ≤ 64) (s : Int) : Calls Try.prog 22 #[.pointer (some ⟨q, 0, none⟩), .int .i64 s] w
    fun e w' => e = .returned (.bool (swg (Phase.powers M) s)) ∧ PQ1 B w0 w' p q L M := by
  obtain ⟨v, u, h1, h2, h3, h4⟩ := h.two
  exact (ref_swings _ q u M s w h2 h4 hl).mono fun _ _ ⟨h1, h2⟩ => ⟨h1, h.run h2⟩
end
set_option maxHeartbeats 400000 in
theorem ref_new (w : World) : Calls Try.prog 19 #[] w fun e w' => e = .returned (.pointer (some ⟨w.heap.size, 0, none⟩)) ∧ w' = w.alloc (.cells #[.slice none 0 0] 63) := by
  go_enter Try.func19, Try.ntmps19
  go_wp2
  go_ret
  exact ⟨rfl, rfl⟩
set_option maxRecDepth 10000 in
set_option maxHeartbeats 1000000 in
theorem PhasePlays_any (A : Option Addr) (n c : Nat) (l : List Int) (s : Int) (w : World) (h1 : Els 1 (rInt .i64) w A n l) (_ : (Lit.int .i64 s).wf = true) :
    Calls Try.prog 8 #[.slice A n c, .int .i64 s] w fun e w' => e = .returned (.bool true) ∧ Below w.heap.size w w' := by
  obtain ⟨r1, u1⟩ := h1.ints
  have R1 := Lib.hid r1
  clear h1 r1 u1
  go_enter Try.func8, Try.ntmps8
  go_wp2_with fail
  refine (new_any _).mono ?_
  rintro e w1 ⟨rfl, rfl⟩
  go_wp2_with fail
  refine (ref_new _).mono ?_
  rintro e w2 ⟨rfl, rfl⟩
  obtain ⟨p, hp⟩ : ∃ p, p = w.heap.size := ⟨_, rfl⟩
  generalize hW : World.alloc (World.alloc w _) _ = W0
  have hPP : PQ1 w.heap.size w W0 p (w.heap.size + 1) [] [] := by
    rw [← hW, hp]
    refine ⟨by omega, by omega, by omega, by simp; omega, ((Below.refl _ _).alloc (Nat.le_refl _) _).alloc (by simp) _, .slice none 0 0, .slice none 0 0, ?_, ?_, .inl ⟨rfl, rfl⟩, .inl ⟨rfl, rfl⟩⟩
    · exact (heap_alloc_old _ _ (by simp)).trans (heap_alloc_new w _)
    · have h := heap_alloc_new (w.alloc (.cells #[.slice none 0 0] 57)) (.cells #[.slice none 0 0] 63)
      rwa [show (w.alloc (.cells #[.slice none 0 0] 57)).heap.size = w.heap.size + 1 by simp] at h
  rw [show (w.alloc (.cells #[.slice none 0 0] 57)).heap.size = w.heap.size + 1 by simp]
  obtain ⟨q, hq⟩ : ∃ q, q = w.heap.size + 1 := ⟨_, rfl⟩
  rw [← hq] at hPP ⊢
  rw [← hp]
  have HPP := Lib.hid hPP
  clear hPP hW hq hp
  go_wp2
  go_loopw [7] (fun iv wr => ∃ (k : Nat) (L : List Int), k ≤ 200 ∧ iv = .int .i64 k ∧ L.length ≤ 64 ∧ PQ1 w.heap.size w wr p q L L) (fun iv _ => 200 - (intOf iv).toNat)
  case atStart => exact ⟨0, [], by omega, rfl, by simp, HPP.out⟩
  case round =>
    obtain ⟨k, L, hk, rfl, hl, hpp⟩ := hrel
    have HL := Lib.hid hl
    have HQ := Lib.hid hpp
    clear hl hpp HPP
    by_cases hlt : k < n
    · by_cases hlt2 : (k : Int) < 200
      · obtain ⟨b, off, rfl, hb, hc⟩ := R1.out.2.2 (by omega)
        have x0 : wr.cell? ⟨b, off + k, none⟩ = some (.int .i64 (l.getD k 0)) := (HQ.out.below.cell (p := ⟨b, off + k, none⟩) hb).trans (hc k hlt)
        have y0 := hc k hlt
        clear hc
        generalize l.getD k 0 = x at *
        have HLen := Lib.hid (pstep_len L x HL.out)
        go_wp2_with fail
        refine (HQ.out.add x HL.out).mono ?_
        rintro e w1 ⟨rfl, h1⟩
        have z0 : w1.cell? ⟨b, off + k, none⟩ = some (.int .i64 x) := (h1.below.cell (p := ⟨b, off + k, none⟩) hb).trans y0
        have H1 := Lib.hid h1
        clear h1
        go_wp2_with fail
        refine (H1.out.radd x HL.out).mono ?_
        rintro e w2 ⟨rfl, h2⟩
        have H2 := Lib.hid h2
        clear h2
        generalize pstep L x = L1 at *
        go_wp2_with fail
        refine (H2.out.powers HLen.out).mono ?_
        rintro e w3 ⟨rfl, h3⟩
        have H3 := Lib.hid h3
        clear h3
        go_wp2_with fail
        refine (H3.out.rpowers HLen.out).mono ?_
        rintro e w4 ⟨rfl, h4⟩
        have H4 := Lib.hid h4
        clear h4
        go_wp2_with fail
        refine ((H4.out.run ((Below.refl _ _).alloc (Nat.le_refl _) _)).swings HLen.out s).mono ?_
        rintro e w5 ⟨rfl, h5⟩
        have H5 := Lib.hid h5
        clear h5
        go_wp2_with fail
        refine (H5.out.rswings HLen.out s).mono ?_
        rintro e w6 ⟨rfl, h6⟩
        have H6 := Lib.hid h6
        clear h6
        generalize swg (powers L1) s = sw at *
        go_wp2
        go_roundw
        case rel => exact ⟨k + 1, L1, by omega, by go_num, HLen.out, H6.out⟩
        case measure => simp [intOf]; omega
      · go_wp2_with fail
        refine (wakes_any _).mono ?_
        rintro e w3 ⟨rfl, hb⟩
        go_wp2
        go_ret
        exact ⟨rfl, below_then HQ.out.below HQ.out.sz hb⟩
    · go_wp2_with fail
      refine (wakes_any _).mono ?_
      rintro e w3 ⟨rfl, hb⟩
      go_wp2
      go_ret
      exact ⟨rfl, below_then HQ.out.below HQ.out.sz hb⟩
end Go.Proofs.Ytclieljalegmkaa.Phase
