/- PhaseMoves: what it comes to; no condition but what data there is. -/
import Derived.Test.YtclieljalegmkaaPhaseAdd2
namespace Go.Proofs.Ytclieljalegmkaa.Phase
open Go.RowKit Go.Proofs.Ytclieljalegmkaa.Plain Go.Proofs.Ytclieljalegmkaa.Heap Go.Proofs.Ytclieljalegmkaa.Float Go.Proofs.Ytclieljalegmkaa.Open

theorem SN.re {w : World} {N N' : Nat → Prop} {v : Value} {L : List Int} (h : SN w N v L) (hN : ∀ g, isAt v g → ¬ N' g) : SN w N' v L := by
  rcases h with h | ⟨g, off, cap, cs, t, rfl, h1, h3⟩
  · exact .inl h
  · exact .inr ⟨g, off, cap, cs, t, rfl, hN g ⟨_, _, _, rfl⟩, h3⟩
/-- Two lists of samples of the call's own, from block B on. -/
structure PP (B : Nat) (w0 w : World) (p q : Nat) (L M : List Int) : Prop where
  ne : p ≠ q
  bp : B ≤ p
  bq : B ≤ q
  sz : B ≤ w.heap.size
  below : Below B w0 w
  two : ∃ v u, w.heap[p]? = some (.cells #[v] 57 (0, 0)) ∧ w.heap[q]? = some (.cells #[u] 57 (0, 0)) ∧
    SN w (fun g => g < B ∨ g = p ∨ g = q ∨ isAt u g) v L ∧ SN w (fun g => g < B ∨ g = p ∨ g = q ∨ isAt v g) u M
section
variable {B : Nat} {w0 w : World} {p q : Nat} {L M : List Int}
theorem PP.swap (h : PP B w0 w p q L M) : PP B w0 w q p M L := by
  obtain ⟨v, u, h1, h2, h3, h4⟩ := h.two
  exact ⟨h.ne.symm, h.bq, h.bp, h.sz, h.below, u, v, h2, h1, h4.re (fun g hg hn => h4.at hg (by rcases hn with a | a | a | a; exact .inl a; exact .inr (.inr (.inl a)); exact .inr (.inl a); exact .inr (.inr (.inr a)))), h3.re (fun g hg hn => h3.at hg (by rcases hn with a | a | a | a; exact .inl a; exact .inr (.inr (.inl a)); exact .inr (.inl a); exact .inr (.inr (.inr a))))⟩
theorem PP.run (h : PP B w0 w p q L M) {w' : World} (hb : Below w.heap.size w w') : PP B w0 w' p q L M := by
  obtain ⟨v, u, h1, h2, h3, h4⟩ := h.two
  have hk := Kept.of_below (S := fun _ => False) hb
  exact ⟨h.ne, h.bp, h.bq, Nat.le_trans h.sz hb.size, below_then h.below h.sz hb, v, u, (hk.block p (Array.getElem?_eq_some_iff.1 h1).1 id).trans h1, (hk.block q (Array.getElem?_eq_some_iff.1 h2).1 id).trans h2, h3.kept hk (fun _ _ h => h), h4.kept hk (fun _ _ h => h)⟩
theorem PP.add (h : PP B w0 w p q L M) (x : Int) (hl : L.length ≤ 64) : Calls Try.prog 16 #[.pointer (some ⟨p, 0, none⟩), .int .i64 x] w
    fun e w' => e = .returned (.tuple #[]) ∧ PP B w0 w' p q (pstep L x) M := by
  obtain ⟨v, u, h1, h2, h3, h4⟩ := h.two
  have hp : p < w.heap.size := (Array.getElem?_eq_some_iff.1 h1).1
  have hq : q < w.heap.size := (Array.getElem?_eq_some_iff.1 h2).1
  have hsz := h.sz
  refine (add_n _ p v L x w h1 h3 (fun g hg => ?_) (.inr (.inl rfl)) hl).mono fun e w' ⟨k1, ⟨v', k2, k3⟩, k4⟩ => ⟨k1, h.ne, h.bp, h.bq, Nat.le_trans h.sz k4.size, h.below.trans (k4.below h.sz (fun i hi => ?_)), v', u, k2, ?_, k3, ?_⟩
  · rcases hg with a | a | a | a
    · omega
    · omega
    · omega
    · exact h4.lt a
  · rcases hi with a | a
    · rw [a]; exact h.bp
    · exact Nat.le_of_not_lt (fun hlt => h3.at a (.inl hlt))
  · refine (k4.block q hq ?_).trans h2
    rintro (a | a)
    · exact h.ne a.symm
    · exact h3.at a (.inr (.inr (.inl rfl)))
  · refine (h4.kept k4 (fun g hg hn => ?_)).re (fun g hg hn => ?_)
    · rcases hn with a | a
      · exact h4.at hg (.inr (.inl a))
      · exact h4.at hg (.inr (.inr (.inr a)))
    · rcases hn with a | a | a | a
      · exact h4.at hg (.inl a)
      · exact h4.at hg (.inr (.inl a))
      · exact h4.at hg (.inr (.inr (.inl a)))
      · exact k3.at a (.inr (.inr (.inr hg)))
theorem PP.powers (h : PP B w0 w p q L M) (hl : L.length ≤ 64) : Calls Try.prog 17 #[.pointer (some ⟨p, 0, none⟩)] w
    fun e w' => e = .returned (.tuple #[.int .i64 (powers L).1, .int .i64 (powers L).2.1, .int .i64 (powers L).2.2]) ∧ PP B w0 w' p q L M := by
  obtain ⟨v, u, h1, h2, h3, h4⟩ := h.two
  have hr : PR w 0 p L := ⟨v, h1, h3.sl (.inr (.inl rfl))⟩
  rcases Nat.lt_or_ge L.length 4 with h4 | h4
  · exact (powers_few 0 p L w hr h4).mono fun _ _ ⟨h1, h2⟩ => ⟨h1, h.run h2⟩
  · exact (powers_many 0 p L w hr h4 hl).mono fun _ _ ⟨h1, h2⟩ => ⟨h1, h.run h2⟩
end
theorem pstep_len (L : List Int) (x : Int) (h : L.length ≤ 64) : (pstep L x).length ≤ 64 := by
  unfold pstep
  split
  · simp at *; omega
  · simp at *; omega
/-- Samples with b more each. -/
def mv (b : Int) (L : List Int) : List Int := L.map (· + b)
theorem mv_getD (b : Int) (L : List Int) (i : Nat) (h : i < L.length) : (mv b L).getD i 0 = L.getD i 0 + b := by
  simp [mv, List.getD_eq_getElem?_getD, List.getElem?_eq_getElem h]
def Bd (L : List Int) : Prop := ∀ x ∈ L, -32768 ≤ x ∧ x ≤ 32767
theorem Bd.getD {L : List Int} (h : Bd L) (i : Nat) (hi : i < L.length) : -32768 ≤ L.getD i 0 ∧ L.getD i 0 ≤ 32767 := by
  rw [List.getD_eq_getElem?_getD, List.getElem?_eq_getElem hi]
  exact h _ (List.getElem_mem _)
theorem pstep_mv (L : List Int) (x b : Int) (hx : -32768 ≤ x ∧ x ≤ 32767) (hb : -32768 ≤ b ∧ b ≤ 32767) : pstep (mv b L) (x + b) = mv b (pstep L x) := by
  unfold pstep
  rw [hold_id (x := x + b) (by omega) (by omega), hold_id (x := x) (by omega) (by omega)]
  have e : mv b L ++ [x + b] = mv b (L ++ [x]) := by simp [mv]
  have el : (mv b (L ++ [x])).length = (L ++ [x]).length := by simp [mv]
  rw [e, el]
  split
  · simp [mv]
  · rfl
theorem pstep_bd {L : List Int} (h : Bd L) (x : Int) (hx : -32768 ≤ x ∧ x ≤ 32767) : Bd (pstep L x) := by
  have h2 : Bd (L ++ [x]) := fun y hy => by
    rcases List.mem_append.1 hy with hy | hy
    · exact h y hy
    · simp at hy; rw [hy]; exact hx
  unfold pstep
  rw [hold_id (x := x) (by omega) (by omega)]
  split
  · exact fun y hy => h2 y (List.mem_of_mem_drop hy)
  · exact h2
theorem acc_mv (L : List Int) (b : Int) (h : Bd L) (hb : -32768 ≤ b ∧ b ≤ 32767) (k : Nat) (hk : 4 * k ≤ L.length) : (acc (mv b L) k).2 = (acc L k).2 := by
  induction k with
  | zero => rfl
  | succ k ih =>
    have i1 := ih (by omega)
    have b0 := h.getD (4 * k) (by omega)
    have b1 := h.getD (4 * k + 1) (by omega)
    have b2 := h.getD (4 * k + 2) (by omega)
    have b3 := h.getD (4 * k + 3) (by omega)
    simp only [acc, add4]
    rw [mv_getD b L _ (by omega), mv_getD b L _ (by omega), mv_getD b L _ (by omega), mv_getD b L _ (by omega)]
    rw [hold_id (x := L.getD (4 * k) 0 + b) (by omega) (by omega), hold_id (x := L.getD (4 * k + 1) 0 + b) (by omega) (by omega), hold_id (x := L.getD (4 * k + 2) 0 + b) (by omega) (by omega), hold_id (x := L.getD (4 * k + 3) 0 + b) (by omega) (by omega),
      hold_id (x := L.getD (4 * k) 0) (by omega) (by omega), hold_id (x := L.getD (4 * k + 1) 0) (by omega) (by omega), hold_id (x := L.getD (4 * k + 2) 0) (by omega) (by omega), hold_id (x := L.getD (4 * k + 3) 0) (by omega) (by omega)]
    rw [show (acc (mv b L) k).2.1 = (acc L k).2.1 by rw [i1], show (acc (mv b L) k).2.2.1 = (acc L k).2.2.1 by rw [i1], show (acc (mv b L) k).2.2.2 = (acc L k).2.2.2 by rw [i1]]
    refine Prod.ext ?_ (Prod.ext ?_ ?_) <;> simp only <;> omega
theorem powers_mv (L : List Int) (b : Int) (h : Bd L) (hb : -32768 ≤ b ∧ b ≤ 32767) : (powers (mv b L)).2 = (powers L).2 := by
  have el : (mv b L).length = L.length := by simp [mv]
  unfold powers
  rw [el]
  split
  · rfl
  · rename_i hl
    have hd : (mv b L).drop (L.length % 4) = mv b (L.drop (L.length % 4)) := by simp [mv]
    rw [hd]
    have ha := acc_mv (L.drop (L.length % 4)) b (fun y hy => h y (List.mem_of_mem_drop hy)) hb (L.length / 4) (by simp; omega)
    simp only
    rw [ha]
theorem wf_i16 {n : Int} (h : (Lit.int .i16 n).wf = true) : -32768 ≤ n ∧ n ≤ 32767 := by
  simpa [Lit.wf, IntKind.min, IntKind.max, IntKind.signed, IntKind.bits] using h
set_option maxRecDepth 10000 in
set_option maxHeartbeats 1000000 in
theorem PhaseMoves_any (A : Option Addr) (n c : Nat) (l : List Int) (by_ : Int) (w : World) (h1 : Els 1 (rInt .i16) w A n l) (hw : (Lit.int .i16 by_).wf = true) :
    Calls Try.prog 6 #[.slice A n c, .int .i16 by_] w fun e w' => e = .returned (.bool true) ∧ Below w.heap.size w w' := by
  obtain ⟨r1, u1⟩ := h1.ints
  have R1 := Lib.hid r1
  have U1 := Lib.hid u1
  have hby := wf_i16 hw
  clear h1 r1 u1 hw
  go_enter Try.func6, Try.ntmps6
  go_wp2_with fail
  refine (new_any _).mono ?_
  rintro e w1 ⟨rfl, rfl⟩
  go_wp2_with fail
  refine (new_any _).mono ?_
  rintro e w2 ⟨rfl, rfl⟩
  obtain ⟨p, hp⟩ : ∃ p, p = w.heap.size := ⟨_, rfl⟩
  generalize hW : World.alloc (World.alloc w _) _ = W0
  have hPP : PP w.heap.size w W0 p (w.heap.size + 1) [] (mv by_ []) := by
    rw [← hW, hp]
    refine ⟨by omega, by omega, by omega, by simp; omega, ((Below.refl _ _).alloc (Nat.le_refl _) _).alloc (by simp) _, .slice none 0 0, .slice none 0 0, ?_, ?_, .inl ⟨rfl, rfl⟩, .inl ⟨rfl, rfl⟩⟩
    · exact (heap_alloc_old _ _ (by simp)).trans (heap_alloc_new w _)
    · have h := heap_alloc_new (w.alloc (.cells #[.slice none 0 0] 57)) (.cells #[.slice none 0 0] 57)
      rwa [show (w.alloc (.cells #[.slice none 0 0] 57)).heap.size = w.heap.size + 1 by simp] at h
  rw [show (w.alloc (.cells #[.slice none 0 0] 57)).heap.size = w.heap.size + 1 by simp]
  obtain ⟨q, hq⟩ : ∃ q, q = w.heap.size + 1 := ⟨_, rfl⟩
  rw [← hq] at hPP ⊢
  rw [← hp]
  have HPP := Lib.hid hPP
  clear hPP hW hq hp
  go_wp2
  go_loopw [7] (fun iv wr => ∃ (k : Nat) (L : List Int), k ≤ 200 ∧ iv = .int .i64 k ∧ L.length ≤ 64 ∧ Bd L ∧ PP w.heap.size w wr p q L (mv by_ L)) (fun iv _ => 200 - (intOf iv).toNat)
  case atStart => exact ⟨0, [], by omega, rfl, by simp, nofun, HPP.out⟩
  case round =>
    obtain ⟨k, L, hk, rfl, hl, hbd, hpp⟩ := hrel
    have HL := Lib.hid hl
    have HBd := Lib.hid hbd
    have HQ := Lib.hid hpp
    clear hl hbd hpp HPP
    by_cases hlt : k < n
    · by_cases hlt2 : (k : Int) < 200
      · obtain ⟨b, off, rfl, hb, hc⟩ := R1.out.2.2 (by omega)
        have x0 : wr.cell? ⟨b, off + k, none⟩ = some (.int .i16 (l.getD k 0)) := (HQ.out.below.cell (p := ⟨b, off + k, none⟩) hb).trans (hc k hlt)
        have y0 := hc k hlt
        have hx := wf_i16 (U1.out k hlt)
        clear hc
        generalize l.getD k 0 = x at *
        have t1 : wrap64 x = x := w64 (by omega) (by omega)
        have t2 : wrap64 by_ = by_ := w64 (by omega) (by omega)
        have t3 : wrap64 (x + by_) = x + by_ := w64 (by omega) (by omega)
        have HS := Lib.hid (pstep_mv L x by_ hx hby)
        have HP2 := Lib.hid (powers_mv (pstep L x) by_ (pstep_bd HBd.out x hx) hby)
        have HLen := Lib.hid (pstep_len L x HL.out)
        have HB2 := Lib.hid (pstep_bd HBd.out x hx)
        have HML : (mv by_ L).length ≤ 64 := by rw [show (mv by_ L).length = L.length by simp [mv]]; exact HL.out
        have HML2 : (mv by_ (pstep L x)).length ≤ 64 := by rw [show (mv by_ (pstep L x)).length = (pstep L x).length by simp [mv]]; exact HLen.out
        have HM1 := Lib.hid HML
        have HM2 := Lib.hid HML2
        clear HML HML2 hx
        go_wp2_with fail
        refine (HQ.out.add x HL.out).mono ?_
        rintro e w1 ⟨rfl, h1⟩
        have z0 : w1.cell? ⟨b, off + k, none⟩ = some (.int .i16 x) := (h1.below.cell (p := ⟨b, off + k, none⟩) hb).trans y0
        have H1 := Lib.hid h1
        clear h1
        go_wp2_with fail
        refine (H1.out.swap.add (x + by_) HM1.out).mono ?_
        rintro e w2 ⟨rfl, h2⟩
        rw [HS.out] at h2
        have H2 := Lib.hid h2.swap
        clear h2
        go_wp2_with fail
        refine (H2.out.powers HLen.out).mono ?_
        rintro e w3 ⟨rfl, h3⟩
        have H3 := Lib.hid h3
        clear h3
        go_wp2_with fail
        refine (H3.out.swap.powers HM2.out).mono ?_
        rintro e w4 ⟨rfl, h4⟩
        rw [HP2.out]
        have H4 := Lib.hid h4.swap
        clear h4
        generalize powers (pstep L x) = P at *
        generalize (powers (mv by_ (pstep L x))).1 = P1 at *
        go_wp2
        go_roundw
        case rel => exact ⟨k + 1, pstep L x, by omega, by go_num, HLen.out, HB2.out, H4.out⟩
        case measure => simp [intOf]; omega
      · go_wp2_with fail
        refine (wakes_any _).mono ?_
        rintro e w3 ⟨rfl, hb⟩
        go_wp2
        go_ret
        exact ⟨rfl, below_then HQ.out.below HQ.out.sz hb⟩
    · go_wp2_with fail
      refine (wakes_any _).mono ?_
      rintro e w3 ⟨rfl, hb⟩
      go_wp2
      go_ret
      exact ⟨rfl, below_then HQ.out.below HQ.out.sz hb⟩
end Go.Proofs.Ytclieljalegmkaa.Phase
