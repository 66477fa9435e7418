/- A writer of the call's own beside blocks that it must not touch; a reader likewise; no condition but the ranges in each. -/
import Derived.Test.YtmedlplgeeeodaaBitsLaw4
namespace Go.Proofs.Ytmedlplgeeeodaa.Bits
open Go.RowKit Go.Proofs.Ytmedlplgeeeodaa.Plain Go.Proofs.Ytmedlplgeeeodaa.Heap Go.Proofs.Ytmedlplgeeeodaa.Open

/-- A cell is kept. -/
theorem ck {S : Nat → Prop} {w w' : World} (hk : Kept S w w') {b i : Nat} {u : Value} (h : w.cell? ⟨b, i, none⟩ = some u) (hb : ¬ S b) : w'.cell? ⟨b, i, none⟩ = some u :=
  (hk.cell (p := ⟨b, i, none⟩) (World.block_lt_of_cell? w ⟨b, i, none⟩ h) hb).trans h
theorem cells3 {w : World} {b : Nat} {x y z : Value} {t : TypeId} (h : w.heap[b]? = some (.cells #[x, y, z] t (0, 0))) : w.cell? ⟨b, 0, none⟩ = some x ∧ w.cell? ⟨b, 1, none⟩ = some y ∧ w.cell? ⟨b, 2, none⟩ = some z :=
  ⟨by simp [World.cell?, h], by simp [World.cell?, h], by simp [World.cell?, h]⟩
theorem measN (n k : Nat) (h : (k : Int) < (n : Int)) : ((n : Int) - (intOf (.int .i64 ((k : Int) + 1)))).toNat < ((n : Int) - intOf (.int .i64 (k : Int))).toNat := by simp [intOf]; omega
theorem below_kept {w w' : World} (h : Below w.heap.size w w') : Kept (fun _ => False) w w' := Kept.of_below h
/-- The writer at block p holds L; the blocks of E are as they were in w0. -/
structure WX (t : TypeId) (w0 w : World) (p : Nat) (E : Nat → Prop) (L : List Int) : Prop where
  ex : ∃ g, WR t w p g L ∧ ∀ k, g = some k → ¬ E k
  np : ¬ E p
  lt : ∀ k, E k → k < w0.heap.size
  kp : Kept (fun k => ¬ E k) w0 w
section
variable {t : TypeId} {w0 w w' : World} {p : Nat} {E E' : Nat → Prop} {L L' : List Int}
theorem WX.cell (h : WX t w0 w p E L) {b i : Nat} {u : Value} (hb : E b) (hc : w0.cell? ⟨b, i, none⟩ = some u) : w.cell? ⟨b, i, none⟩ = some u := ck h.kp hc (fun e => e hb)
theorem WX.fr (h : WX t w0 w p E L) {g g' : Option Nat} (hE : ∀ k, g = some k → ¬ E k) (hw : WR t w' p g' L') (hf : Fr w w' p g g') : WX t w0 w' p E L' := by
  refine ⟨⟨g', hw, fun k hk he => ?_⟩, h.np, h.lt, h.kp.trans hf.1 (fun i _ e he => ?_)⟩
  · rcases hf.2 with h2 | ⟨j, h2, h3⟩
    · exact hE k (h2 ▸ hk) he
    · rw [h2] at hk
      injection hk with hk
      have h4 := h.lt k he
      have h5 := h.kp.size
      omega
  · rcases e with e | e
    · exact h.np (e ▸ he)
    · exact hE i e he
theorem WX.put (h : WX 70 w0 w p E L) (hL : L.length ≤ 524288) {v : Int} (hv : 0 ≤ v) (hv' : v < 4294967296) (n : Int) :
    Calls Try.prog 19 #[.pointer (some ⟨p, 0, none⟩), .int .u32 v, .int .i64 n] w fun e w' => e = .returned (.tuple #[]) ∧ WX 70 w0 w' p E (puts L v n) := by
  obtain ⟨g, hw, hg⟩ := h.ex
  exact (put_any L v n p g w hw hL hv hv').mono fun e w' ⟨h1, g', h2, h3⟩ => ⟨h1, h.fr hg h2 h3⟩
theorem WX.align (h : WX 70 w0 w p E L) (hL : L.length ≤ 524288) (n : Int) :
    Calls Try.prog 21 #[.pointer (some ⟨p, 0, none⟩), .int .i64 n] w fun e w' => e = .returned (.tuple #[]) ∧ WX 70 w0 w' p E (aligns L n) := by
  obtain ⟨g, hw, hg⟩ := h.ex
  exact (align_any L n p g w hw hL).mono fun e w' ⟨h1, g', h2, h3⟩ => ⟨h1, h.fr hg h2 h3⟩
theorem WX.text (h : WX 70 w0 w p E L) :
    Calls Try.prog 22 #[.pointer (some ⟨p, 0, none⟩)] w fun e w' => e = .returned (.string (txt L)) ∧ w = w' := by
  obtain ⟨g, hw, hg⟩ := h.ex
  exact text_any L p g w hw
theorem WX.rput (h : WX 74 w0 w p E L) (hL : L.length ≤ 524288) {v : Int} (hv : 0 ≤ v) (hv' : v < 4294967296) (n : Int) :
    Calls Try.prog 24 #[.pointer (some ⟨p, 0, none⟩), .int .u32 v, .int .i64 n] w fun e w' => e = .returned (.tuple #[]) ∧ WX 74 w0 w' p E (puts L v n) := by
  obtain ⟨g, hw, hg⟩ := h.ex
  exact (ref_put_any L v n p g w hw hL hv hv').mono fun e w' ⟨h1, g', h2, h3⟩ => ⟨h1, h.fr hg h2 h3⟩
theorem WX.ralign (h : WX 74 w0 w p E L) (hL : L.length ≤ 524288) (n : Int) :
    Calls Try.prog 27 #[.pointer (some ⟨p, 0, none⟩), .int .i64 n] w fun e w' => e = .returned (.tuple #[]) ∧ WX 74 w0 w' p E (aligns L n) := by
  obtain ⟨g, hw, hg⟩ := h.ex
  exact (ref_align_any L n p g w hw hL).mono fun e w' ⟨h1, g', h2, h3⟩ => ⟨h1, h.fr hg h2 h3⟩
theorem WX.rtext (h : WX 74 w0 w p E L) :
    Calls Try.prog 28 #[.pointer (some ⟨p, 0, none⟩)] w fun e w' => e = .returned (.string (txt L)) ∧ w = w' := by
  obtain ⟨g, hw, hg⟩ := h.ex
  exact ref_text_any L p g w hw
theorem WX.new (t : TypeId) (w : World) : WX t w (w.alloc (.cells #[.slice none 0 0, .int .i64 0] t)) w.heap.size (fun k => k < w.heap.size) [] :=
  ⟨⟨none, WR.new t w, fun k e => by cases e⟩, Nat.lt_irrefl _, fun k hk => hk, (Kept.refl _ w).alloc _⟩
theorem WX.grab (h : WX t w0 w p E L) (o : Obj) : WX t (w.alloc o) (w.alloc o) p (fun k => E k ∨ k = w.heap.size) L := by
  obtain ⟨g, hw, hg⟩ := h.ex
  have hl := hw.lt
  have hs := h.kp.size
  refine ⟨⟨g, hw.kept ((Kept.refl (fun _ => False) w).alloc o) id (fun _ _ => id), fun k hk e => ?_⟩, fun e => ?_, fun k e => ?_, Kept.refl _ _⟩
  · rcases e with e | e
    · exact hg k hk e
    · have := hl.2 k hk; omega
  · rcases e with e | e
    · exact h.np e
    · omega
  · rcases e with e | e
    · have := h.lt k e; simp; omega
    · simp; omega
theorem WX.drop {w1 : World} {E1 : Nat → Prop} (h : WX t w1 w p E1 L) (hk : Kept (fun k => ¬ E k) w0 w1) (hE : ∀ k, E k → E1 k) (hl : ∀ k, E k → k < w0.heap.size) : WX t w0 w p E L := by
  obtain ⟨g, hw, hg⟩ := h.ex
  exact ⟨⟨g, hw, fun k hk e => hg k hk (hE k e)⟩, fun e => h.np (hE p e), hl, hk.trans h.kp (fun i _ n e => n (hE i e))⟩
theorem WX.run (h : WX t w0 w p E L) (hk : Kept (fun _ => False) w w') : WX t w0 w' p E L := by
  obtain ⟨g, hw, hg⟩ := h.ex
  exact ⟨⟨g, hw.kept hk id (fun _ _ => id), hg⟩, h.np, h.lt, h.kp.trans hk (fun _ _ e => e.elim)⟩
theorem WX.below (h : WX t w0 w p E L) (hE : ∀ k, k < w0.heap.size → E k) : Below w0.heap.size w0 w := h.kp.below (Nat.le_refl _) (fun i hi => by
  rcases Nat.lt_or_ge i w0.heap.size with h1 | h1
  · exact absurd (hE i h1) hi
  · exact h1)
theorem WX.bits (h : WX t w0 w p E L) : IsBits L := by
  obtain ⟨g, hw, hg⟩ := h.ex
  exact hw.1
end
theorem puts_fit {L : List Int} {v : Int} {n : Nat} (hn : n ≤ 32) (h : L.length + n ≤ 524288) : puts L v (n : Int) = L ++ bitsOf v n := puts_len hn h
theorem aligns_fit {L : List Int} {n : Nat} (h1 : 1 ≤ n) (h2 : n ≤ 64) (h : L.length + pad L.length n ≤ 524288) : aligns L (n : Int) = L ++ List.replicate (pad L.length n) 0 := by
  unfold aligns
  rw [if_neg (by rw [Int.toNat_natCast]; omega), Int.toNat_natCast]
end Go.Proofs.Ytmedlplgeeeodaa.Bits
