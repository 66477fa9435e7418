/- What the reference's samples come to; no condition but the ranges in each. -/
import Derived.Test.YtclieljalegmkaaPhaseStill
namespace Go.Proofs.Ytclieljalegmkaa.Phase
open Go.RowKit Go.Proofs.Ytclieljalegmkaa.Plain Go.Proofs.Ytclieljalegmkaa.Heap Go.Proofs.Ytclieljalegmkaa.Float Go.Proofs.Ytclieljalegmkaa.Open

theorem SN.rd {w : World} {N : Nat → Prop} {v : Value} {L : List Int} (h : SN w N v L) : ∃ A c, v = .slice A L.length c ∧ Rd w 1 A L.length (nums .i64 L) := by
  rcases h with ⟨rfl, rfl⟩ | ⟨g, off, cap, cs, t, rfl, h1, h3, h4, h5, h6⟩
  · exact ⟨none, 0, rfl, rfl, fun h => by simp at h⟩
  · refine ⟨_, _, rfl, by simp [nums], fun _ => ⟨g, off, rfl, (Array.getElem?_eq_some_iff.1 h3).1, fun j u hj => ?_⟩⟩
    simp only [nums, List.getElem?_map, Option.map_eq_some_iff] at hj
    obtain ⟨y, hy, rfl⟩ := hj
    simp only [World.cell?, h3]
    exact h6 j y hy
theorem SN.of_own {w : World} {B : Nat} {e : TypeId} {v : Value} {L : List Int} (h : w.ownsRow B e 1 v L.length (nums .i64 L)) : SN w (fun g => g < B) v L := by
  rcases h.2 with ⟨rfl, h0⟩ | ⟨g, cap, cur, rfl, hb, hh, hc, hm, hs, r⟩
  · exact .inl ⟨rfl, List.eq_nil_of_length_eq_zero h0⟩
  · refine .inr ⟨g, 0, cap, cur, e, rfl, by omega, hh, hc, by omega, fun j x hj => ?_⟩
    have hj2 : j < L.length := (List.getElem?_eq_some_iff.1 hj).1
    have h1 : (cur.toList.take (L.length * 1))[j]? = some (.int .i64 x) := by rw [r]; simp [nums, hj]
    rw [List.getElem?_take_of_lt (by omega)] at h1
    simpa using h1
theorem own_cap {w : World} {base : Nat} {e : TypeId} {size n cap : Nat} {a : Addr} {xs : List Value} (h : w.ownsRow base e size (.slice (some a) n cap) n xs) : n ≤ cap := by
  rcases h.2 with ⟨he, _⟩ | ⟨g', cap', cur, he, _, _, hc, _⟩
  · injection he with he; cases he
  · injection he with _ _ he
    omega
set_option maxRecDepth 10000 in
set_option maxHeartbeats 1000000 in
theorem ref_add (N : Nat → Prop) (q : Nat) (v : Value) (L : List Int) (x : Int) (w : World) (hb : w.heap[q]? = some (.cells #[v] 63 (0, 0))) (hs : SN w N v L) (hl : L.length ≤ 64) : Calls Try.prog 20 #[.pointer (some ⟨q, 0, none⟩), .int .i64 x] w
    fun e w' => e = .returned (.tuple #[]) ∧ (∃ v', w'.heap[q]? = some (.cells #[v'] 63 (0, 0)) ∧ SN w' (fun g => g < w.heap.size) v' (pstep L x)) ∧ Kept (fun g => g = q) w w' := by
  obtain ⟨A, c, rfl, hr⟩ := hs.rd
  have hq : q < w.heap.size := (Array.getElem?_eq_some_iff.1 hb).1
  have c0 : w.cell? ⟨q, 0, none⟩ = some (.slice A L.length c) := by simp [World.cell?, hb]
  have f0 : w.frozen? ⟨q, 0, none⟩ = false := by simp [World.frozen?, hb]
  have HB := Lib.hid hb
  have HR := Lib.hid hr
  clear hb hr hs
  have hlen : (L ++ [hold x]).length = L.length + 1 := by simp
  rcases (by omega : L.length < 64 ∨ ¬ L.length < 64) with hbig | hbig
  ·   go_enter Try.func20, Try.ntmps20
      go_wp2_with (first
        | (go_at_call 24; refine (ref_held _ _).mono ?_; rintro e w2 ⟨rfl, rfl⟩)
        | (at_builtin
           refine wpList_app rfl (.tmp 5) (.tmp 9) 47 rfl w.heap.size 2 (.int .i64 0) 1 8 Try.underlying47 info_i64 rfl (by omega) (.slice (some ⟨w.heap.size, 0, none⟩) 0 0) 0 [] rfl (own_empty w w.heap.size _ 1 (Nat.le_refl _)) A L.length c (nums .i64 L) rfl (HR.out.kept ((Kept.refl (fun _ => False) w).alloc _) (fun _ _ _ => id)) (nums_one _ _) (by simp only [maxLen]; omega) (by omega) (by simp) ?_
           intro v1 w1 hown hg hat
           have HO1 := Lib.hid (show w1.ownsRow w.heap.size 2 1 v1 L.length (nums .i64 L) by simpa using hown)
           have hbw1 : Below w.heap.size w w1 := ((Below.refl w.heap.size w).alloc (Nat.le_refl _) _).grown hg (by simp) (fun k hk => by simp [Value.ownBlock] at hk; omega)
           have hsz1 := hbw1.size
           have HB1 := Lib.hid hbw1
           clear hown hg hat hbw1)
        | (at_builtin
           refine wpList_app rfl (.tmp 10) (.tmp 13) 47 rfl w.heap.size 2 (.int .i64 0) 1 8 Try.underlying47 info_i64 rfl (by omega) v1 L.length (nums .i64 L) rfl (HO1.out.alloc _) (some ⟨w1.heap.size, 0, none⟩) 1 1 [.int .i64 (hold x)] rfl (Rd.one _ _ _) (by simp [Value.oneCell']) (by simp only [maxLen]; omega) (by omega) (by simp; omega) ?_
           intro v2 w2 hown hg hat
           have HO2 := Lib.hid (show w2.ownsRow w.heap.size 2 1 v2 (L ++ [hold x]).length (nums .i64 (L ++ [hold x])) by rw [nums_append, List.length_append]; exact hown)
           have hbw2 : Below w.heap.size w w2 := (HB1.out.alloc hsz1 _).grown hg (by simp; omega) (fun k hk => (HO1.out.lt k hk).1)
           have HB2 := Lib.hid hbw2
           obtain ⟨g2, k2, rfl⟩ := own_form HO2.out (by simp)
           have hcap := own_cap HO2.out
           have hcq : w2.cell? ⟨q, 0, none⟩ = some (.slice A L.length c) := (hbw2.cell (p := ⟨q, 0, none⟩) hq).trans c0
           have hfq : w2.frozen? ⟨q, 0, none⟩ = false := (hbw2.frozen (p := ⟨q, 0, none⟩) hq).trans f0
           clear hown hg hat hbw2))
      have hk2 : Kept (fun g => g = q) w w2 := ⟨HB2.out.os, HB2.out.tape, HB2.out.output, HB2.out.size, fun i hi _ => HB2.out.block i hi⟩
      have hbq : w2.heap[q]? = some (.cells #[.slice A L.length c] 63 (0, 0)) := (HB2.out.block q hq).trans HB.out
      have hsn := SN.of_own HO2.out
      have hng : g2 ≠ q := fun e => by
        have := hsn.at (g := g2) ⟨_, _, _, rfl⟩
        exact this (by show g2 < w.heap.size; omega)
      refine bodyPost_end (results_none rfl _ _ _) rfl ⟨rfl, ?_, ?_⟩
      · have hst : pstep L x = L ++ [hold x] := by unfold pstep; rw [hlen, if_neg (by omega)]
        rw [hst]
        refine ⟨_, (by simp [World.setCell, Array.getElem?_modify, hbq]; rfl), ?_⟩
        rw [← hlen]
        exact hsn.kept ((Kept.refl (fun g => g = q) w2).setCell (p := ⟨q, 0, none⟩) (.inl rfl) _) (fun g hg e => by
          obtain ⟨_, _, _, hg⟩ := hg
          injection hg with hg
          injection hg with hg
          injection hg with hg
          exact hng (hg.trans e))
      · exact hk2.setCell (p := ⟨q, 0, none⟩) (.inl rfl) _
  ·   go_enter Try.func20, Try.ntmps20
      go_wp2_with (first
        | (go_at_call 24; refine (ref_held _ _).mono ?_; rintro e w2 ⟨rfl, rfl⟩)
        | (at_builtin
           refine wpList_app rfl (.tmp 5) (.tmp 9) 47 rfl w.heap.size 2 (.int .i64 0) 1 8 Try.underlying47 info_i64 rfl (by omega) (.slice (some ⟨w.heap.size, 0, none⟩) 0 0) 0 [] rfl (own_empty w w.heap.size _ 1 (Nat.le_refl _)) A L.length c (nums .i64 L) rfl (HR.out.kept ((Kept.refl (fun _ => False) w).alloc _) (fun _ _ _ => id)) (nums_one _ _) (by simp only [maxLen]; omega) (by omega) (by simp) ?_
           intro v1 w1 hown hg hat
           have HO1 := Lib.hid (show w1.ownsRow w.heap.size 2 1 v1 L.length (nums .i64 L) by simpa using hown)
           have hbw1 : Below w.heap.size w w1 := ((Below.refl w.heap.size w).alloc (Nat.le_refl _) _).grown hg (by simp) (fun k hk => by simp [Value.ownBlock] at hk; omega)
           have hsz1 := hbw1.size
           have HB1 := Lib.hid hbw1
           clear hown hg hat hbw1)
        | (at_builtin
           refine wpList_app rfl (.tmp 10) (.tmp 13) 47 rfl w.heap.size 2 (.int .i64 0) 1 8 Try.underlying47 info_i64 rfl (by omega) v1 L.length (nums .i64 L) rfl (HO1.out.alloc _) (some ⟨w1.heap.size, 0, none⟩) 1 1 [.int .i64 (hold x)] rfl (Rd.one _ _ _) (by simp [Value.oneCell']) (by simp only [maxLen]; omega) (by omega) (by simp; omega) ?_
           intro v2 w2 hown hg hat
           have HO2 := Lib.hid (show w2.ownsRow w.heap.size 2 1 v2 (L ++ [hold x]).length (nums .i64 (L ++ [hold x])) by rw [nums_append, List.length_append]; exact hown)
           have hbw2 : Below w.heap.size w w2 := (HB1.out.alloc hsz1 _).grown hg (by simp; omega) (fun k hk => (HO1.out.lt k hk).1)
           have HB2 := Lib.hid hbw2
           obtain ⟨g2, k2, rfl⟩ := own_form HO2.out (by simp)
           have hcap := own_cap HO2.out
           have hk1 : ¬ k2 = 1 := by rw [hlen] at hcap; omega
           have hcq : w2.cell? ⟨q, 0, none⟩ = some (.slice A L.length c) := (hbw2.cell (p := ⟨q, 0, none⟩) hq).trans c0
           have hfq : w2.frozen? ⟨q, 0, none⟩ = false := (hbw2.frozen (p := ⟨q, 0, none⟩) hq).trans f0
           clear hown hg hat hbw2))
      have hk2 : Kept (fun g => g = q) w w2 := ⟨HB2.out.os, HB2.out.tape, HB2.out.output, HB2.out.size, fun i hi _ => HB2.out.block i hi⟩
      have hbq : w2.heap[q]? = some (.cells #[.slice A L.length c] 63 (0, 0)) := (HB2.out.block q hq).trans HB.out
      have hsn := SN.of_own HO2.out
      have hng : g2 ≠ q := fun e => by
        have := hsn.at (g := g2) ⟨_, _, _, rfl⟩
        exact this (by show g2 < w.heap.size; omega)
      refine bodyPost_end (results_none rfl _ _ _) rfl ⟨rfl, ?_, ?_⟩
      · have hst : pstep L x = (L ++ [hold x]).drop 1 := by
          unfold pstep
          rw [hlen, if_pos (by omega), show L.length + 1 - 64 = 1 by omega]
        rw [hst]
        rcases hsn with ⟨h, _⟩ | ⟨g, off, cap, cs, t, he, h1, h3, h4, h5, h6⟩
        · injection h with h; cases h
        · injection he with he _ hc2
          injection he with he
          injection he with he1 he2
          subst he1 he2 hc2
          have hl2 : ((L ++ [hold x]).drop 1).length = L.length := by simp
          refine ⟨_, (by simp [World.setCell, Array.getElem?_modify, hbq]; rfl), .inr ⟨g2, 0 + 1, k2 - 1, cs, t, by rw [hl2], h1, ?_, by rw [hl2]; omega, by omega, fun j y hy => ?_⟩⟩
          · exact (((Kept.refl (fun g => g = q) w2).setCell (p := ⟨q, 0, none⟩) (.inl rfl) _).setCell (p := ⟨q, 0, none⟩) (.inl rfl) _).block g2 (Array.getElem?_eq_some_iff.1 h3).1 hng |>.trans h3
          · rw [List.getElem?_drop] at hy
            have := h6 (1 + j) y hy
            rwa [show 0 + 1 + j = 0 + (1 + j) by omega]
      · exact (hk2.setCell (p := ⟨q, 0, none⟩) (.inl rfl) _).setCell (p := ⟨q, 0, none⟩) (.inl rfl) _
end Go.Proofs.Ytclieljalegmkaa.Phase
