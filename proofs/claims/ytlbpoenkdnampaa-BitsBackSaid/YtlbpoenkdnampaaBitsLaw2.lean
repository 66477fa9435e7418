/- The law BitsWrites; no condition but that the arguments are of their kinds. -/
import Derived.Test.YtlbpoenkdnampaaBitsLaw
import Derived.Deep.RegionHeld3
namespace Go.Proofs.Ytlbpoenkdnampaa.Bits
open Go.RowKit Go.Proofs.Ytlbpoenkdnampaa.Plain Go.Proofs.Ytlbpoenkdnampaa.Heap Go.Proofs.Ytlbpoenkdnampaa.Open

/-- Two writers of the call's own, and one block more. -/
def WP (t t' : TypeId) (B : Nat) (w0 w : World) (p q : Nat) (X : Option (Nat × Obj)) (L M : List Int) : Prop :=
  ∃ g h : Option Nat, (∀ k, g = some k → B ≤ k ∧ k ≠ q ∧ h ≠ some k) ∧ (∀ k, h = some k → B ≤ k ∧ k ≠ p) ∧ p ≠ q ∧ B ≤ p ∧ B ≤ q ∧ B ≤ w.heap.size ∧ Below B w0 w ∧ WR t w p g L ∧ WR t' w q h M ∧
    (∀ x, X = some x → x.1 ≠ p ∧ x.1 ≠ q ∧ g ≠ some x.1 ∧ h ≠ some x.1 ∧ w.heap[x.1]? = some x.2)
section
variable {t t' : TypeId} {B : Nat} {w0 w : World} {p q : Nat} {X : Option (Nat × Obj)} {L M : List Int}
theorem WP.swap (h : WP t t' B w0 w p q X L M) : WP t' t B w0 w q p X M L := by
  obtain ⟨g, h, h1, h2, h3, h4, h5, h6, h7, h8, h9, hx⟩ := h
  exact ⟨h, g, fun k hk => ⟨(h2 k hk).1, (h2 k hk).2, fun hg => (h1 k hg).2.2 hk⟩, fun k hk => ⟨(h1 k hk).1, (h1 k hk).2.1⟩, h3.symm, h5, h4, h6, h7, h9, h8,
    fun x e => ⟨(hx x e).2.1, (hx x e).1, (hx x e).2.2.2.1, (hx x e).2.2.1, (hx x e).2.2.2.2⟩⟩
theorem WP.of {w' : World} {L' : List Int} {g h g' : Option Nat} (h1 : ∀ k, g = some k → B ≤ k ∧ k ≠ q ∧ h ≠ some k) (h2 : ∀ k, h = some k → B ≤ k ∧ k ≠ p) (h3 : p ≠ q) (h4 : B ≤ p) (h5 : B ≤ q) (h6 : B ≤ w.heap.size) (h7 : Below B w0 w) (h9 : WR t' w q h M)
    (hx : ∀ x, X = some x → x.1 ≠ p ∧ x.1 ≠ q ∧ g ≠ some x.1 ∧ h ≠ some x.1 ∧ w.heap[x.1]? = some x.2) (k1 : WR t w' p g' L') (k2 : Fr w w' p g g') : WP t t' B w0 w' p q X L' M := by
  obtain ⟨l1, l2⟩ := h9.lt
  obtain ⟨m1, m2⟩ := k2.below h7 h6 h4 (fun k hk => (h1 k hk).1)
  refine ⟨g', h, fun k hk => ⟨m2 k hk, ?_⟩, h2, h3, h4, h5, Nat.le_trans h6 k2.1.size, m1, k1, h9.kept k2.1 ?_ ?_, fun x e => ?_⟩
  · rcases k2.2 with e | ⟨j, e, hj⟩
    · exact (h1 k (e ▸ hk)).2
    · rw [e] at hk
      injection hk with hk
      subst hk
      exact ⟨by omega, fun hh => by have := l2 j hh; omega⟩
  · rintro (e | e)
    · exact h3 e.symm
    · exact (h1 q e).2.1 rfl
  · rintro k hk (e | e)
    · exact (h2 k hk).2 e
    · exact (h1 k e).2.2 hk
  · obtain ⟨a1, a2, a3, a4, a5⟩ := hx x e
    have al := (Array.getElem?_eq_some_iff.1 a5).1
    refine ⟨a1, a2, ?_, a4, (k2.1.block x.1 al ?_).trans a5⟩
    · rcases k2.2 with e | ⟨j, e, hj⟩
      · exact e ▸ a3
      · rw [e]
        intro e2
        injection e2 with e2
        omega
    · rintro (e | e)
      · exact a1 e
      · exact a3 e
theorem WP.cell (h : WP t t' B w0 w p q X L M) {b off : Nat} {u : Value} (hb : b < B) (hc : w0.cell? ⟨b, off, none⟩ = some u) : w.cell? ⟨b, off, none⟩ = some u := by
  obtain ⟨g, h, h1, h2, h3, h4, h5, h6, h7, h8, h9, hx⟩ := h
  exact (h7.cell (p := ⟨b, off, none⟩) hb).trans hc
theorem WP.drop (h : WP t t' B w0 w p q X L M) : WP t t' B w0 w p q none L M := by
  obtain ⟨g, h, h1, h2, h3, h4, h5, h6, h7, h8, h9, hx⟩ := h
  exact ⟨g, h, h1, h2, h3, h4, h5, h6, h7, h8, h9, fun x e => by cases e⟩
theorem WP.alloc (h : WP t t' B w0 w p q X L M) (o : Obj) : WP t t' B w0 (w.alloc o) p q (some (w.heap.size, o)) L M := by
  obtain ⟨g, h, h1, h2, h3, h4, h5, h6, h7, h8, h9, hx⟩ := h
  obtain ⟨l1, l2⟩ := h9.lt
  obtain ⟨n1, n2⟩ := h8.lt
  refine ⟨g, h, h1, h2, h3, h4, h5, by simp; omega, h7.alloc h6 _, h8.kept ((Kept.refl (fun _ => False) w).alloc o) id (fun _ _ => id), h9.kept ((Kept.refl (fun _ => False) w).alloc o) id (fun _ _ => id), fun x e => ?_⟩
  injection e with e
  subst e
  exact ⟨by show w.heap.size ≠ p; omega, by show w.heap.size ≠ q; omega, fun e => by have := n2 _ e; dsimp only at this; omega, fun e => by have := l2 _ e; dsimp only at this; omega, heap_alloc_new w o⟩
theorem WP.own3 {x : Nat} {a b c : Value} {ty : TypeId} (h : WP t t' B w0 w p q (some (x, .cells #[a, b, c] ty (0, 0))) L M) : w.cell? ⟨x, 0, none⟩ = some a ∧ w.cell? ⟨x, 1, none⟩ = some b ∧ w.cell? ⟨x, 2, none⟩ = some c := by
  obtain ⟨g, h, h1, h2, h3, h4, h5, h6, h7, h8, h9, hx⟩ := h
  have h0 := (hx _ rfl).2.2.2.2
  exact ⟨by simp [World.cell?, show w.heap[x]? = _ from h0], by simp [World.cell?, show w.heap[x]? = _ from h0], by simp [World.cell?, show w.heap[x]? = _ from h0]⟩
theorem WP.done {w' : World} (h : WP t t' B w0 w p q X L M) (hb : Below w.heap.size w w') : Below B w0 w' := by
  obtain ⟨g, h, h1, h2, h3, h4, h5, h6, h7, h8, h9⟩ := h
  exact below_then h7 h6 hb
end
theorem WP.new (t t' : TypeId) (w w1 w2 : World) (h1 : w1 = w.alloc (.cells #[.slice none 0 0, .int .i64 0] t)) (h2 : w2 = w1.alloc (.cells #[.slice none 0 0, .int .i64 0] t')) : WP t t' w.heap.size w w2 w.heap.size w1.heap.size none [] [] := by
  have e1 : w1.heap.size = w.heap.size + 1 := by subst h1; simp
  have b1 : Below w.heap.size w w1 := by subst h1; exact (Below.refl _ _).alloc (Nat.le_refl _) _
  have b2 : Below w.heap.size w w2 := by subst h2; exact b1.alloc (by omega) _
  have e2 : w2.heap.size = w.heap.size + 2 := by subst h2; simp; omega
  have r1 : WR t w1 w.heap.size none [] := by subst h1; exact WR.new t w
  refine ⟨none, none, (fun k hk => by cases hk), (fun k hk => by cases hk), by omega, by omega, by omega, by omega, b2, ?_, ?_, fun x e => by cases e⟩
  · subst h2
    exact r1.kept ((Kept.refl (fun _ => False) w1).alloc _) id (fun _ _ => id)
  · subst h2
    exact WR.new t' w1
section
variable {t' : TypeId} (B : Nat) (w0 w : World) (X : Option (Nat × Obj)) (L M : List Int) (v n : Int) (p q : Nat)
theorem put_wp (h : WP 53 t' B w0 w p q X L M) (hL : L.length ≤ 524288) (hv : 0 ≤ v) (hv' : v < 4294967296) :
    Calls Try.prog 19 #[.pointer (some ⟨p, 0, none⟩), .int .u32 v, .int .i64 n] w fun e w' => e = .returned (.tuple #[]) ∧ WP 53 t' B w0 w' p q X (puts L v n) M := by
  obtain ⟨g, h, h1, h2, h3, h4, h5, h6, h7, h8, h9, hx⟩ := h
  exact (put_any L v n p g w h8 hL hv hv').mono fun e w' ⟨k1, g', k2, k3⟩ => ⟨k1, WP.of h1 h2 h3 h4 h5 h6 h7 h9 hx k2 k3⟩
theorem ref_put_wp (h : WP t' 56 B w0 w q p X M L) (hL : L.length ≤ 524288) (hv : 0 ≤ v) (hv' : v < 4294967296) :
    Calls Try.prog 22 #[.pointer (some ⟨p, 0, none⟩), .int .u32 v, .int .i64 n] w fun e w' => e = .returned (.tuple #[]) ∧ WP t' 56 B w0 w' q p X M (puts L v n) := by
  obtain ⟨g, h, h1, h2, h3, h4, h5, h6, h7, h8, h9, hx⟩ := h.swap
  exact (ref_put_any L v n p g w h8 hL hv hv').mono fun e w' ⟨k1, g', k2, k3⟩ => ⟨k1, (WP.of h1 h2 h3 h4 h5 h6 h7 h9 hx k2 k3).swap⟩
theorem align_wp (h : WP 53 t' B w0 w p q X L M) (hL : L.length ≤ 524288) :
    Calls Try.prog 23 #[.pointer (some ⟨p, 0, none⟩), .int .i64 n] w fun e w' => e = .returned (.tuple #[]) ∧ WP 53 t' B w0 w' p q X (aligns L n) M := by
  obtain ⟨g, h, h1, h2, h3, h4, h5, h6, h7, h8, h9, hx⟩ := h
  exact (align_any L n p g w h8 hL).mono fun e w' ⟨k1, g', k2, k3⟩ => ⟨k1, WP.of h1 h2 h3 h4 h5 h6 h7 h9 hx k2 k3⟩
theorem ref_align_wp (h : WP t' 56 B w0 w q p X M L) (hL : L.length ≤ 524288) :
    Calls Try.prog 24 #[.pointer (some ⟨p, 0, none⟩), .int .i64 n] w fun e w' => e = .returned (.tuple #[]) ∧ WP t' 56 B w0 w' q p X M (aligns L n) := by
  obtain ⟨g, h, h1, h2, h3, h4, h5, h6, h7, h8, h9, hx⟩ := h.swap
  exact (ref_align_any L n p g w h8 hL).mono fun e w' ⟨k1, g', k2, k3⟩ => ⟨k1, (WP.of h1 h2 h3 h4 h5 h6 h7 h9 hx k2 k3).swap⟩
theorem text_wp (h : WP 53 t' B w0 w p q X L M) :
    Calls Try.prog 20 #[.pointer (some ⟨p, 0, none⟩)] w fun e w' => e = .returned (.string (txt L)) ∧ w = w' := by
  obtain ⟨g, h, h1, h2, h3, h4, h5, h6, h7, h8, h9⟩ := h
  exact text_any L p g w h8
theorem ref_text_wp (h : WP t' 56 B w0 w q p X M L) :
    Calls Try.prog 25 #[.pointer (some ⟨p, 0, none⟩)] w fun e w' => e = .returned (.string (txt L)) ∧ w = w' := by
  obtain ⟨g, h, h1, h2, h3, h4, h5, h6, h7, h8, h9⟩ := h.swap
  exact ref_text_any L p g w h8
end
abbrev Steps : Type := List (Int × Int × Int)
/-- The steps as the slice holds them. -/
def RS (w : World) (A : Option Addr) (n : Nat) (xs : Steps) : Prop :=
  xs.length = n ∧ n ≤ maxLen ∧ (0 < n → ∃ b off, A = some ⟨b, off, none⟩ ∧ b < w.heap.size ∧ ∀ i, i < n → ∃ k v m, xs[i]? = some (k, v, m) ∧ 0 ≤ v ∧ v < 4294967296 ∧ (Lit.int .i64 m).wf = true ∧
    w.cell? ⟨b, off + i * 3, none⟩ = some (.int .i64 k) ∧ w.cell? ⟨b, off + i * 3 + 1, none⟩ = some (.int .u32 v) ∧ w.cell? ⟨b, off + i * 3 + 2, none⟩ = some (.int .i64 m))
theorem RS.of {w : World} {A : Option Addr} {n : Nat} {xs : Steps} (h : Els 3 (rTwo (rInt .i64) (rTwo (rInt .u32) (rInt .i64))) w A n xs) : RS w A n xs := by
  obtain ⟨h1, h2, h3⟩ := h
  refine ⟨h1, h2, fun h0 => ?_⟩
  obtain ⟨b, off, e, hb, hc⟩ := h3 h0
  refine ⟨b, off, e, hb (by omega), fun i hi => ?_⟩
  have hx : xs[i]? = some (xs[i]'(by omega)) := List.getElem?_eq_getElem (by omega)
  obtain ⟨c, hl, hcell, c1, c2, e1, ⟨e2, _⟩, c3, c4, e3, ⟨e4, f4⟩, ⟨e5, f5⟩⟩ := hc i _ hx
  subst e4; subst e5; subst e3; subst e2; subst e1
  have q0 := hcell 0 _ rfl
  have q1 := hcell 1 _ rfl
  have q2 := hcell 2 _ rfl
  have hv : 0 ≤ (xs[i]'(by omega)).2.1 ∧ (xs[i]'(by omega)).2.1 ≤ 4294967295 := by
    simpa [Lit.wf, IntKind.min, IntKind.max, IntKind.bits, IntKind.signed] using f4
  exact ⟨_, _, _, hx, hv.1, Int.lt_of_le_of_lt hv.2 (by decide), f5, q0, q1, q2⟩
/-- What is written behind so many steps. -/
def step1 (L : List Int) (x : Int × Int × Int) : List Int := if x.1.tmod 2 = 0 then puts L x.2.1 x.2.2 else aligns L x.2.2
def writ (xs : Steps) (k : Nat) : List Int := (xs.take k).foldl step1 []
theorem writ_succ {xs : Steps} {k : Nat} {x : Int × Int × Int} (h : xs[k]? = some x) : writ xs (k + 1) = step1 (writ xs k) x := by
  obtain ⟨hk, rfl⟩ := List.getElem?_eq_some_iff.1 h
  unfold writ
  rw [List.take_succ_eq_append_getElem hk, List.foldl_append]
  rfl
theorem writ_le (xs : Steps) (k : Nat) : (writ xs k).length ≤ 524288 := by
  unfold writ
  generalize xs.take k = ys
  have : ∀ (L : List Int), L.length ≤ 524288 → (ys.foldl step1 L).length ≤ 524288 := by
    induction ys with
    | nil => exact fun L h => h
    | cons y ys ih =>
      intro L h
      refine ih _ ?_
      unfold step1
      split
      · exact puts_le L _ _ h
      · exact aligns_le L _ h
  exact this [] (by simp)
set_option maxRecDepth 5000 in
set_option maxHeartbeats 400000 in
theorem BitsWrites_any (A : Option Addr) (n c : Nat) (xs : Steps) (w : World) (hr : RS w A n xs) :
    Calls Try.prog 6 #[.slice A n c] w fun e w' => e = .returned (.bool true) ∧ Below w.heap.size w w' := by
  have HR := Lib.hid hr
  clear hr
  go_enter Try.func6, Try.ntmps6
  go_wp2_with fail
  refine (write_any _).mono ?_
  rintro e w1 ⟨rfl, h1⟩
  have H1 := Lib.hid h1; clear h1
  go_wp2_with fail
  refine (ref_write_any _).mono ?_
  rintro e w2 ⟨rfl, h2⟩
  have H2 := Lib.hid (WP.new _ _ _ _ _ H1.out h2); clear h2 H1
  obtain ⟨p, hp⟩ : ∃ p, p = w.heap.size := ⟨_, rfl⟩
  obtain ⟨q, hq⟩ : ∃ q, q = w1.heap.size := ⟨_, rfl⟩
  rw [← hp, ← hq]
  rw [← hq] at H2
  have H3 := Lib.hid (show WP 53 56 w.heap.size w w2 p q none [] [] by rw [hp]; exact H2.out)
  clear H2 hp hq
  go_wp2
  go_loopw [5] (fun i wr => ∃ k : Nat, k ≤ n ∧ i = .int .i64 k ∧ WP 53 56 w.heap.size w wr p q none (writ xs k) (writ xs k)) (fun i _ => n - (intOf i).toNat)
  case atStart => exact ⟨0, Nat.zero_le _, rfl, H3.out⟩
  case round =>
    obtain ⟨k, hk, rfl, hrp⟩ := hrel
    have HQ := Lib.hid hrp
    clear hrp
    by_cases hlt : k < n
    · by_cases hlt3 : (k : Int) < 300
      · obtain ⟨b, off, rfl, hblt, hcell⟩ := HR.out.2.2 (by omega)
        obtain ⟨kd, v, m, hx, hv0, hv1, _, q0, q1, q2⟩ := hcell k hlt
        have c0 := HQ.out.cell hblt q0
        have c1 := HQ.out.cell hblt q1
        have c2 := HQ.out.cell hblt q2
        have HX := Lib.hid (writ_succ hx)
        clear hcell q0 q1 q2 hx
        have HL := Lib.hid (writ_le xs k)
        by_cases hm : kd.tmod 2 = 0
        · have HS := Lib.hid (show step1 (writ xs k) (kd, v, m) = puts (writ xs k) v m by unfold step1; exact if_pos hm)
          generalize writ xs k = L at *
          go_wp2_with fail
          refine (put_wp _ _ _ _ _ _ v m _ _ (HQ.out.alloc _) HL.out hv0 hv1).mono ?_
          rintro e w3 ⟨rfl, h3⟩
          obtain ⟨x0, x1, x2⟩ := h3.own3
          have H4 := Lib.hid h3; clear h3
          go_wp2_with fail
          refine (ref_put_wp _ _ _ _ _ _ v m _ _ H4.out HL.out hv0 hv1).mono ?_
          rintro e w4 ⟨rfl, h4⟩
          rw [← HS.out, ← HX.out] at h4
          clear x0 x1 x2
          have H5 := Lib.hid h4.drop; clear h4
          go_wp2_with fail
          refine (text_wp _ _ _ _ _ _ _ _ H5.out).mono ?_
          rintro e w5 ⟨rfl, rfl⟩
          go_wp2_with fail
          refine (ref_text_wp _ _ _ _ _ _ _ _ H5.out).mono ?_
          rintro e w5 ⟨rfl, rfl⟩
          go_wp2
          go_roundw
          case rel => exact ⟨k + 1, by omega, by go_num, H5.out⟩
          case measure => simp [intOf]; omega
        · have HS := Lib.hid (show step1 (writ xs k) (kd, v, m) = aligns (writ xs k) m by unfold step1; exact if_neg hm)
          generalize writ xs k = L at *
          go_wp2_with fail
          refine (align_wp _ _ _ _ _ _ m _ _ (HQ.out.alloc _) HL.out).mono ?_
          rintro e w3 ⟨rfl, h3⟩
          obtain ⟨x0, x1, x2⟩ := h3.own3
          have H4 := Lib.hid h3; clear h3
          go_wp2_with fail
          refine (ref_align_wp _ _ _ _ _ _ m _ _ H4.out HL.out).mono ?_
          rintro e w4 ⟨rfl, h4⟩
          rw [← HS.out, ← HX.out] at h4
          clear x0 x1 x2
          have H5 := Lib.hid h4.drop; clear h4
          go_wp2_with fail
          refine (text_wp _ _ _ _ _ _ _ _ H5.out).mono ?_
          rintro e w5 ⟨rfl, rfl⟩
          go_wp2_with fail
          refine (ref_text_wp _ _ _ _ _ _ _ _ H5.out).mono ?_
          rintro e w5 ⟨rfl, rfl⟩
          go_wp2
          go_roundw
          case rel => exact ⟨k + 1, by omega, by go_num, H5.out⟩
          case measure => simp [intOf]; omega
      · go_wp2_with fail
        refine (wakes_any _).mono ?_
        rintro e w3 ⟨rfl, hb⟩
        go_wp2
        go_ret
        exact ⟨rfl, HQ.out.done hb⟩
    · go_wp2_with fail
      refine (wakes_any _).mono ?_
      rintro e w3 ⟨rfl, hb⟩
      go_wp2
      go_ret
      exact ⟨rfl, HQ.out.done hb⟩
theorem BitsWrites_row (A : Option Addr) (n c : Nat) (xs : Steps) (w : World) (h : Els 3 (rTwo (rInt .i64) (rTwo (rInt .u32) (rInt .i64))) w A n xs) :
    Calls Try.prog 6 #[.slice A n c] w fun e w' => e = .returned (.bool true) ∧ Below w.heap.size w w' := BitsWrites_any A n c xs w (RS.of h)
end Go.Proofs.Ytlbpoenkdnampaa.Bits
