/- GroupSums: what it comes to; no condition but what data there is. -/
import Derived.Test.YtdpaknpiedoblaaGroupSums
import Derived.Deep.DeepCutAuto
namespace Go.Proofs.Ytdpaknpiedoblaa.Group
open Go.RowKit Go.Proofs.Ytdpaknpiedoblaa.Plain Go.Proofs.Ytdpaknpiedoblaa.Heap Go.Proofs.Ytdpaknpiedoblaa.Open

def flat4 (l : List G4) : List Value := l.flatMap fun x => [.int .i64 x.1, .int .i64 x.2.1, .int .i64 x.2.2.1, .int .i64 x.2.2.2]
theorem flat4_append (l m : List G4) : flat4 (l ++ m) = flat4 l ++ flat4 m := by simp [flat4]
theorem flat4_one (l : List G4) : ∀ u ∈ flat4 l, u.oneCell' = true := by
  intro u hu
  simp only [flat4, List.mem_flatMap] at hu
  obtain ⟨x, _, hx⟩ := hu
  simp at hx
  rcases hx with rfl | rfl | rfl | rfl <;> rfl
theorem flat4_get (l : List G4) (i : Nat) (x : G4) (h : l[i]? = some x) : (flat4 l)[i * 4]? = some (.int .i64 x.1) ∧ (flat4 l)[i * 4 + 1]? = some (.int .i64 x.2.1) ∧ (flat4 l)[i * 4 + 2]? = some (.int .i64 x.2.2.1) ∧ (flat4 l)[i * 4 + 3]? = some (.int .i64 x.2.2.2) := by
  induction l generalizing i with
  | nil => simp at h
  | cons y l ih =>
    have e : flat4 (y :: l) = .int .i64 y.1 :: .int .i64 y.2.1 :: .int .i64 y.2.2.1 :: .int .i64 y.2.2.2 :: flat4 l := rfl
    rw [e]
    cases i with
    | zero =>
      simp at h
      subst h
      exact ⟨rfl, rfl, rfl, rfl⟩
    | succ i =>
      simp at h
      have := ih i h
      rw [show (i + 1) * 4 = i * 4 + 1 + 1 + 1 + 1 by omega, show i * 4 + 1 + 1 + 1 + 1 + 1 = (i * 4 + 1) + 1 + 1 + 1 + 1 by omega, show i * 4 + 1 + 1 + 1 + 1 + 2 = (i * 4 + 2) + 1 + 1 + 1 + 1 by omega, show i * 4 + 1 + 1 + 1 + 1 + 3 = (i * 4 + 3) + 1 + 1 + 1 + 1 by omega]
      simp only [List.getElem?_cons_succ]
      exact this
def ocell (x : G4) : Array Value := #[.int .i64 x.1, .int .i64 x.2.1, .int .i64 x.2.2.1, .int .i64 x.2.2.2]
theorem own_ge {w : World} {base : Nat} {e : TypeId} {size n : Nat} {v : Value} {xs : List Value} (h : w.ownsRow base e size v n xs) {k : Nat} (hk : v.ownBlock = some k) : base ≤ k := by
  rcases h.2 with ⟨rfl, _⟩ | ⟨g, cap, cur, rfl, hb, _⟩
  · simp [Value.ownBlock] at hk
  · simp [Value.ownBlock] at hk
    omega
theorem own_shape {w : World} {base n : Nat} {e : TypeId} {size : Nat} {v : Value} {xs : List Value} (h : w.ownsRow base e size v n xs) : ∃ A c, v = .slice A n c := by
  rcases h.2 with ⟨rfl, rfl⟩ | ⟨g, cap, cur, rfl, _⟩
  · exact ⟨_, _, rfl⟩
  · exact ⟨_, _, rfl⟩
theorem own_blk' {w : World} {base n c g : Nat} {e : TypeId} {size : Nat} {xs : List Value} (h : w.ownsRow base e size (.slice (some ⟨g, 0, none⟩) n c) n xs) : base ≤ g := own_ge h rfl
theorem set4 {w : World} {p : Nat} {x y : G4} {t : TypeId} (h : w.heap[p]? = some (.cells (ocell x) t (0, 0))) :
    ((((w.setCell ⟨p, 0, none⟩ (.int .i64 y.1)).setCell ⟨p, 1, none⟩ (.int .i64 y.2.1)).setCell ⟨p, 2, none⟩ (.int .i64 y.2.2.1)).setCell ⟨p, 3, none⟩ (.int .i64 y.2.2.2)).heap[p]? = some (.cells (ocell y) t (0, 0)) := by
  simp [World.setCell, Array.getElem?_modify, h, ocell]
theorem kept4 (w : World) (p : Nat) (a b c d : Value) : Kept (fun g => g = p) w ((((w.setCell ⟨p, 0, none⟩ a).setCell ⟨p, 1, none⟩ b).setCell ⟨p, 2, none⟩ c).setCell ⟨p, 3, none⟩ d) :=
  ((((Kept.refl (fun g => g = p) w).setCell (p := ⟨p, 0, none⟩) (.inl rfl) _).setCell (p := ⟨p, 1, none⟩) (.inl rfl) _).setCell (p := ⟨p, 2, none⟩) (.inl rfl) _).setCell (p := ⟨p, 3, none⟩) (.inl rfl) _
def scell (x : S3) : Array Value := #[.int .i64 x.1, .int .i64 x.2.1, .int .i64 x.2.2]
/-- The law's own memory. -/
structure SH (B : Nat) (w0 w : World) (p po ps base : Nat) (b : Int) (st : St) (op : G4) (sm : S3) (v : Value) (m : Nat) (D : List G4) : Prop where
  gb : GB B w0 w p b st
  pb : p < base
  pob : po < base
  psb : ps < base
  bo : B ≤ po
  bs : B ≤ ps
  ne1 : po ≠ p
  ne2 : ps ≠ p
  ne3 : po ≠ ps
  bb : B ≤ base
  sz : base ≤ w.heap.size
  o : w.heap[po]? = some (.cells (ocell op) 31 (0, 0))
  s : w.heap[ps]? = some (.cells (scell sm) 33 (0, 0))
  own : w.ownsRow base 31 4 v m (flat4 D)
  len : m = D.length
section
variable {B : Nat} {w0 w w' : World} {p po ps base : Nat} {b : Int} {st : St} {op : G4} {sm : S3} {v : Value} {m : Nat} {D : List G4}
theorem SH.run (h : SH B w0 w p po ps base b st op sm v m D) (hb : Below w.heap.size w w') : SH B w0 w' p po ps base b st op sm v m D :=
  have hk := Kept.of_below (S := fun _ => False) hb
  ⟨h.gb.run hb, h.pb, h.pob, h.psb, h.bo, h.bs, h.ne1, h.ne2, h.ne3, h.bb, Nat.le_trans h.sz hb.size, (hk.block po (Nat.lt_of_lt_of_le h.pob h.sz) id).trans h.o, (hk.block ps (Nat.lt_of_lt_of_le h.psb h.sz) id).trans h.s, hk.own h.own (fun _ _ => id), h.len⟩
theorem SH.setO (h : SH B w0 w p po ps base b st op sm v m D) (hk : Kept (fun g => g = po) w w') (op' : G4) (ho : w'.heap[po]? = some (.cells (ocell op') 31 (0, 0))) : SH B w0 w' p po ps base b st op' sm v m D :=
  ⟨h.gb.away hk h.bo (fun e => h.ne1 e.symm) (fun c0 c1 c2 c3 e => by rw [h.o] at e; simp at e), h.pb, h.pob, h.psb, h.bo, h.bs, h.ne1, h.ne2, h.ne3, h.bb, Nat.le_trans h.sz hk.size, ho, (hk.block ps (Nat.lt_of_lt_of_le h.psb h.sz) (fun e => h.ne3 e.symm)).trans h.s,
    hk.own h.own (fun k e hp => by have h1 := own_ge h.own e; have h2 := h.pob; have h3 : k = po := hp; omega), h.len⟩
theorem SH.setS (h : SH B w0 w p po ps base b st op sm v m D) (hk : Kept (fun g => g = ps) w w') (sm' : S3) (hs : w'.heap[ps]? = some (.cells (scell sm') 33 (0, 0))) : SH B w0 w' p po ps base b st op sm' v m D :=
  ⟨h.gb.away hk h.bs (fun e => h.ne2 e.symm) (fun c0 c1 c2 c3 e => by rw [h.s] at e; simp [scell] at e), h.pb, h.pob, h.psb, h.bo, h.bs, h.ne1, h.ne2, h.ne3, h.bb, Nat.le_trans h.sz hk.size, (hk.block po (Nat.lt_of_lt_of_le h.pob h.sz) h.ne3).trans h.o, hs,
    hk.own h.own (fun k e hp => by have h1 := own_ge h.own e; have h2 := h.psb; have h3 : k = ps := hp; omega), h.len⟩
theorem SH.add (h : SH B w0 w p po ps base b st op sm v m D) (hok : okSt 1000000 st) (seq size sent came : Int) (late ecn : Bool) :
    Calls Try.prog 9 #[.pointer (some ⟨p, 0, none⟩), ack seq size sent came late ecn] w fun e w' => e = .returned (dval (gstep b st size sent came late).2) ∧ SH B w0 w' p po ps base b (gstep b st size sent came late).1 op sm v m D :=
  (add_anyK 1000000 B w0 seq size sent came late ecn p w b st h.gb hok (by decide)).mono fun e w' ⟨k1, k2, hk⟩ => ⟨k1, k2, h.pb, h.pob, h.psb, h.bo, h.bs, h.ne1, h.ne2, h.ne3, h.bb, Nat.le_trans h.sz hk.size, (hk.block po (Nat.lt_of_lt_of_le h.pob h.sz) h.ne1).trans h.o, (hk.block ps (Nat.lt_of_lt_of_le h.psb h.sz) h.ne2).trans h.s,
    hk.own h.own (fun k e hp => by have h1 := own_ge h.own e; have h2 := h.pb; have h3 : k = p := hp; omega), h.len⟩
/-- Behind an append onto the done groups. -/
theorem SH.app (h : SH B w0 w p po ps base b st op sm v m D) {v' : Value} {x : G4} (hown : w'.ownsRow base 31 4 v' (m + 1) (flat4 D ++ flat4 [x])) (hg : w.grownBy w' v.ownBlock) : SH B w0 w' p po ps base b st op sm v' (m + 1) (D ++ [x]) := by
  have hk := Kept.of_grown hg
  have hlt : ∀ k, k < base → ¬ v.ownBlock = some k := fun k hk e => by have := own_ge h.own e; omega
  refine ⟨?_, h.pb, h.pob, h.psb, h.bo, h.bs, h.ne1, h.ne2, h.ne3, h.bb, Nat.le_trans h.sz hk.size, (hk.block po (Nat.lt_of_lt_of_le h.pob h.sz) (hlt _ h.pob)).trans h.o, (hk.block ps (Nat.lt_of_lt_of_le h.psb h.sz) (hlt _ h.psb)).trans h.s, by rw [flat4_append]; exact hown, by rw [h.len]; simp⟩
  rcases h.own.2 with ⟨rfl, _⟩ | ⟨g, cap, cur, rfl, hb, hh, _⟩
  · exact h.gb.kept (hk.mono (fun i _ e => by simp [Value.ownBlock] at e))
  · have hk2 : Kept (fun i => i = g) w w' := hk.mono (fun i _ e => by simp [Value.ownBlock] at e; exact e.symm)
    exact h.gb.away hk2 (Nat.le_trans h.bb hb) (fun e => by have := h.pb; omega) (fun c0 c1 c2 c3 e => by rw [hh] at e; simp at e)
end
theorem meas1 (k : Nat) (h : (k : Int) < 100) : 100 - (intOf (.int .i64 ((k : Int) + 1))).toNat < 100 - (intOf (.int .i64 (k : Int))).toNat := by
  simp [intOf]
  omega
theorem wdiff {a b : Int} (h0 : -2147483648 ≤ a) (h1 : a ≤ 4294967296) (h2 : -2147483648 ≤ b) (h3 : b ≤ 4294967296) : wrap64 (a - b) = a - b := w64 (by omega) (by omega)
theorem wd0 {x y : G4} (hx : bdG x) (hy : bdG y) : wrap64 (x.2.1 - y.2.1) = x.2.1 - y.2.1 ∧ wrap64 (x.2.2.1 - y.2.2.1) = x.2.2.1 - y.2.2.1 ∧ wrap64 (x.2.2.2 - y.2.2.2) = x.2.2.2 - y.2.2.2 := by
  unfold bdG at hx hy
  exact ⟨wdiff (by omega) (by omega) (by omega) (by omega), wdiff (by omega) (by omega) (by omega) (by omega), wdiff (by omega) (by omega) (by omega) (by omega)⟩
theorem we5 {A x : Int} {k : Nat} {z : G4} (a0 : 0 ≤ A) (a1 : A ≤ 65535 * (k : Int)) (hk : k < 100) (y1 : 0 ≤ x) (y2 : x ≤ 65535) (hz : bdG z) : wrap64 (A + x - z.1) = A + x - z.1 := by
  unfold bdG at hz
  exact w64 (by omega) (by omega)
theorem len1000 {m k : Nat} {D : List G4} (h1 : D.length ≤ k + 1) (h2 : m = D.length) (hk : k + 1 ≤ 100) : m ≤ 1000 := by omega
theorem jfacts {m jj : Nat} (hj : jj = m - 1) (h2 : 2 ≤ m) (hm : m ≤ 1000) : IntKind.i64.wrap ((m : Int) - 1) = (jj : Int) ∧ wrap64 ((m : Int) - 1) = (jj : Int) ∧ (0 : Int) ≤ (jj : Int) ∧ (jj : Int) < (m : Int) ∧ (0 : Int) < (m : Int) ∧ ¬ (m : Int) < 2 ∧ 0 < m ∧ jj < m := by
  have e : (m : Int) - 1 = (jj : Int) := by omega
  rw [e]
  exact ⟨IntWalk.i64_in _ (by omega), w64 (by omega) (by omega), by omega, by omega, by omega, by omega, by omega, by omega⟩
theorem rd_four (w : World) (t : TypeId) (x : G4) : Rd (w.alloc (.cells (ocell x) t)) 4 (some ⟨w.heap.size, 0, none⟩) 1 (flat4 [x]) :=
  Rd.block (cs := ocell x) (heap_alloc_new w _) rfl
theorem info_g4 : (Try.prog.info? 31).map (fun i => (i.zero, i.size, i.bytes)) = some (some (.agg #[.int .i64 0, .int .i64 0, .int .i64 0, .int .i64 0]), 4, 32) := by kernel_rfl
attribute [local go_sem high] run_mx run_mn in
set_option maxHeartbeats 8000000 in
set_option maxRecDepth 10000 in
theorem GroupSums_any (b : Int) (A1 : Option Addr) (n1 c1 : Nat) (g : List Int) (A2 : Option Addr) (n2 c2 : Nat) (l : List Int) (w : World) (hb : (Lit.int .u16 b).wf = true) (h1 : Els 1 (rInt .u16) w A1 n1 g) (h2 : Els 1 (rInt .i32) w A2 n2 l) :
    Calls Try.prog 3 #[.int .u16 b, .slice A1 n1 c1, .slice A2 n2 c2] w fun e w' => e = .returned (.bool true) ∧ Below w.heap.size w w' := by
  obtain ⟨r1, u1⟩ := h1.ints
  obtain ⟨r2, u2⟩ := h2.ints
  obtain ⟨b0, b1⟩ := wf_u16 hb
  have R1 := Lib.hid r1
  have R2 := Lib.hid r2
  have U1 := Lib.hid u1
  have U2 := Lib.hid u2
  clear h1 h2 r1 r2 u1 u2 hb
  have tb : wrap64 b = b := w64 (by omega) (by omega)
  have ib : IntKind.i64.wrap b = b := IntWalk.i64_in _ (by omega)
  go_enter Try.func3, Try.ntmps3
  go_wp2_with fail
  refine (new_any b _ (by omega) (by omega)).mono ?_
  rintro e w1 ⟨rfl, h1⟩
  have H1 := Lib.hid h1; clear h1
  obtain ⟨p, hp⟩ : ∃ p, p = w.heap.size := ⟨_, rfl⟩
  obtain ⟨po, hpo⟩ : ∃ p, p = w1.heap.size := ⟨_, rfl⟩
  have hlt : p < po := by
    obtain ⟨_, _, _, _, _, _, _, _, hg, _⟩ := H1.out
    have := hg.cells.2.2.2.2.2.2.2.2
    omega
  go_wp2_with fail
  have H2 := Lib.hid (show SH w.heap.size w ((w1.alloc (.cells #[.int .i64 0, .int .i64 0, .int .i64 0, .int .i64 0] 31)).alloc (.cells #[.int .i64 0, .int .i64 0, .int .i64 0] 33)) p po (po + 1) (po + 2) b (none, none) (0, 0, 0, 0) (0, 0, 0) (.slice none 0 0) 0 [] from by
    have k1 : Kept (fun _ => False) w1 ((w1.alloc (.cells #[.int .i64 0, .int .i64 0, .int .i64 0, .int .i64 0] 31)).alloc (.cells #[.int .i64 0, .int .i64 0, .int .i64 0] 33)) := ((Kept.refl _ w1).alloc _).alloc _
    have hn := heap_alloc_new (w1.alloc (.cells #[.int .i64 0, .int .i64 0, .int .i64 0, .int .i64 0] 31)) (.cells #[.int .i64 0, .int .i64 0, .int .i64 0] 33)
    rw [show (w1.alloc (.cells #[.int .i64 0, .int .i64 0, .int .i64 0, .int .i64 0] 31)).heap.size = po + 1 by simp [hpo]] at hn
    exact ⟨by rw [hp]; exact H1.out.kept k1, by omega, by omega, by omega, by omega, by omega, by omega, by omega, by omega, by omega, by simp; omega, by rw [hpo]; exact (heap_alloc_old _ _ (by simp)).trans (heap_alloc_new w1 _), hn, ⟨by simp [flat4], .inl ⟨rfl, rfl⟩⟩, rfl⟩)
  generalize hW : World.alloc (World.alloc w1 _) _ = W2 at *
  obtain ⟨ps, hps⟩ : ∃ p, p = po + 1 := ⟨_, rfl⟩
  obtain ⟨base, hbase⟩ : ∃ p, p = po + 2 := ⟨_, rfl⟩
  rw [← hp, ← hpo]
  rw [← hps, ← hbase] at H2
  try rw [← hps]
  clear hW hp hpo H1 hlt hps hbase
  go_wp2
  go_loopw [9, 10, 13] (fun av dv iv wr => ∃ (k m : Nat) (A : Int) (D : List G4) (op : G4) (sm : S3) (st : St), k ≤ 100 ∧ iv = .int .i64 (k : Int) ∧ av = .int .i64 A ∧ GI k A D op sm st ∧ SH w.heap.size w wr p po ps base b st op sm dv m D) (fun _ _ iv _ => 100 - (intOf iv).toNat)
  case atStart => exact ⟨0, 0, 0, [], _, _, _, by omega, rfl, rfl, ⟨by omega, by omega, fun _ => ⟨rfl, rfl, rfl⟩, fun h => by omega, fun _ => rfl, nofun, nofun, by simp⟩, H2.out⟩
  case round =>
    obtain ⟨k, m, A, D, op, sm, st, hk, rfl, rfl, hgi, hsh⟩ := hrel
    have HG := Lib.hid hgi
    have HS := Lib.hid hsh
    clear hgi hsh H2
    by_cases hlt : k < n1
    · by_cases hlt2 : k < n2
      · by_cases hlt3 : (k : Int) < 100
        · have hk1 : k + 1 ≤ 100 := by omega
          have hk3 : k < 100 := by omega
          obtain ⟨d1, o1, rfl, hb1, hc1⟩ := R1.out.2.2 (by omega)
          obtain ⟨d2, o2, rfl, hb2, hc2⟩ := R2.out.2.2 (by omega)
          have x1 : wr.cell? ⟨d1, o1 + k, none⟩ = some (.int .u16 (g.getD k 0)) := (HS.out.gb.2.2.1.cell (p := ⟨d1, o1 + k, none⟩) hb1).trans (hc1 k hlt)
          have x2 : wr.cell? ⟨d2, o2 + k, none⟩ = some (.int .i32 (l.getD k 0)) := (HS.out.gb.2.2.1.cell (p := ⟨d2, o2 + k, none⟩) hb2).trans (hc2 k hlt2)
          obtain ⟨y1, y1'⟩ := wf_u16 (U1.out k hlt)
          obtain ⟨y2, y2'⟩ := wf_i32 (U2.out k hlt2)
          clear hc1 hc2
          generalize g.getD k 0 = x at *
          generalize l.getD k 0 = y at *
          have a0 := HG.out.at0
          have a1 := HG.out.at1
          have e1 : wrap64 x = x := w64 (by omega) (by omega)
          have e1' : IntKind.i64.wrap x = x := IntWalk.i64_in _ (by omega)
          have e2 : wrap64 (A + x) = A + x := w64 (by omega) (by omega)
          have e3 : wrap64 y = y := w64 (by omega) (by omega)
          have e3' : IntKind.i64.wrap y = y := IntWalk.i64_in _ (by omega)
          have e4 : wrap64 (A + x + y) = A + x + y := w64 (by omega) (by omega)
          have bC : -2147483648 ≤ A + x + y ∧ A + x + y ≤ 65535 * ((k + 1 : Nat) : Int) + 2147483647 := by omega
          obtain ⟨f, ll, q, s⟩ := op
          have ho := HS.out.o
          obtain ⟨c0, c1, c2, c3⟩ := block4 (show wr.heap[po]? = some (.cells #[.int .i64 f, .int .i64 ll, .int .i64 q, .int .i64 s] 31 (0, 0)) from ho)
          have f0 := frozen_block ho 0
          have f1 := frozen_block ho 1
          have f2 := frozen_block ho 2
          have f3 := frozen_block ho 3
          have HO := Lib.hid ho
          clear ho
          go_upto_if 59 with fail
          go_cut [10] (fun s10 wx => ∃ (m' : Nat) (D' : List G4) (op' : G4), SH w.heap.size w wx p po ps base b st op' sm s10 m' D' ∧ ((k = 0 ∧ D' = D ∧ op' = (A + x, A + x, A + x + y, 0)) ∨ (0 < k ∧ A + x - f ≤ b ∧ D' = D ∧ op' = (f, A + x, mx q (A + x + y), s + k)) ∨ (0 < k ∧ ¬ A + x - f ≤ b ∧ D' = D ++ [(f, ll, q, s)] ∧ op' = (A + x, A + x, A + x + y, (k : Int)))))
          case first =>
            as_aux_lemma =>
              rcases Nat.eq_zero_or_pos k with hk0 | hk0
              · subst hk0
                go_wp2_with fail
                go_meet
                refine ⟨m, D, (A + x, A + x, A + x + y, 0), HS.out.setO (kept4 _ _ _ _ _ _) (A + x, A + x, A + x + y, 0) (set4 (y := (A + x, A + x, A + x + y, 0)) HO.out), ?_⟩
                simp
              · have kz : ((k : Int) == 0) = false := by simp; omega
                obtain ⟨_, i1, i2, i3, i4, i5, i6, i7⟩ := HG.out.has hk0
                simp only at i1 i2 i3 i4 i5 i6 i7
                have e5 : wrap64 (A + x - f) = A + x - f := w64 (by omega) (by omega)
                have e6 : wrap64 (s + k) = s + k := w64 (by omega) (by omega)
                have Hk0 := Lib.hid hk0
                clear hk0 i1
                by_cases hin : A + x - f ≤ b
                · go_wp2_with fail
                  go_meet
                  refine ⟨m, D, (f, A + x, mx q (A + x + y), s + k), HS.out.setO (((((Kept.refl (fun g => g = po) wr).setCell (p := ⟨po, 1, none⟩) (.inl rfl) _).setCell (p := ⟨po, 2, none⟩) (.inl rfl) _).setCell (p := ⟨po, 3, none⟩) (.inl rfl) _)) (f, A + x, mx q (A + x + y), s + k) ?_, .inr (.inl ⟨Hk0.out, hin, rfl, rfl⟩)⟩
                  have h := HO.out
                  simp [World.setCell, Array.getElem?_modify, h, ocell]
                · have hm : m ≤ 100 := by have := HS.out.len; have := HG.out.len; omega
                  go_wp2_with (first
                    | (at_builtin
                       refine wpList_app rfl (.tmp 84) (.tmp 86) 29 rfl base 31 (.agg #[.int .i64 0, .int .i64 0, .int .i64 0, .int .i64 0]) 4 32 Try.underlying29 info_g4 rfl (by omega) _ m (flat4 D) rfl (HS.out.own.alloc _) (some ⟨wr.heap.size, 0, none⟩) 1 1 (flat4 [(f, ll, q, s)]) rfl (rd_four wr _ (f, ll, q, s)) (flat4_one _) (by simp only [maxLen]; omega) (by omega) (by have := HS.out.sz; simp; omega) ?_
                       intro v2 w2 hown hg hat
                       have H3 := Lib.hid (SH.app (HS.out.run ((Below.refl _ _).alloc (Nat.le_refl _) _)) hown hg)
                       have ho2 := H3.out.o
                       have j0 := (block4 (show w2.heap[po]? = some (.cells #[.int .i64 f, .int .i64 ll, .int .i64 q, .int .i64 s] 31 (0, 0)) from ho2)).1
                       have j1 := (block4 (show w2.heap[po]? = some (.cells #[.int .i64 f, .int .i64 ll, .int .i64 q, .int .i64 s] 31 (0, 0)) from ho2)).2.1
                       have j2 := (block4 (show w2.heap[po]? = some (.cells #[.int .i64 f, .int .i64 ll, .int .i64 q, .int .i64 s] 31 (0, 0)) from ho2)).2.2.1
                       have j3 := (block4 (show w2.heap[po]? = some (.cells #[.int .i64 f, .int .i64 ll, .int .i64 q, .int .i64 s] 31 (0, 0)) from ho2)).2.2.2
                       have l0 := frozen_block ho2 0
                       have l1 := frozen_block ho2 1
                       have l2 := frozen_block ho2 2
                       have l3 := frozen_block ho2 3
                       have HO2 := Lib.hid ho2
                       clear hown hg hat ho2))
                  go_meet
                  exact ⟨m + 1, D ++ [(f, ll, q, s)], (A + x, A + x, A + x + y, (k : Int)), H3.out.setO (kept4 _ _ _ _ _ _) (A + x, A + x, A + x + y, (k : Int)) (set4 (y := (A + x, A + x, A + x + y, (k : Int))) HO2.out), .inr (.inr ⟨Hk0.out, hin, rfl, rfl⟩)⟩
          case rest =>
          obtain ⟨m', D', op', hsh, hkind⟩ := hcut
          rename World => X
          have hall := gi_all b HG.out hk3 x (A + x + y) y1 y1' bC.1 bC.2 b0 hsh.len hkind
          obtain ⟨A8, c8, hv⟩ := own_shape hsh.own
          subst hv
          obtain ⟨st', d0, d1', d2', ok, sm', hgs, hgi', hcase⟩ := hall
          have HGI := Lib.hid hgi'
          have HGS := Lib.hid hgs
          have HX := Lib.hid hsh
          obtain ⟨f', l', q', s'⟩ := op'
          clear hgi' hgs hsh hkind HO c0 c1 c2 c3 f0 f1 f2 f3 HS x1 x2
          go_wp2_with fail
          refine (one_any _ _ _ _).mono ?_
          rintro e w2 ⟨rfl, h2⟩
          have HX2 := Lib.hid (HX.out.run h2)
          clear h2 HX
          go_wp2_with fail
          refine (HX2.out.add (HG.out.ok (Nat.le_of_lt hk3)) 0 k (A + x) (A + x + y) false false).mono ?_
          rintro e w3 ⟨rfl, h3⟩
          rw [HGS.out] at h3 ⊢
          simp only [dval]
          have HX3 := Lib.hid h3
          clear h3 HX2
          have ha : ∀ z, SH w.heap.size w (w3.alloc z) p po ps base b st' (f', l', q', s') sm (.slice A8 m' c8) m' D' := fun z => HX3.out.run ((Below.refl w3.heap.size w3).alloc (Nat.le_refl _) z)
          have z0 := fun z => (block4 (show (w3.alloc z).heap[po]? = some (.cells #[.int .i64 f', .int .i64 l', .int .i64 q', .int .i64 s'] 31 (0, 0)) from (ha z).o)).1
          have z3 := fun z => (block4 (show (w3.alloc z).heap[po]? = some (.cells #[.int .i64 f', .int .i64 l', .int .i64 q', .int .i64 s'] 31 (0, 0)) from (ha z).o)).2.2.2
          have HA := Lib.hid ha
          clear ha
          rcases hcase with ⟨rfl, rfl, hcase⟩ | ⟨rfl, hk0, hm2, hop, hout, hd0, hbo, d, hbd, hD0, hD1, hsm, hs0, hs1, hs2⟩
          · have hcase3 : (m' : Int) < 2 ∨ (¬ (m' : Int) < 2 ∧ ¬ f' = A + x) ∨ (¬ (m' : Int) < 2 ∧ f' = A + x ∧ (s' == (k : Int)) = false) := by
              rcases hcase with h | ⟨h, h2⟩
              · exact .inl (by omega)
              · by_cases hf : f' = A + x
                · exact .inr (.inr ⟨by omega, hf, by simpa using h2⟩)
                · exact .inr (.inl ⟨by omega, hf⟩)
            clear hcase
            as_aux_lemma =>
              rcases hcase3 with h5 | ⟨h5, h6⟩ | ⟨h5, h6, h7⟩
              · go_wp2_with fail
                go_roundw
                case rel => exact ⟨k + 1, m', A + x, D', _, _, _, hk1, by go_num, rfl, HGI.out, HA.out _⟩
                case measure => exact meas1 k hlt3
              · have h6' : (f' == A + x) = false := by simpa using h6
                go_wp2_with fail
                go_roundw
                case rel => exact ⟨k + 1, m', A + x, D', _, _, _, hk1, by go_num, rfl, HGI.out, HA.out _⟩
                case measure => exact meas1 k hlt3
              · go_wp2_with fail
                go_roundw
                case rel => exact ⟨k + 1, m', A + x, D', _, _, _, hk1, by go_num, rfl, HGI.out, HA.out _⟩
                case measure => exact meas1 k hlt3
          · injection hop with hop1 hop2
            injection hop2 with hop2 hop3
            injection hop3 with hop3 hop4
            subst hop1 hop2 hop3 hop4
            obtain ⟨g8, cc, he⟩ := own_form HX3.out.own (by omega)
            injection he with he1 he2 he3
            subst he1
            clear he2 he3
            obtain ⟨jj, hj⟩ : ∃ j, j = m' - 1 := ⟨_, rfl⟩
            rw [← hj] at hD1
            obtain ⟨hji, hjw, j0, j1, j2, m2, jn0, jn1⟩ := jfacts hj hm2 (len1000 HGI.out.len HX3.out.len hk1)
            have kp : (0 : Int) < (k : Int) := Int.natCast_pos.2 hk0
            obtain ⟨w0, w1', w2'⟩ := wd0 hbo hbd
            have e5 := we5 a0 a1 hk3 y1 y1' hbo
            clear hbo hbd
            simp only at hout hs0 hs1 hs2 hsm w0 w1' w2' e5
            have bo : b < A + x - f := by omega
            obtain ⟨df, dl, dq, ds⟩ := d
            simp only at hs0 hs1 hs2 hsm w0 w1' w2'
            obtain ⟨sa, sb, sc⟩ := sm
            simp only at hs0 hs1 hs2
            have HJ := Lib.hid hj
            have HSM := Lib.hid hsm
            clear hj hsm z0 z3
            go_upto_region 20 with fail
            generalize hW4 : World.alloc w3 _ = W4
            have hX4 : SH w.heap.size w W4 p po ps base b st' (A + x, A + x, A + x + y, (k : Int)) (sa, sb, sc) (.slice (some ⟨g8, 0, none⟩) m' c8) m' D' := by rw [← hW4]; exact HA.out _
            have hdb : W4.heap[w3.heap.size]? = some (.cells #[.int .i64 d0, .int .i64 d1', .int .i64 d2'] 33 (0, 0)) := by rw [← hW4]; exact heap_alloc_new w3 _
            obtain ⟨v0, v1, v2, _⟩ := block3 hdb
            obtain ⟨o0, _, _, o3⟩ := block4 (show W4.heap[po]? = some (.cells #[.int .i64 (A + x), .int .i64 (A + x), .int .i64 (A + x + y), .int .i64 (k : Int)] 31 (0, 0)) from hX4.o)
            obtain ⟨p0, p1, p2, p3, p4, p5⟩ := block3 (show W4.heap[ps]? = some (.cells #[.int .i64 sa, .int .i64 sb, .int .i64 sc] 33 (0, 0)) from hX4.s)
            obtain ⟨g9, off9, he9, hg9, hc9⟩ := (Rd.of_own hX4.own).2 (by omega)
            injection he9 with he9
            injection he9 with he9 he10
            subst he9 he10
            obtain ⟨t0, t1, t2, t3⟩ := flat4_get D' 0 _ hD0
            obtain ⟨u0, u1, u2, u3⟩ := flat4_get D' jj _ hD1
            have q0 := hc9 _ _ t0
            have q1 := hc9 _ _ t1
            have q2 := hc9 _ _ t2
            have q3 := hc9 _ _ t3
            have r0 := hc9 _ _ u0
            have r1 := hc9 _ _ u1
            have r2 := hc9 _ _ u2
            have r3 := hc9 _ _ u3
            simp only [Nat.zero_mul, Nat.zero_add] at q0 q1 q2 q3 r0 r1 r2 r3
            have HX4 := Lib.hid hX4
            have hps4 : ps < W4.heap.size := (Array.getElem?_eq_some_iff.1 hX4.s).1
            have hds : w3.heap.size < W4.heap.size := (Array.getElem?_eq_some_iff.1 hdb).1
            have hdps : w3.heap.size ≠ ps := Nat.ne_of_gt (Nat.lt_of_lt_of_le HX3.out.psb HX3.out.sz)
            have hgps : g8 ≠ ps := Nat.ne_of_gt (Nat.lt_of_lt_of_le HX3.out.psb (own_blk' HX3.out.own))
            have HDB := Lib.hid hdb
            clear hW4 hX4 hdb t0 t1 t2 t3 u0 u1 u2 u3 hc9 hD0 hD1
            go_upto_region 23 with fail
            go_cut [] (fun wx => wx.heap[ps]? = some (.cells #[.int .i64 (ll - dl), .int .i64 (q - dq), .int .i64 (s - ds)] 33 (0, 0)) ∧ Kept (fun g => g = ps) W4 wx)
            case first =>
              as_aux_lemma =>
                go_region
                all_goals
                  go_wp2_with fail
                  go_meet
                  refine ⟨?_, ((((Kept.refl (fun g => g = ps) W4).setCell (p := ⟨ps, 0, none⟩) (.inl rfl) _).setCell (p := ⟨ps, 1, none⟩) (.inl rfl) _).setCell (p := ⟨ps, 2, none⟩) (.inl rfl) _).drew⟩
                  have h := HX4.out.s
                  rw [drew_heap]
                  simp [World.setCell, Array.getElem?_modify, h, scell]
            case rest =>
            obtain ⟨hs5, hk5⟩ := hcut
            rename World => W5
            have hX5 := HX4.out.setS hk5 (ll - dl, q - dq, s - ds) hs5
            have hdb5 := (hk5.block w3.heap.size hds hdps).trans HDB.out
            have q0' := (hk5.cell (p := ⟨g8, 0, none⟩) hg9 hgps).trans q0
            have q1' := (hk5.cell (p := ⟨g8, 1, none⟩) hg9 hgps).trans q1
            have q2' := (hk5.cell (p := ⟨g8, 2, none⟩) hg9 hgps).trans q2
            have q3' := (hk5.cell (p := ⟨g8, 3, none⟩) hg9 hgps).trans q3
            have r0' := (hk5.cell (p := ⟨g8, jj * 4, none⟩) hg9 hgps).trans r0
            have r1' := (hk5.cell (p := ⟨g8, jj * 4 + 1, none⟩) hg9 hgps).trans r1
            have r2' := (hk5.cell (p := ⟨g8, jj * 4 + 2, none⟩) hg9 hgps).trans r2
            have r3' := (hk5.cell (p := ⟨g8, jj * 4 + 3, none⟩) hg9 hgps).trans r3
            have hdlt := Nat.lt_of_lt_of_le hds hk5.size
            have hslt := Nat.lt_of_lt_of_le hps4 hk5.size
            have hg5 : g8 < W5.heap.size := Nat.lt_of_lt_of_le hg9 hk5.size
            have HX5 := Lib.hid hX5
            have HD5 := Lib.hid hdb5
            have HS5 := Lib.hid hs5
            clear hX5 hdb5 hs5 hk5 q0 q1 q2 q3 r0 r1 r2 r3 v0 v1 v2 o0 o3 p0 p1 p2 p3 p4 p5 HX4 HDB
            go_upto_region 24 with fail
            go_cut [17, 18] (fun s17 s18 wx => ∃ q1 q2, s17 = .pointer (some ⟨q1, 0, none⟩) ∧ s18 = .pointer (some ⟨q2, 0, none⟩) ∧ wx.heap[q1]? = some (.cells #[.int .i64 df, .int .i64 dl, .int .i64 dq, .int .i64 ds] 31 (0, 0)) ∧ wx.heap[q2]? = some (.cells #[.int .i64 f, .int .i64 ll, .int .i64 q, .int .i64 s] 31 (0, 0)) ∧ Kept (fun _ => False) W5 wx)
            case first =>
              as_aux_lemma =>
                have SQ0 : W5.cell? ⟨g8, 0, none⟩ = some (.int .i64 df) ∧ W5.cell? ⟨g8, 1, none⟩ = some (.int .i64 dl) ∧ W5.cell? ⟨g8, 2, none⟩ = some (.int .i64 dq) ∧ W5.cell? ⟨g8, 3, none⟩ = some (.int .i64 ds) ∧ W5.cell? ⟨g8, jj * 4, none⟩ = some (.int .i64 f) ∧ W5.cell? ⟨g8, jj * 4 + 1, none⟩ = some (.int .i64 ll) ∧ W5.cell? ⟨g8, jj * 4 + 2, none⟩ = some (.int .i64 q) ∧ W5.cell? ⟨g8, jj * 4 + 3, none⟩ = some (.int .i64 s) := ⟨q0', q1', q2', q3', r0', r1', r2', r3'⟩
                have kc : ∀ {W : World}, Kept (fun _ => False) W5 W → W.cell? ⟨g8, 0, none⟩ = some (.int .i64 df) ∧ W.cell? ⟨g8, 1, none⟩ = some (.int .i64 dl) ∧ W.cell? ⟨g8, 2, none⟩ = some (.int .i64 dq) ∧ W.cell? ⟨g8, 3, none⟩ = some (.int .i64 ds) ∧ W.cell? ⟨g8, jj * 4, none⟩ = some (.int .i64 f) ∧ W.cell? ⟨g8, jj * 4 + 1, none⟩ = some (.int .i64 ll) ∧ W.cell? ⟨g8, jj * 4 + 2, none⟩ = some (.int .i64 q) ∧ W.cell? ⟨g8, jj * 4 + 3, none⟩ = some (.int .i64 s) := fun {W} hk => ⟨(hk.cell hg5 id).trans q0', (hk.cell hg5 id).trans q1', (hk.cell hg5 id).trans q2', (hk.cell hg5 id).trans q3', (hk.cell hg5 id).trans r0', (hk.cell hg5 id).trans r1', (hk.cell hg5 id).trans r2', (hk.cell hg5 id).trans r3'⟩
                have SQ1 := fun z => kc ((Kept.refl _ W5).alloc z)
                have SQ2 := fun z z' => kc (((Kept.refl _ W5).alloc z).alloc z')
                clear kc
                go_region_held3 (fun w' => w'.cell? ⟨g8, 0, none⟩ = some (.int .i64 df) ∧ w'.cell? ⟨g8, 1, none⟩ = some (.int .i64 dl) ∧ w'.cell? ⟨g8, 2, none⟩ = some (.int .i64 dq) ∧ w'.cell? ⟨g8, 3, none⟩ = some (.int .i64 ds) ∧ w'.cell? ⟨g8, jj * 4, none⟩ = some (.int .i64 f) ∧ w'.cell? ⟨g8, jj * 4 + 1, none⟩ = some (.int .i64 ll) ∧ w'.cell? ⟨g8, jj * 4 + 2, none⟩ = some (.int .i64 q) ∧ w'.cell? ⟨g8, jj * 4 + 3, none⟩ = some (.int .i64 s)) (first | exact SQ0 | exact SQ1 _ | exact SQ2 _ _) (fail)
                all_goals
                  go_wp2_with fail
                  go_meet
                  first
                    | exact ⟨_, _, rfl, rfl, (heap_alloc_old _ _ (by simp)).trans (heap_alloc_new W5 _), alloc2_block W5 _ _, (((Kept.refl _ W5).alloc _).alloc _).drew⟩
                    | exact ⟨_, _, rfl, rfl, alloc2_block W5 _ _, (heap_alloc_old _ _ (by simp)).trans (heap_alloc_new W5 _), (((Kept.refl _ W5).alloc _).alloc _).drew⟩
            case rest =>
            obtain ⟨a1, a2, rfl, rfl, ha1, ha2, hk6⟩ := hcut
            rename World => W6
            as_aux_lemma =>
              obtain ⟨m0, m1, m2', m3⟩ := block4 ha1
              obtain ⟨l0, l1, l2, l3⟩ := block4 ha2
              obtain ⟨v0, v1, v2, _⟩ := block3 ((hk6.block w3.heap.size hdlt id).trans HD5.out)
              obtain ⟨p0, p1, p2, _⟩ := block3 ((hk6.block ps hslt id).trans HS5.out)
              have hnd : ¬ d0 < 0 := Int.not_lt.2 hd0
              have HX6 := Lib.hid (HX5.out.run (hk6.below (Nat.le_refl _) (fun _ h => h.elim)))
              clear hk6 ha1 ha2 HD5 HS5 q0' q1' q2' q3' r0' r1' r2' r3' m0 l0
              go_wp2_with fail
              go_roundw
              case rel => exact ⟨k + 1, m', A + x, D', _, _, _, hk1, by go_num, rfl, (by rw [← HSM.out]; exact HGI.out), HX6.out⟩
              case measure => exact meas1 k hlt3
        · go_wp2_with fail
          refine (wakes_any _).mono ?_
          rintro e w3 ⟨rfl, hb⟩
          go_wp2
          go_ret
          exact ⟨rfl, below_then HS.out.gb.2.2.1 HS.out.gb.2.1 hb⟩
      · go_wp2_with fail
        refine (wakes_any _).mono ?_
        rintro e w3 ⟨rfl, hb⟩
        go_wp2
        go_ret
        exact ⟨rfl, below_then HS.out.gb.2.2.1 HS.out.gb.2.1 hb⟩
    · go_wp2_with fail
      refine (wakes_any _).mono ?_
      rintro e w3 ⟨rfl, hb⟩
      go_wp2
      go_ret
      exact ⟨rfl, below_then HS.out.gb.2.2.1 HS.out.gb.2.1 hb⟩
end Go.Proofs.Ytdpaknpiedoblaa.Group
