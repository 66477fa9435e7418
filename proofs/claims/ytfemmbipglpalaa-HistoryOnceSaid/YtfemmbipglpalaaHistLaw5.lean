/- HistoryExpires: what it comes to; no condition but what data there is. -/
import Derived.Test.YtfemmbipglpalaaHistLaw4
import Derived.Deep.DeepCutAuto
namespace Go.Proofs.Ytfemmbipglpalaa.History
open Go.RowKit Go.Proofs.Ytfemmbipglpalaa.Plain Go.Proofs.Ytfemmbipglpalaa.Heap Go.Proofs.Ytfemmbipglpalaa.Maps Go.Proofs.Ytfemmbipglpalaa.Open

theorem info_i64 : (Try.prog.info? 2).map (fun i => (i.zero, i.size, i.bytes)) = some (some (.int .i64 0), 1, 8) := by kernel_rfl
theorem wf_u8 {n : Int} (h : (Lit.int .u8 n).wf = true) : 0 ≤ n ∧ n ≤ 255 := by
  simpa [Lit.wf, IntKind.min, IntKind.max, IntKind.signed, IntKind.bits] using h
/-- The history and the times that were told. -/
structure SX (B : Nat) (w0 w : World) (p r base : Nat) (h : HS) (v : Value) (m : Nat) (S : List Int) : Prop where
  hb : HB B w0 w p r h
  own : w.ownsRow base 2 1 v m (nums .i64 S)
  len : m = S.length
  pb : p < base
  rb : r < base
  bb : B ≤ base
  sz : base ≤ w.heap.size
section
variable {B : Nat} {w0 w w' : World} {p r base : Nat} {h h' : HS} {v : Value} {m : Nat} {S : List Int}
theorem SX.to (x : SX B w0 w p r base h v m S) (hr : HR w' p r h') (hk : Kept (fun g => g = p ∨ g = r) w w') : SX B w0 w' p r base h' v m S :=
  ⟨x.hb.to hr hk, hk.own x.own (fun b e hp => by have h1 := own_ge x.own e; have h2 := x.pb; have h3 := x.rb; rcases hp with hp | hp <;> omega), x.len, x.pb, x.rb, x.bb, Nat.le_trans x.sz hk.size⟩
theorem SX.run (x : SX B w0 w p r base h v m S) (hb : Below w.heap.size w w') : SX B w0 w' p r base h v m S :=
  have hk := Kept.of_below (S := fun _ => False) hb
  ⟨x.hb.run hb, hk.own x.own (fun _ _ => id), x.len, x.pb, x.rb, x.bb, Nat.le_trans x.sz hk.size⟩
theorem SX.send (x : SX B w0 w p r base h v m S) (ok : okH h) (size at_ : Int) : Calls Try.prog 12 #[.pointer (some ⟨p, 0, none⟩), .int .i64 size, .int .i64 at_] w
    fun e w' => e = .returned (.tuple #[.int .i64 (hsend h size at_).2.1, .int .i64 (hsend h size at_).2.2]) ∧ SX B w0 w' p r base (hsend h size at_).1 v m S :=
  (send_any size at_ p r w h x.hb.hr ok).mono fun _ _ ⟨h1, h2, h3⟩ => ⟨h1, x.to h2 h3⟩
theorem SX.app (x : SX B w0 w p r base h v m S) {v' : Value} {a : Int} (hown : w'.ownsRow base 2 1 v' (m + 1) (nums .i64 S ++ nums .i64 [a])) (hg : w.grownBy w' v.ownBlock) : SX B w0 w' p r base h v' (m + 1) (S ++ [a]) := by
  have hk := Kept.of_grown hg
  have hoff : ∀ i, i < base → ¬ v.ownBlock = some i := fun i hi e => by have := own_ge x.own e; omega
  exact ⟨⟨x.hb.hr.kept hk (hoff p x.pb) (hoff r x.rb), x.hb.bp, x.hb.br, Nat.le_trans x.hb.sz hk.size, x.hb.below.trans (hk.below x.hb.sz (fun i e => Nat.le_trans x.bb (own_ge x.own e)))⟩, by rw [nums_append]; exact hown, by rw [x.len]; simp, x.pb, x.rb, x.bb, Nat.le_trans x.sz hk.size⟩
end
theorem nums_get {S : List Int} {i : Nat} {a : Int} (h : S[i]? = some a) : (nums .i64 S)[i]? = some (.int .i64 a) := by simp [nums, h]
theorem flat3_get (l : List E3) (i : Nat) (x : E3) (h : l[i]? = some x) : (flat3 l)[i * 3]? = some (.int .i64 x.1) ∧ (flat3 l)[i * 3 + 1]? = some (.int .i64 x.2.1) ∧ (flat3 l)[i * 3 + 2]? = some (.int .i64 x.2.2) := by
  induction l generalizing i with
  | nil => simp at h
  | cons y l ih =>
    have e : flat3 (y :: l) = .int .i64 y.1 :: .int .i64 y.2.1 :: .int .i64 y.2.2 :: flat3 l := rfl
    rw [e]
    cases i with
    | zero =>
      simp at h
      subst h
      exact ⟨rfl, rfl, rfl⟩
    | succ i =>
      simp at h
      have := ih i h
      rw [show (i + 1) * 3 = i * 3 + 1 + 1 + 1 by omega, show i * 3 + 1 + 1 + 1 + 1 = (i * 3 + 1) + 1 + 1 + 1 by omega, show i * 3 + 1 + 1 + 1 + 2 = (i * 3 + 2) + 1 + 1 + 1 by omega]
      simp only [List.getElem?_cons_succ]
      exact this
set_option maxRecDepth 10000 in
set_option maxHeartbeats 4000000 in
theorem HistoryExpires_any (timeout : Int) (A1 : Option Addr) (n1 c1 : Nat) (l : List Int) (now : Int) (w : World) (hwt : (Lit.int .u16 timeout).wf = true) (h1 : Els 1 (rInt .u8) w A1 n1 l) (hwn : (Lit.int .u16 now).wf = true) :
    Calls Try.prog 9 #[.int .u16 timeout, .slice A1 n1 c1, .int .u16 now] w fun e w' => e = .returned (.bool true) ∧ Below w.heap.size w w' := by
  obtain ⟨r1, u1⟩ := h1.ints
  obtain ⟨t0, t1⟩ := wf_u16 hwt
  obtain ⟨o0, o1⟩ := wf_u16 hwn
  have R1 := Lib.hid r1
  have U1 := Lib.hid u1
  clear h1 r1 u1 hwt hwn
  obtain ⟨out, hout⟩ : ∃ o, o = 1 + timeout := ⟨_, rfl⟩
  have bo : 1 ≤ out ∧ out ≤ 65536 := by omega
  have a1 : wrap64 timeout = timeout := w64 (by omega) (by omega)
  have a2 : wrap64 (1 + timeout) = out := by rw [← hout]; exact w64 (by omega) (by omega)
  have a3 : wrap64 now = now := w64 (by omega) (by omega)
  have HOut := Lib.hid hout
  clear hout
  go_enter Try.func9, Try.ntmps9
  go_wp2_with fail
  try rw [← HOut.out]
  refine (new_hb out _ (by omega) (by omega)).mono ?_
  rintro e w1 ⟨p, r, rfl, h1⟩
  have H0 := Lib.hid (show SX w.heap.size w w1 p r w1.heap.size ⟨out, 0, 0, 0, 0, []⟩ (.slice none 0 0) 0 [] from ⟨h1, ⟨by simp [nums], .inl ⟨rfl, rfl⟩⟩, rfl, h1.hr.cells.2.2.2.2.2.2.2.1, h1.hr.cells.2.2.2.2.2.2.2.2, h1.sz, Nat.le_refl _⟩)
  obtain ⟨base, hbase⟩ : ∃ b, b = w1.heap.size := ⟨_, rfl⟩
  rw [← hbase] at H0
  clear h1 hbase
  go_wp2_with fail
  go_loopw [10, 11, 12] (fun av sv iv wr => ∃ (k m : Nat) (A : Int) (S : List Int) (h : HS), k ≤ 300 ∧ iv = .int .i64 (k : Int) ∧ av = .int .i64 A ∧ 0 ≤ A ∧ A ≤ 255 * k ∧ m = k ∧ Ex out A S h ∧ SX w.heap.size w wr p r base h sv m S) (fun _ _ iv _ => 300 - (intOf iv).toNat)
  case atStart => exact ⟨0, 0, 0, [], _, by omega, rfl, rfl, by omega, by omega, rfl, ⟨rfl, rfl, rfl, rfl, rfl, fresh_ok _, nofun⟩, H0.out⟩
  case round =>
    obtain ⟨k, m, A, S, h, hk, rfl, rfl, hA0, hA1, hmk, he, hx⟩ := hrel
    have HE := Lib.hid he
    have HX := Lib.hid hx
    have HMK := Lib.hid hmk
    have hSl : S.length = k := by rw [← hx.len]; exact hmk
    have HSl := Lib.hid hSl
    clear he hx hmk hSl H0
    by_cases hgo : k < n1 ∧ (k : Int) < 300
    · obtain ⟨hlt, hlt3⟩ := hgo
      obtain ⟨d1, o1', rfl, hb1, hc1⟩ := R1.out.2.2 (by omega)
      have x1 : wr.cell? ⟨d1, o1' + k, none⟩ = some (.int .u8 (l.getD k 0)) := (HX.out.hb.below.cell (p := ⟨d1, o1' + k, none⟩) hb1).trans (hc1 k hlt)
      obtain ⟨y1, y1'⟩ := wf_u8 (U1.out k hlt)
      clear hc1
      generalize l.getD k 0 = g at *
      have e1 : wrap64 g = g := w64 (by omega) (by omega)
      have e2 : wrap64 (A + g) = A + g := w64 (by omega) (by omega)
      obtain ⟨s1, s2⟩ := ex_send HE.out g y1 (by omega) hA0 (by rw [HSl.out]; omega)
      have S1 := Lib.hid s1
      have S2 := Lib.hid s2
      have hk1 : k + 1 ≤ 300 := by omega
      have hml : m ≤ 300 := by rw [HMK.out]; exact hk
      clear s1 s2
      go_wp2_with fail
      refine (HX.out.send HE.out.ok 1 (A + g)).mono ?_
      rintro e w3 ⟨rfl, h3⟩
      rw [S1.out]
      have H3 := Lib.hid h3
      clear h3
      go_wp2_with (first
        | (at_builtin
           refine wpList_app rfl (.tmp 54) (.tmp 56) 68 rfl base 2 (.int .i64 0) 1 8 Try.underlying68 info_i64 rfl (by omega) u11 m (nums .i64 S) rfl (H3.out.own.alloc _) (some ⟨w3.heap.size, 0, none⟩) 1 1 (nums .i64 [A + g]) rfl (Rd.one _ _ _) (nums_one _ _) (by simp only [maxLen]; omega) (by omega) (by have := H3.out.sz; simp; omega) ?_
           intro v2 w4 hown hg hat'
           have H5 := Lib.hid (SX.app (H3.out.run ((Below.refl _ _).alloc (Nat.le_refl _) _)) hown hg)
           clear hown hg hat'))
      go_roundw
      case rel => exact ⟨k + 1, m + 1, A + g, _, _, hk1, by go_num, rfl, by omega, by omega, by rw [HMK.out], S2.out, H5.out⟩
      case measure => exact meas3 300 k hlt3
    · have hno : ¬ k < n1 ∨ (k < n1 ∧ ¬ (k : Int) < 300) := by
        by_cases h1 : k < n1
        · exact .inr ⟨h1, fun h2 => hgo ⟨h1, h2⟩⟩
        · exact .inl h1
      clear hgo
      go_upto_region 8 with fail
      go_cut [36] (fun s36 wx => s36 = .bool false ∧ wx = wr)
      case first =>
        rcases hno with h1 | ⟨h1, h2⟩
        · go_wp2_with fail
          go_meet
          exact ⟨rfl, rfl⟩
        · go_wp2_with fail
          go_meet
          exact ⟨rfl, rfl⟩
      case rest =>
      obtain ⟨rfl, hw⟩ := hcut
      rw [hw]
      clear hw hno
      obtain ⟨t, ht⟩ : ∃ t, t = A + now := ⟨_, rfl⟩
      have bt : A ≤ t ∧ t ≤ 1000000 := by omega
      have e2 : wrap64 (A + now) = t := by rw [← ht]; exact w64 (by omega) (by omega)
      obtain ⟨x1, x2, x3, x4, x5, x6⟩ := ex_expire HE.out t bt.1 hA0 bt.2
      obtain ⟨hM1, hM2⟩ := tw_le (late t out) S
      obtain ⟨M, hM⟩ : ∃ M, M = (S.takeWhile (late t out)).length := ⟨_, rfl⟩
      rw [← hM] at x6 hM1
      have HM := Lib.hid hM
      have X1 := Lib.hid x1
      have X4 := Lib.hid x4
      have X5 := Lib.hid x5
      have X6 := Lib.hid x6
      have X23 := Lib.hid (And.intro x2 x3)
      have HT := Lib.hid ht
      have BT := Lib.hid (show -9223372036854775808 ≤ t ∧ t ≤ 9223372036854775807 by omega)
      have BM := Lib.hid (show M ≤ k by have := HSl.out; omega)
      clear x1 x2 x3 x4 x5 x6 hM hM1 hM2 ht
      go_wp2_with fail
      try rw [← HT.out]
      refine (HX.out.hb.expire HE.out.ok t (by rw [HE.out.first]; exact Int.le_refl _) (by rw [HE.out.first, HE.out.next]; exact Int.natCast_nonneg _) BT.out (fun x hx => by
        rw [HE.out.l] at hx
        have := HE.out.bd _ (en_mem hx)
        omega)).mono ?_
      rintro e w6 ⟨A2, ml, c2, rfl, h6, ok6, hml, hrd, hA2, hk6⟩
      rw [X1.out] at hml hrd
      rw [en_len, ← HM.out] at hml
      obtain rfl : M = ml := hml.symm
      clear hml
      have hown6 := hk6.own HX.out.own (fun b e hp => by have h1 := own_ge HX.out.own e; have h2 := HX.out.pb; have h3 := HX.out.rb; have h4 := (HX.out.own.lt b e).2; rcases hp with hp | hp | hp <;> omega)
      have H6 := Lib.hid h6
      have OK6 := Lib.hid ok6
      have HRD := Lib.hid hrd
      obtain ⟨A3, c3, rfl⟩ : ∃ A c, u11 = .slice A m c := by
        rcases HX.out.own.2 with ⟨rfl, rfl⟩ | ⟨g, cap, cur, rfl, _⟩
        · exact ⟨_, _, rfl⟩
        · exact ⟨_, _, rfl⟩
      have HR3 := Lib.hid (Rd.of_own hown6)
      have HMm := Lib.hid (show (M : Int) ≤ (m : Int) by have h1 := BM.out; have h2 := HMK.out; omega)
      clear h6 ok6 hrd hA2 hk6 hown6
      have hM := HMm.out
      have hMk := BM.out
      have HMS := Lib.hid (show m = S.length by rw [HMK.out, HSl.out])
      go_wp2_with fail
      go_loopw [17] (fun nv wr2 => ∃ j : Nat, j ≤ M ∧ nv = .int .i64 (j : Int) ∧ wr2 = w6) (fun nv _ => M - (intOf nv).toNat)
      case atStart => exact ⟨0, Nat.zero_le _, rfl, rfl⟩
      case round =>
        obtain ⟨j, hj, rfl, hw6⟩ := hrel
        rw [hw6]
        clear hw6
        by_cases hjm : j < M
        · obtain ⟨a, g1, g2, g3⟩ := tw_get (p := late t out) (S := S) (i := j) (by rw [← HM.out]; exact hjm)
          have hb := HE.out.bd a (List.mem_of_getElem? g1)
          have hlate : out < t - a := of_decide_eq_true g3
          obtain ⟨g, off, rfl, hg, hc⟩ := HR3.out.2 (by omega)
          have y0 := hc j _ (nums_get g1)
          have e3 : wrap64 (t - a) = t - a := w64 (by omega) (by omega)
          have j0 : (0 : Int) ≤ (j : Int) := by omega
          have j1 : (j : Int) < (m : Int) := by omega
          clear g1 g2 g3 hc
          go_wp2_with fail
          go_roundw
          case rel => exact ⟨j + 1, hjm, by go_num, by first | rfl | trivial⟩
          case measure => exact meas5 M j hjm
        · obtain rfl : j = M := Nat.le_antisymm hj (Nat.le_of_not_lt hjm)
          go_upto_region 18 with fail
          go_cut [78] (fun s78 wx => s78 = .bool false ∧ wx = w6)
          case first =>
            by_cases hjs : j < m
            · obtain ⟨a, g1, g2⟩ := tw_end (p := late t out) (S := S) (by rw [← HM.out, ← HMS.out]; exact hjs)
              rw [← HM.out] at g1
              have hb := HE.out.bd a (List.mem_of_getElem? g1)
              have hlate : ¬ out < t - a := of_decide_eq_false g2
              obtain ⟨g, off, rfl, hg, hc⟩ := HR3.out.2 (by omega)
              have y0 := hc j _ (nums_get g1)
              have e3 : wrap64 (t - a) = t - a := w64 (by omega) (by omega)
              have j0 : (0 : Int) ≤ (j : Int) := by omega
              have j1 : (j : Int) < (m : Int) := by omega
              clear g1 g2 hc
              go_wp2_with fail
              go_meet
              exact ⟨rfl, rfl⟩
            · have j1 : ¬ (j : Int) < (m : Int) := by omega
              go_wp2_with fail
              go_meet
              exact ⟨rfl, rfl⟩
          case rest =>
          obtain ⟨rfl, hw⟩ := hcut
          rw [hw]
          clear hw
          go_wp2_with fail
          go_loopw [18] (fun iv wr3 => ∃ i : Nat, i ≤ j ∧ iv = .int .i64 (i : Int) ∧ Kept (fun _ => False) w6 wr3) (fun iv _ => j - (intOf iv).toNat)
          case atStart => exact ⟨0, Nat.zero_le _, rfl, Kept.refl _ _⟩
          case round =>
            obtain ⟨i, hi, rfl, hk3⟩ := hrel
            by_cases him : i < j
            · obtain ⟨a, g1, g2, g3⟩ := tw_get (p := late t out) (S := S) (i := i) (by rw [← HM.out]; exact him)
              obtain ⟨g, off, rfl, hg, hc⟩ := HR3.out.2 (by omega)
              obtain ⟨gl, ol, rfl, hgl, hcl⟩ := HRD.out.2 (by omega)
              obtain ⟨z0, z1, z2⟩ := flat3_get _ i _ (en_get 0 _ i a g2)
              have y0 := (hk3.cell (p := ⟨g, off + i, none⟩) hg id).trans (hc i _ (nums_get g1))
              have y1 := (hk3.cell (p := ⟨gl, ol + i * 3, none⟩) hgl id).trans (hcl _ _ z0)
              have y2 := (hk3.cell (p := ⟨gl, ol + (i * 3 + 2), none⟩) hgl id).trans (hcl _ _ z2)
              rw [← Nat.add_assoc] at y2
              simp only [Int.zero_add] at y1 y2
              have j0 : (0 : Int) ≤ (i : Int) := by omega
              have j1 : (i : Int) < (m : Int) := by omega
              have j2 : (i : Int) < (j : Int) := by omega
              have HK3 := Lib.hid hk3
              clear g1 g2 g3 hc hcl z0 z1 z2 hk3
              go_upto_region 25 with fail
              go_quiet (fail)
              go_wp2_with fail
              go_roundw
              case rel => exact ⟨i + 1, him, by go_num, HK3.out.drewN _⟩
              case measure => exact meas5 j i him
            · obtain rfl : i = j := Nat.le_antisymm hi (Nat.le_of_not_lt him)
              have H7 := Lib.hid (H6.out.run (hk3.below (Nat.le_refl _) (fun _ h => h.elim)))
              clear hk3
              go_wp2_with fail
              refine (H7.out.expire OK6.out t X23.out.1 X23.out.2 BT.out X4.out).mono ?_
              rintro e w8 ⟨A4, ml2, c4, rfl, h8, ok8, hml2, _⟩
              rw [X5.out] at hml2
              obtain rfl : ml2 = 0 := hml2
              have H8 := Lib.hid h8
              have hcnt := Lib.hid (show (((expire (expire h t).1 t).1.l.length : Nat) : Int) = (m : Int) - (i : Int) by rw [X6.out]; have := HMS.out; omega)
              have e6 : wrap64 ((m : Int) - (i : Int)) = (m : Int) - (i : Int) := by have h1 := HMK.out; exact w64 (by omega) (by omega)
              clear h8 ok8
              go_wp2_with fail
              refine (H8.out.count).mono ?_
              rintro e w9 ⟨rfl, h9⟩
              rw [hcnt.out]
              have H9 := Lib.hid h9
              clear h9
              go_wp2_with fail
              refine (wakes_any _).mono ?_
              rintro e w10 ⟨rfl, hb⟩
              go_wp2
              go_ret
              exact ⟨rfl, below_then H9.out.below H9.out.sz hb⟩
end Go.Proofs.Ytfemmbipglpalaa.History
