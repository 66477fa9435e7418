/- What Hear comes to; no condition but the ranges in each. -/
import Derived.Test.YtfemmbipglpalaaHistFn2
namespace Go.Proofs.Ytfemmbipglpalaa.History
open Go.RowKit Go.Proofs.Ytfemmbipglpalaa.Plain Go.Proofs.Ytfemmbipglpalaa.Heap Go.Proofs.Ytfemmbipglpalaa.Maps

abbrev R5 : Type := Int × Bool × Int × Bool × Bool
abbrev A6 : Type := E3 × Int × Bool × Bool
def flat5 (l : List R5) : List Value := l.flatMap fun x => [.int .i64 x.1, .bool x.2.1, .int .i64 x.2.2.1, .bool x.2.2.2.1, .bool x.2.2.2.2]
def flat3 (l : List E3) : List Value := l.flatMap fun x => [.int .i64 x.1, .int .i64 x.2.1, .int .i64 x.2.2]
def flat6 (l : List A6) : List Value := l.flatMap fun x => [.int .i64 x.1.1, .int .i64 x.1.2.1, .int .i64 x.1.2.2, .int .i64 x.2.1, .bool x.2.2.1, .bool x.2.2.2]
theorem flat3_append (l m : List E3) : flat3 (l ++ m) = flat3 l ++ flat3 m := by simp [flat3]
theorem flat6_append (l m : List A6) : flat6 (l ++ m) = flat6 l ++ flat6 m := by simp [flat6]
theorem flat3_one (l : List E3) : ∀ u ∈ flat3 l, u.oneCell' = true := by
  intro u hu
  simp only [flat3, List.mem_flatMap] at hu
  obtain ⟨x, _, hx⟩ := hu
  simp at hx
  rcases hx with rfl | rfl | rfl <;> rfl
theorem flat6_one (l : List A6) : ∀ u ∈ flat6 l, u.oneCell' = true := by
  intro u hu
  simp only [flat6, List.mem_flatMap] at hu
  obtain ⟨x, _, hx⟩ := hu
  simp at hx
  rcases hx with rfl | rfl | rfl | rfl | rfl | rfl <;> rfl
theorem flat5_get (l : List R5) (i : Nat) (x : R5) (h : l[i]? = some x) : (flat5 l)[i * 5]? = some (.int .i64 x.1) ∧ (flat5 l)[i * 5 + 1]? = some (.bool x.2.1) ∧ (flat5 l)[i * 5 + 2]? = some (.int .i64 x.2.2.1) ∧ (flat5 l)[i * 5 + 3]? = some (.bool x.2.2.2.1) ∧ (flat5 l)[i * 5 + 4]? = some (.bool x.2.2.2.2) := by
  induction l generalizing i with
  | nil => simp at h
  | cons y l ih =>
    have e : flat5 (y :: l) = .int .i64 y.1 :: .bool y.2.1 :: .int .i64 y.2.2.1 :: .bool y.2.2.2.1 :: .bool y.2.2.2.2 :: flat5 l := rfl
    rw [e]
    cases i with
    | zero =>
      simp at h
      subst h
      exact ⟨rfl, rfl, rfl, rfl, rfl⟩
    | succ i =>
      simp at h
      have := ih i h
      rw [show (i + 1) * 5 = i * 5 + 1 + 1 + 1 + 1 + 1 by omega, show i * 5 + 1 + 1 + 1 + 1 + 1 + 1 = (i * 5 + 1) + 1 + 1 + 1 + 1 + 1 by omega, show i * 5 + 1 + 1 + 1 + 1 + 1 + 2 = (i * 5 + 2) + 1 + 1 + 1 + 1 + 1 by omega, show i * 5 + 1 + 1 + 1 + 1 + 1 + 3 = (i * 5 + 3) + 1 + 1 + 1 + 1 + 1 by omega, show i * 5 + 1 + 1 + 1 + 1 + 1 + 4 = (i * 5 + 4) + 1 + 1 + 1 + 1 + 1 by omega]
      simp only [List.getElem?_cons_succ]
      exact this
abbrev H3 : Type := HS × List A6 × List E3
def hkey (h : HS) (s : Int) : Int := Fn.near (Fn.hold60 (h.next - 1)) s 65536 32768
/-- One report heard. -/
def hear1 (s : H3) (x : R5) : H3 := match findE (hkey s.1 x.1) s.1.l with
  | none => s
  | some e => if x.2.1 = true then (dropE s.1 e, s.2.1 ++ [(e, x.2.2.1, x.2.2.2.1, x.2.2.2.2)], s.2.2) else (dropE s.1 e, s.2.1, s.2.2 ++ [e])
def hearL (h : HS) (l : List R5) : H3 := l.foldl hear1 (h, [], [])
def sumS (l : List E3) : Int := (l.map (·.2.1)).sum
/-- A history in its ranges. -/
structure okH (h : HS) : Prop where
  next0 : 0 ≤ h.next
  next1 : h.next ≤ 1000000000
  lt : ∀ x ∈ h.l, 0 ≤ x.1 ∧ x.1 < h.next
  size : ∀ x ∈ h.l, 0 ≤ x.2.1 ∧ x.2.1 ≤ 1500
  len : h.l.length ≤ 1024
  sum : h.flying = sumS h.l
theorem sumS_bd {l : List E3} (h : ∀ x ∈ l, 0 ≤ x.2.1 ∧ x.2.1 ≤ 1500) : 0 ≤ sumS l ∧ sumS l ≤ 1500 * l.length := by
  induction l with
  | nil => simp [sumS]
  | cons x l ih =>
    have h1 := ih fun y hy => h y (by simp [hy])
    have h2 := h x (by simp)
    have e : sumS (x :: l) = x.2.1 + sumS l := by simp [sumS]
    rw [e]
    simp only [List.length_cons]
    omega
theorem okH.fly {h : HS} (ok : okH h) : 0 ≤ h.flying ∧ h.flying ≤ 1536000 := by
  have h1 := sumS_bd ok.size
  have h2 := ok.len
  rw [ok.sum]
  omega
theorem eraseE_mem {k : Int} {l : List E3} {x : E3} (h : x ∈ eraseE k l) : x ∈ l := by
  induction l with
  | nil => cases h
  | cons y l ih =>
    unfold eraseE at h
    split at h
    · simp [h]
    · rcases List.mem_cons.1 h with h | h
      · simp [h]
      · simp [ih h]
theorem eraseE_sum {k : Int} {l : List E3} {x : E3} (h : findE k l = some x) : sumS (eraseE k l) = sumS l - x.2.1 ∧ (eraseE k l).length + 1 = l.length := by
  induction l with
  | nil => cases h
  | cons y l ih =>
    unfold findE at h
    unfold eraseE
    have e : sumS (y :: l) = y.2.1 + sumS l := by simp [sumS]
    split at h
    · rename_i hk
      injection h with h
      subst h
      rw [if_pos hk, e]
      exact ⟨by omega, by simp⟩
    · rename_i hk
      obtain ⟨h1, h2⟩ := ih h
      have e2 : sumS (y :: eraseE k l) = y.2.1 + sumS (eraseE k l) := by simp [sumS]
      rw [if_neg hk, e, e2]
      exact ⟨by omega, by simp; omega⟩
theorem okH.drop {h : HS} (ok : okH h) {k : Int} {x : E3} (hx : findE k h.l = some x) : okH (dropE h x) := by
  obtain ⟨e, hm⟩ := findE_key hx
  subst e
  obtain ⟨h1, h2⟩ := eraseE_sum hx
  refine ⟨ok.next0, ok.next1, fun y hy => ok.lt y (eraseE_mem hy), fun y hy => ok.size y (eraseE_mem hy), ?_, ?_⟩
  · show (eraseE x.1 h.l).length ≤ 1024
    have := ok.len
    omega
  · show h.flying - x.2.1 = sumS (eraseE x.1 h.l)
    rw [h1, ok.sum]
theorem okH.hear {s : H3} (ok : okH s.1) (x : R5) : okH (hear1 s x).1 := by
  unfold hear1
  split
  · exact ok
  · rename_i e he
    split
    · exact ok.drop he
    · exact ok.drop he
theorem hear1_next (s : H3) (x : R5) : (hear1 s x).1.next = s.1.next := by
  unfold hear1
  split
  · rfl
  · split <;> rfl
theorem hear1_len (s : H3) (x : R5) : (hear1 s x).2.1.length + (hear1 s x).2.2.length + (hear1 s x).1.l.length = s.2.1.length + s.2.2.length + s.1.l.length := by
  unfold hear1
  split
  · rfl
  · rename_i e he
    obtain ⟨e1, hm⟩ := findE_key he
    have h2 := (eraseE_sum he).2
    rw [← e1] at h2
    have h3 : (dropE s.1 e).l.length + 1 = s.1.l.length := h2
    split
    · simp only [List.length_append, List.length_cons, List.length_nil]; omega
    · simp only [List.length_append, List.length_cons, List.length_nil]; omega
theorem fold_ok (l : List R5) : ∀ s : H3, okH s.1 → okH (l.foldl hear1 s).1 ∧ (l.foldl hear1 s).1.next = s.1.next ∧ (l.foldl hear1 s).2.1.length + (l.foldl hear1 s).2.2.length + (l.foldl hear1 s).1.l.length = s.2.1.length + s.2.2.length + s.1.l.length := by
  induction l with
  | nil => exact fun s ok => ⟨ok, rfl, rfl⟩
  | cons x l ih =>
    intro s ok
    obtain ⟨h1, h2, h3⟩ := ih (hear1 s x) (ok.hear x)
    exact ⟨h1, h2.trans (hear1_next s x), h3.trans (hear1_len s x)⟩
theorem hear_ok {h : HS} (ok : okH h) (l : List R5) : okH (hearL h l).1 ∧ (hearL h l).1.next = h.next ∧ (hearL h l).2.1.length + (hearL h l).2.2.length + (hearL h l).1.l.length = h.l.length := by
  have := fold_ok l (h, [], []) ok
  unfold hearL
  simpa using this
theorem hear_take {h : HS} {l : List R5} {k : Nat} {x : R5} (hx : l[k]? = some x) : hearL h (l.take (k + 1)) = hear1 (hearL h (l.take k)) x := by
  unfold hearL
  have hk : k < l.length := (List.getElem?_eq_some_iff.1 hx).1
  rw [List.take_add_one, hx, List.foldl_append]
  rfl
theorem rd_three (w : World) (t : TypeId) (x : E3) : Rd (w.alloc (.cells #[.int .i64 x.1, .int .i64 x.2.1, .int .i64 x.2.2] t)) 3 (some ⟨w.heap.size, 0, none⟩) 1 (flat3 [x]) :=
  Rd.block (cs := #[.int .i64 x.1, .int .i64 x.2.1, .int .i64 x.2.2]) (heap_alloc_new w _) rfl
theorem rd_six (w : World) (t : TypeId) (x : A6) : Rd (w.alloc (.cells #[.int .i64 x.1.1, .int .i64 x.1.2.1, .int .i64 x.1.2.2, .int .i64 x.2.1, .bool x.2.2.1, .bool x.2.2.2] t)) 6 (some ⟨w.heap.size, 0, none⟩) 1 (flat6 [x]) :=
  Rd.block (cs := #[.int .i64 x.1.1, .int .i64 x.1.2.1, .int .i64 x.1.2.2, .int .i64 x.2.1, .bool x.2.2.1, .bool x.2.2.2]) (heap_alloc_new w _) rfl
theorem info_sent : (Try.prog.info? 38).map (fun i => (i.zero, i.size, i.bytes)) = some (some (.agg #[.int .i64 0, .int .i64 0, .int .i64 0]), 3, 24) := by kernel_rfl
theorem info_acked : (Try.prog.info? 40).map (fun i => (i.zero, i.size, i.bytes)) = some (some (.agg #[.int .i64 0, .int .i64 0, .int .i64 0, .int .i64 0, .bool false, .bool false]), 6, 40) := by kernel_rfl
theorem zero_sent (w : World) : (zeroValue 38).run Try.prog w = .ok (.agg #[.int .i64 0, .int .i64 0, .int .i64 0]) w := by rfl
theorem own_ge {w : World} {base : Nat} {e : TypeId} {size n : Nat} {v : Value} {xs : List Value} (h : w.ownsRow base e size v n xs) {k : Nat} (hk : v.ownBlock = some k) : base ≤ k := by
  rcases h.2 with ⟨rfl, _⟩ | ⟨g, cap, cur, rfl, hb, _⟩
  · simp [Value.ownBlock] at hk
  · simp [Value.ownBlock] at hk
    omega
/-- What Hear has so far. -/
structure HH (w0 w : World) (p r base : Nat) (s : H3) (gv lv : Value) (mg ml : Nat) : Prop where
  hr : HR w p r s.1
  ok : okH s.1
  og : w.ownsRow base 40 6 gv mg (flat6 s.2.1)
  ol : w.ownsRow base 38 3 lv ml (flat3 s.2.2)
  lg : mg = s.2.1.length
  ll : ml = s.2.2.length
  ne : ∀ b, gv.ownBlock = some b → ¬ lv.ownBlock = some b
  sz : base ≤ w.heap.size
  pb : p < base
  rb : r < base
  kp : Kept (fun g => g = p ∨ g = r ∨ base ≤ g) w0 w
section
variable {w0 w w' : World} {p r base : Nat} {s : H3} {gv lv : Value} {mg ml : Nat}
theorem HH.run (h : HH w0 w p r base s gv lv mg ml) (hk : Kept (fun _ => False) w w') : HH w0 w' p r base s gv lv mg ml :=
  ⟨h.hr.kept hk id id, h.ok, hk.own h.og (fun _ _ => id), hk.own h.ol (fun _ _ => id), h.lg, h.ll, h.ne, Nat.le_trans h.sz hk.size, h.pb, h.rb, h.kp.trans hk (fun _ _ h => h.elim)⟩
theorem HH.drop (h : HH w0 w p r base s gv lv mg ml) {k : Int} {e : E3} (he : findE k s.1.l = some e) (hr : HR w' p r (dropE s.1 e)) (hk : Kept (fun g => g = p ∨ g = r) w w') : HH w0 w' p r base (dropE s.1 e, s.2) gv lv mg ml :=
  ⟨hr, h.ok.drop he, hk.own h.og (fun b e hp => by have h1 := own_ge h.og e; have h2 := h.pb; have h3 := h.rb; rcases hp with hp | hp <;> omega), hk.own h.ol (fun b e hp => by have h1 := own_ge h.ol e; have h2 := h.pb; have h3 := h.rb; rcases hp with hp | hp <;> omega), h.lg, h.ll, h.ne, Nat.le_trans h.sz hk.size, h.pb, h.rb,
    h.kp.trans hk (fun i _ hi => by rcases hi with hi | hi; exact .inl hi; exact .inr (.inl hi))⟩
theorem grown_off {B : Nat} {v : Value} {n : Nat} {e : TypeId} {sz : Nat} {xs : List Value} (hown : w.ownsRow B e sz v n xs) (hg : w.grownBy w' v.ownBlock) (S : Nat → Prop) (hS : ∀ i, B ≤ i → S i) : Kept S w w' := (Kept.of_grown hg).mono (fun i _ e => hS i (own_ge hown e))
theorem HH.got (h : HH w0 w p r base s gv lv mg ml) {gv' : Value} {x : A6} (hown : w'.ownsRow base 40 6 gv' (mg + 1) (flat6 s.2.1 ++ flat6 [x])) (hg : w.grownBy w' gv.ownBlock) (hat : gv'.ownBlock = gv.ownBlock ∨ gv'.ownBlock = some w.heap.size) : HH w0 w' p r base (s.1, s.2.1 ++ [x], s.2.2) gv' lv (mg + 1) ml := by
  have hk := Kept.of_grown hg
  have hb := h.sz
  refine ⟨h.hr.kept hk (fun e => by have := own_ge h.og e; have := h.pb; omega) (fun e => by have := own_ge h.og e; have := h.rb; omega), h.ok, by rw [flat6_append]; exact hown, hk.own h.ol (fun b e hp => h.ne b hp e), by rw [h.lg]; simp, h.ll, fun b e hl => ?_, Nat.le_trans h.sz hk.size, h.pb, h.rb, h.kp.trans (grown_off h.og hg _ (fun i hi => .inr (.inr hi))) (fun _ _ h => h)⟩
  rcases hat with hat | hat
  · exact h.ne b (hat ▸ e) hl
  · rw [hat] at e
    injection e with e
    have := (h.ol.lt b hl).2
    omega
theorem HH.lost (h : HH w0 w p r base s gv lv mg ml) {lv' : Value} {x : E3} (hown : w'.ownsRow base 38 3 lv' (ml + 1) (flat3 s.2.2 ++ flat3 [x])) (hg : w.grownBy w' lv.ownBlock) (hat : lv'.ownBlock = lv.ownBlock ∨ lv'.ownBlock = some w.heap.size) : HH w0 w' p r base (s.1, s.2.1, s.2.2 ++ [x]) gv lv' mg (ml + 1) := by
  have hk := Kept.of_grown hg
  have hb := h.sz
  refine ⟨h.hr.kept hk (fun e => by have := own_ge h.ol e; have := h.pb; omega) (fun e => by have := own_ge h.ol e; have := h.rb; omega), h.ok, hk.own h.og (fun b e hp => h.ne b e hp), by rw [flat3_append]; exact hown, h.lg, by rw [h.ll]; simp, fun b e hl => ?_, Nat.le_trans h.sz hk.size, h.pb, h.rb, h.kp.trans (grown_off h.ol hg _ (fun i hi => .inr (.inr hi))) (fun _ _ h => h)⟩
  rcases hat with hat | hat
  · exact h.ne b e (hat ▸ hl)
  · rw [hat] at hl
    injection hl with hl
    have := (h.og.lt b e).2
    omega
end
end Go.Proofs.Ytfemmbipglpalaa.History
