/- What agrees with an encoded header is decoded to it, or is short: the whole; plain; no condition but the ranges in each. -/
import Derived.Test.YtccljgohekmjkaaRtpBack2
namespace Go.Proofs.Ytccljgohekmjkaa.Rtp
open Go.RowKit Go.Proofs.Ytccljgohekmjkaa.Plain Go.Proofs.Ytccljgohekmjkaa.Heap Go.Proofs.Ytccljgohekmjkaa.Open Go.Proofs.Ytccljgohekmjkaa.Rows Go.Proofs.Ytccljgohekmjkaa.Bits
structure HeadVals (h : Hd) (T : ByteArray) : Prop where
  a0 : val T 0 3 = 4
  a1 : val T 3 1 = b01 (decide (0 < h.xs.length))
  a2 : val T 4 4 = (h.src.length : Int)
  a3 : val T 8 1 = b01 h.m
  a4 : val T 9 7 = h.ty
  a5 : val T 16 16 = h.sq
  a6 : val T 32 32 = h.tm
  a7 : val T 64 32 = h.ss
theorem head_vals {h : Hd} (ok : okH h) (hg : goodR h = true) : HeadVals h (txt (encB h)) := by
  obtain ⟨y0, y1, q0, q1, n15, m14⟩ := goodR_yes hg
  have hb := encB_bits h
  obtain ⟨R, hR⟩ : ∃ R, R = encS h.src ++ (if h.xs.length = 0 then [] else extB h.xs) := ⟨_, rfl⟩
  have e : encB h = headB h ++ R := by unfold encB; rw [hR, List.append_assoc]
  unfold headB at e
  have t0 := ok.t0
  have t1 := ok.t1
  have s0 := ok.s0
  have s1 := ok.s1
  have p0 := val_put hb (P := []) (v := 2) (n := 2) (R := bitsOf 0 1 ++ (bitsOf (b01 (decide (0 < h.xs.length))) 1 ++ (bitsOf (h.src.length : Int) 4 ++ (bitsOf (b01 h.m) 1 ++ (bitsOf h.ty 7 ++ (bitsOf h.sq 16 ++ (bitsOf h.tm 32 ++ (bitsOf h.ss 32 ++ R)))))))) (by rw [e]; simp only [List.append_assoc, List.nil_append]) (by decide) (by decide)
  have p1 := val_put hb (P := bitsOf 2 2) (v := 0) (n := 1) (R := bitsOf (b01 (decide (0 < h.xs.length))) 1 ++ (bitsOf (h.src.length : Int) 4 ++ (bitsOf (b01 h.m) 1 ++ (bitsOf h.ty 7 ++ (bitsOf h.sq 16 ++ (bitsOf h.tm 32 ++ (bitsOf h.ss 32 ++ R))))))) (by rw [e]; simp only [List.append_assoc]) (by decide) (by decide)
  have p2 := val_put hb (P := bitsOf 2 2 ++ bitsOf 0 1) (v := b01 (decide (0 < h.xs.length))) (n := 1) (R := bitsOf (h.src.length : Int) 4 ++ (bitsOf (b01 h.m) 1 ++ (bitsOf h.ty 7 ++ (bitsOf h.sq 16 ++ (bitsOf h.tm 32 ++ (bitsOf h.ss 32 ++ R)))))) (by rw [e]; simp only [List.append_assoc]) (b01_lo _) (b01_two _)
  have p3 := val_put hb (P := bitsOf 2 2 ++ bitsOf 0 1 ++ bitsOf (b01 (decide (0 < h.xs.length))) 1) (v := (h.src.length : Int)) (n := 4) (R := bitsOf (b01 h.m) 1 ++ (bitsOf h.ty 7 ++ (bitsOf h.sq 16 ++ (bitsOf h.tm 32 ++ (bitsOf h.ss 32 ++ R))))) (by rw [e]; simp only [List.append_assoc]) (by omega) (by omega)
  have p4 := val_put hb (P := bitsOf 2 2 ++ bitsOf 0 1 ++ bitsOf (b01 (decide (0 < h.xs.length))) 1 ++ bitsOf (h.src.length : Int) 4) (v := b01 h.m) (n := 1) (R := bitsOf h.ty 7 ++ (bitsOf h.sq 16 ++ (bitsOf h.tm 32 ++ (bitsOf h.ss 32 ++ R)))) (by rw [e]; simp only [List.append_assoc]) (b01_lo _) (b01_two _)
  have p5 := val_put hb (P := bitsOf 2 2 ++ bitsOf 0 1 ++ bitsOf (b01 (decide (0 < h.xs.length))) 1 ++ bitsOf (h.src.length : Int) 4 ++ bitsOf (b01 h.m) 1) (v := h.ty) (n := 7) (R := bitsOf h.sq 16 ++ (bitsOf h.tm 32 ++ (bitsOf h.ss 32 ++ R))) (by rw [e]; simp only [List.append_assoc]) y0 (by omega)
  have p6 := val_put hb (P := bitsOf 2 2 ++ bitsOf 0 1 ++ bitsOf (b01 (decide (0 < h.xs.length))) 1 ++ bitsOf (h.src.length : Int) 4 ++ bitsOf (b01 h.m) 1 ++ bitsOf h.ty 7) (v := h.sq) (n := 16) (R := bitsOf h.tm 32 ++ (bitsOf h.ss 32 ++ R)) (by rw [e]; simp only [List.append_assoc]) q0 (by omega)
  have p7 := val_put hb (P := bitsOf 2 2 ++ bitsOf 0 1 ++ bitsOf (b01 (decide (0 < h.xs.length))) 1 ++ bitsOf (h.src.length : Int) 4 ++ bitsOf (b01 h.m) 1 ++ bitsOf h.ty 7 ++ bitsOf h.sq 16) (v := h.tm) (n := 32) (R := bitsOf h.ss 32 ++ R) (by rw [e]; simp only [List.append_assoc]) t0 (by omega)
  have p8 := val_put hb (P := bitsOf 2 2 ++ bitsOf 0 1 ++ bitsOf (b01 (decide (0 < h.xs.length))) 1 ++ bitsOf (h.src.length : Int) 4 ++ bitsOf (b01 h.m) 1 ++ bitsOf h.ty 7 ++ bitsOf h.sq 16 ++ bitsOf h.tm 32) (v := h.ss) (n := 32) (R := R) (by rw [e]; simp only [List.append_assoc]) s0 (by omega)
  simp only [List.length_append, bitsOf_length, List.length_nil] at p0 p1 p2 p3 p4 p5 p6 p7 p8
  refine ⟨?_, p2, p3, p4, p5, p6, p7, p8⟩
  have h3 : val (txt (encB h)) 0 3 = val (txt (encB h)) 0 2 * 2 + bt (txt (encB h)) 2 := rfl
  have h1 : val (txt (encB h)) 2 1 = 0 * 2 + bt (txt (encB h)) 2 := rfl
  rw [h3, p0]
  omega
theorem src_vals {h : Hd} (ok : okH h) {i : Nat} {x : Int} (hx : h.src[i]? = some x) : val (txt (encB h)) (96 + 32 * i) 32 = x := by
  have hb := encB_bits h
  obtain ⟨hl, hxe⟩ := List.getElem?_eq_some_iff.1 hx
  obtain ⟨b0, b1⟩ := ok.src x (List.mem_of_getElem? hx)
  have hsp : encS h.src = encS (h.src.take i) ++ (bitsOf x 32 ++ encS (h.src.drop (i + 1))) := by
    have e : h.src = h.src.take i ++ (h.src[i] :: h.src.drop (i + 1)) := by rw [← List.drop_eq_getElem_cons hl, List.take_append_drop]
    have e2 : ∀ a b, encS (a ++ b) = encS a ++ encS b := fun a b => by simp [encS]
    conv => lhs; rw [e, e2]
    rw [hxe]
    rfl
  have := val_put hb (P := headB h ++ encS (h.src.take i)) (v := x) (n := 32) (R := encS (h.src.drop (i + 1)) ++ (if h.xs.length = 0 then [] else extB h.xs)) (by unfold encB; rw [hsp]; simp only [List.append_assoc]) b0 (by omega)
  rwa [List.length_append, headB_len, encS_len, List.length_take, Nat.min_eq_left (by omega)] at this
theorem ext_head {h : Hd} (hl : extLen h.xs ≤ 300) (hm : ¬ h.xs.length = 0) : val (txt (encB h)) (8 * (12 + 4 * h.src.length)) 16 = 48862 ∧ val (txt (encB h)) (8 * (12 + 4 * h.src.length) + 16) 16 = (extW h.xs : Int) := by
  have hb := encB_bits h
  have e : encB h = headB h ++ encS h.src ++ (bitsOf 48862 16 ++ (bitsOf (extW h.xs : Int) 16 ++ (encXs h.xs ++ List.replicate (padX h.xs) 0))) := by unfold encB; rw [if_neg hm]; rfl
  have hpl : (headB h ++ encS h.src).length = 8 * (12 + 4 * h.src.length) := by rw [List.length_append, headB_len, encS_len]; omega
  constructor
  · rw [← hpl]
    exact val_put hb e (by decide) (by decide)
  · have := val_put hb (P := headB h ++ encS h.src ++ bitsOf 48862 16) (v := (extW h.xs : Int)) (n := 16) (R := encXs h.xs ++ List.replicate (padX h.xs) 0) (by rw [e]; simp only [List.append_assoc]) (by omega) (by unfold extW; omega)
    rwa [List.length_append, bitsOf_length, hpl] at this
theorem extLen_bd {h : Hd} (hg : goodH h = true) : extLen h.xs ≤ 238 := by
  obtain ⟨h1, h2⟩ : goodR h = true ∧ goodTo h.xs h.xs.length = true := by unfold goodH at hg; exact Bool.and_eq_true_iff.1 hg
  have hall : ∀ x ∈ h.xs, goodX x = true := by have := goodTo_all h2; rwa [List.take_length] at this
  have hm := (goodR_yes h1).2.2.2.2.2
  have : ∀ l : List X2, (∀ x ∈ l, goodX x = true) → extLen l ≤ 17 * l.length := by
    intro l
    induction l with
    | nil => intro _; exact Nat.le_refl _
    | cons x l ih =>
      intro hl
      have h3 := ih fun y hy => hl y (List.mem_cons_of_mem _ hy)
      have h4 := goodX_yes (hl x (List.mem_cons_self ..))
      rw [extLen_cons, List.length_cons]
      omega
  have := this h.xs hall
  omega
/-- What Decode tells of a text that agrees. -/
def decR (h : Hd) : Except Int (List X2 × Nat) → Hd × Nat × Int
  | .error c => (zeroH, 0, c)
  | .ok _ => (h, sizeH h, 0)
theorem decH_walk {h : Hd} (ok : okH h) (hg : goodH h = true) {S : ByteArray} {K : Nat} {R : Except Int (List X2 × Nat)} (ag : Ag S (txt (encB h)) K) (w : Way h S K R) : decH S = decR h R := by
  obtain ⟨h1, h2⟩ : goodR h = true ∧ goodTo h.xs h.xs.length = true := by unfold goodH at hg; exact Bool.and_eq_true_iff.1 hg
  have hv := head_vals ok h1
  have hbd := extLen_bd hg
  have hsz : sizeH h = 12 + 4 * h.src.length + (if h.xs.length = 0 then 0 else 4 + 4 * extW h.xs) := rfl
  have h12 : 12 + 4 * h.src.length ≤ sizeH h := by rw [hsz]; omega
  have hle := w.le
  have short : ∀ k, k ≤ sizeH h → ¬ k ≤ S.size → R = .error 60 := fun k hk hn => by
    cases w with
    | whole e1 e2 => omega
    | cut e1 e2 => rfl
  have reach : ∀ k, k ≤ sizeH h → k ≤ S.size → k ≤ K := fun k hk hn => by
    cases w with
    | whole e1 e2 => omega
    | cut e1 e2 => omega
  unfold decH
  by_cases c1 : S.size < 1
  · rw [if_pos c1, short 1 (by omega) (by omega)]; rfl
  · have k1 := reach 1 (by omega) (by omega)
    have hn : srcN S = h.src.length := by
      unfold srcN
      rw [ag_val ag 4 4 (by omega), hv.a2]
      omega
    rw [if_neg c1, if_neg (by rw [ag_val ag 3 0 (by omega), hv.a0]; decide), hn]
    by_cases c2 : S.size < 12 + 4 * h.src.length
    · rw [if_pos c2, short _ h12 (by omega)]; rfl
    · have k2 := reach _ h12 (by omega)
      rw [if_neg c2, ag_val ag 1 3 (by omega), hv.a1]
      have hhd : ∀ xs, hd0 S xs = (h.m, h.ty, h.sq, h.tm, h.ss, h.src, xs) := fun xs => by
        unfold hd0
        rw [ag_val ag 1 8 (by omega), ag_val ag 7 9 (by omega), ag_val ag 16 16 (by omega), ag_val ag 32 32 (by omega), ag_val ag 32 64 (by omega), hv.a3, hv.a4, hv.a5, hv.a6, hv.a7, hn]
        have e1 : decide (b01 h.m = 1) = h.m := by cases h.m <;> rfl
        have e2 : decS S h.src.length = h.src := by
          apply List.ext_getElem?
          intro i
          by_cases hi : i < h.src.length
          · obtain ⟨x, hx⟩ : ∃ x, h.src[i]? = some x := ⟨_, List.getElem?_eq_getElem hi⟩
            rw [hx]
            unfold decS
            rw [List.getElem?_map, List.getElem?_range hi]
            show some (val S (96 + 32 * i) 32) = some x
            rw [ag_val ag 32 _ (by omega), src_vals ok hx]
          · rw [List.getElem?_eq_none (by unfold decS; simp; omega), List.getElem?_eq_none (by omega)]
        rw [e1, e2]
      by_cases hm : h.xs.length = 0
      · have hx : h.xs = [] := List.eq_nil_of_length_eq_zero hm
        rw [if_neg (by rw [decide_eq_false (by omega)]; decide), hhd]
        rw [if_pos hm] at hsz
        cases w with
        | whole e1 e2 =>
          show _ = (h, sizeH h, 0)
          rw [hsz, Nat.add_zero, ← hx]
          rfl
        | cut e1 e2 => omega
      · rw [if_pos (by rw [decide_eq_true (by omega)]; rfl)]
        rw [if_neg hm] at hsz
        obtain ⟨m1, m2⟩ := ext_head (by omega) hm
        have hde : decE S (12 + 4 * h.src.length) = R := by
          unfold decE
          by_cases c3 : S.size < 12 + 4 * h.src.length + 2
          · rw [if_pos c3, short (12 + 4 * h.src.length + 2) (by omega) (by omega)]
          · have k3 := reach (12 + 4 * h.src.length + 2) (by omega) (by omega)
            rw [if_neg c3, if_neg (by rw [ag_val ag 16 _ (by omega), m1]; exact fun e => e rfl)]
            by_cases c4 : S.size < 12 + 4 * h.src.length + 4
            · rw [if_pos c4, short (12 + 4 * h.src.length + 4) (by omega) (by omega)]
            · have k4 := reach (12 + 4 * h.src.length + 4) (by omega) (by omega)
              have hen : extN S (12 + 4 * h.src.length) = 4 * extW h.xs := by
                unfold extN
                rw [ag_val ag 16 _ (by omega), m2]
                omega
              rw [if_neg c4, hen]
              have := walk_exts hm h2 ag w h.xs.length 0 (4 * extW h.xs + 1) (by omega) (by unfold lX; simp [extLen]) (by unfold pX; simp [extLen]; omega)
              rw [← this]
              congr 1
              · unfold pX; simp [extLen]; omega
        rw [hde]
        cases w with
        | whole e1 e2 =>
          show (hd0 S h.xs, sizeH h, (0 : Int)) = (h, sizeH h, 0)
          rw [hhd]
          rfl
        | cut e1 e2 => rfl
end Go.Proofs.Ytccljgohekmjkaa.Rtp
