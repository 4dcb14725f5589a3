/- Plain: what is shown is runes alone; how it is told without a line's end. No condition. -/
import Derived.Test.YtgdneoajmaeckaaGreatDoorPr
import Derived.Lib.MapLaws
import Derived.Lib.ValidLaws
namespace Go.Proofs.YtgdneoajmaeckaaGreatDoor
open Go.Lib

/-- Bytes told without a line's end. -/
def nlB (l : List UInt8) : List UInt8 := l.flatMap fun c => if c = 10 then [92, 110] else if c = 92 then [92, 92] else [c]
theorem nlB_app (a b : List UInt8) : nlB (a ++ b) = nlB a ++ nlB b := by simp [nlB]
theorem nlB_cons (c : UInt8) (l : List UInt8) : nlB (c :: l) = (if c = 10 then [92, 110] else if c = 92 then [92, 92] else [c]) ++ nlB l := rfl
theorem nlB_len (l : List UInt8) : (nlB l).length ≤ 2 * l.length := by
  induction l with
  | nil => simp [nlB]
  | cons c l ih =>
    rw [nlB_cons, List.length_append, List.length_cons]
    have : (if c = 10 then [92, 110] else if c = 92 then [92, 92] else [c] : List UInt8).length ≤ 2 := by split <;> (try split) <;> simp
    omega
theorem nlB_no (l : List UInt8) : ∀ c ∈ nlB l, c ≠ 10 := by
  intro c hc
  simp only [nlB, List.mem_flatMap] at hc
  obtain ⟨d, -, hd⟩ := hc
  split at hd
  · simp at hd; rcases hd with rfl | rfl <;> decide
  · split at hd
    · simp at hd; subst hd; decide
    · simp at hd; subst hd; assumption
theorem nlB_plain {l : List UInt8} (h : ∀ c ∈ l, c ≠ 10 ∧ c ≠ 92) : nlB l = l := by
  induction l with
  | nil => rfl
  | cons c l ih =>
    rw [nlB_cons, if_neg (h c (by simp)).1, if_neg (h c (by simp)).2, ih fun x hx => h x (by simp [hx])]
    rfl

/-- Where a text is runes alone: its first rune is a byte below 128, or all its bytes are beyond. -/
theorem head_cases (l : List UInt8) (hne : l ≠ []) (hv : ¬ ((decodeL l).1 = 65533 ∧ (decodeL l).2 = 1)) :
    (∃ c t, l = c :: t ∧ c.toNat < 128 ∧ decodeL l = (c.toNat, 1)) ∨
    (2 ≤ (decodeL l).2 ∧ (decodeL l).2 ≤ l.length ∧ 128 ≤ (decodeL l).1 ∧ (decodeL l).1 ≤ 1114111 ∧ (∀ b ∈ l.take (decodeL l).2, 128 ≤ b.toNat) ∧ ∀ x, decodeL (l.take (decodeL l).2 ++ x) = decodeL l) := by
  have hl : 0 < l.length := List.length_pos_iff.2 hne
  rw [decodeL_N] at hv ⊢
  have k0 := (l.getD 0 0).toNat_lt
  rcases decodeN_shape l.length (l.getD 0 0).toNat (l.getD 1 0).toNat (l.getD 2 0).toNat (l.getD 3 0).toNat with ⟨c, e⟩ | ⟨c1, c2, c3, cv, e⟩ | ⟨c1, c2, c3, c4, cv, cs, e⟩ | ⟨c1, c2, c3, c4, c5, cv, cw, e⟩ | e
  · refine Or.inl ?_
    cases l with
    | nil => exact absurd rfl hne
    | cons c' t => exact ⟨c', t, rfl, by simpa using c, by rw [e]; simp⟩
  · refine Or.inr ?_
    rw [e]
    refine ⟨by simp, by simp only; omega, by simp only; omega, by simp only; omega, ?_, fun x => ?_⟩
    · simp only
      rw [takeB l c2]
      intro b hb
      simp only [List.mem_cons, List.not_mem_nil, or_false] at hb
      rcases hb with rfl | rfl
      · omega
      · omega
    · simp only
      rw [takeB l c2, decodeL_N, ← e]
      simp only [List.cons_append, List.nil_append, List.length_cons, List.getD_cons_zero, List.getD_cons_succ]
      rw [e]
      rcases decodeN_shape (x.length + 1 + 1) (l.getD 0 0).toNat (l.getD 1 0).toNat ((l.getD 0 0 :: l.getD 1 0 :: x).getD 2 0).toNat ((l.getD 0 0 :: l.getD 1 0 :: x).getD 3 0).toNat with ⟨d, f⟩ | ⟨d1, d2, d3, dv, f⟩ | ⟨d1, d2, d3, d4, dv, ds, f⟩ | ⟨d1, d2, d3, d4, d5, dv, dw, f⟩ | f
      · omega
      · exact f
      · omega
      · omega
      · exfalso
        unfold decodeN at f
        rw [if_neg (by omega), if_pos ⟨c1, by omega, c3⟩, if_pos cv] at f
        simp at f
  · refine Or.inr ?_
    rw [e]
    refine ⟨by simp, by simp only; omega, by simp only; omega, by simp only; omega, ?_, fun x => ?_⟩
    · simp only
      rw [takeC l c2]
      intro b hb
      simp only [List.mem_cons, List.not_mem_nil, or_false] at hb
      rcases hb with rfl | rfl | rfl <;> omega
    · simp only
      rw [takeC l c2, decodeL_N]
      simp only [List.cons_append, List.nil_append, List.length_cons, List.getD_cons_zero, List.getD_cons_succ]
      unfold decodeN
      rw [if_neg (by omega), if_neg (by omega), if_pos ⟨c1, ⟨by omega, c3⟩, by omega, c4⟩, if_pos ⟨cv, by omega⟩]
  · refine Or.inr ?_
    rw [e]
    refine ⟨by simp, by simp only; omega, by simp only; omega, by simp only; omega, ?_, fun x => ?_⟩
    · simp only
      rw [takeD l c2]
      intro b hb
      simp only [List.mem_cons, List.not_mem_nil, or_false] at hb
      rcases hb with rfl | rfl | rfl | rfl <;> omega
    · simp only
      rw [takeD l c2, decodeL_N]
      simp only [List.cons_append, List.nil_append, List.length_cons, List.getD_cons_zero, List.getD_cons_succ]
      unfold decodeN
      rw [if_neg (by omega), if_neg (by omega), if_neg (by omega), if_pos ⟨c1, ⟨by omega, c3⟩, ⟨by omega, c4⟩, by omega, c5⟩, if_pos ⟨cv, by omega⟩]
  · exact absurd ⟨by rw [e], by rw [e]⟩ hv

theorem valid_head {l : List UInt8} (hne : l ≠ []) (h : validD l = true) : ¬ ((decodeL l).1 = 65533 ∧ (decodeL l).2 = 1) ∧ validD (l.drop (decodeL l).2) = true := by
  rw [validD_step l hne] at h
  split at h
  · cases h
  · exact ⟨by assumption, h⟩

theorem valid_app : ∀ (n : Nat) (a b : List UInt8), a.length ≤ n → validD a = true → validD (a ++ b) = validD b := by
  intro n
  induction n with
  | zero =>
    intro a b h _
    have : a = [] := List.length_eq_zero_iff.1 (by omega)
    subst this; rfl
  | succ n ih =>
    intro a b hn h
    by_cases hne : a = []
    · subst hne; rfl
    · obtain ⟨hv, hd⟩ := valid_head hne h
      rcases head_cases a hne hv with ⟨c, t, rfl, hc, e⟩ | ⟨h2, hle, -, -, -, hx⟩
      · rw [e] at hd
        rw [List.cons_append, validD_cons c _ hc]
        exact ih t b (by simp at hn; omega) (by simpa using hd)
      · have hx := hx (a.drop (decodeL a).2 ++ b)
        rw [← List.append_assoc, List.take_append_drop] at hx
        have hne2 : a ++ b ≠ [] := by simp [hne]
        rw [validD_step _ hne2, hx, if_neg hv, List.drop_append_of_le_length hle]
        exact ih _ b (by rw [List.length_drop]; omega) hd
theorem validD_app {a b : List UInt8} (h : validD a = true) : validD (a ++ b) = validD b := valid_app _ a b (Nat.le_refl _) h

theorem valid_ascii {l : List UInt8} (h : ∀ b ∈ l, b.toNat < 128) : validD l = true := by
  rw [validD_ascii l.length l (fun b hb => h b (List.mem_of_mem_take hb)), List.drop_length]
  rfl

theorem digits_ascii (n : Nat) : ∀ b ∈ Lib.decDigits n, b.toNat < 128 := by
  induction n using Nat.strongRecOn with
  | _ n ih =>
    by_cases h : n < 10
    · rw [Lib.decDigits_one h]
      intro b hb
      simp at hb
      subst hb
      simp [UInt8.toNat_ofNat']; omega
    · rw [dd n h]
      intro b hb
      rcases List.mem_append.1 hb with hb | hb
      · exact ih (n / 10) (by omega) b hb
      · simp at hb
        subst hb
        simp [UInt8.toNat_ofNat']; omega

theorem hexC_ascii (n : Nat) (h : n < 16) : (hexC n).toNat < 128 := by
  unfold hexC
  split <;> (simp [UInt8.toNat_ofNat']; omega)

theorem apos_app (a b : List UInt8) : aposB (a ++ b) = aposB a ++ aposB b := by simp [aposB]
theorem apos_plain {l : List UInt8} (h : ∀ c ∈ l, c ≠ 39) : aposB l = l := by
  induction l with
  | nil => rfl
  | cons c l ih =>
    rw [apos_cons, if_neg (h c (by simp)), ih fun x hx => h x (by simp [hx])]
    rfl

theorem apos_valid : ∀ (n : Nat) (l : List UInt8), l.length ≤ n → validD l = true → validD (aposB l) = true := by
  intro n
  induction n with
  | zero =>
    intro l h _
    have : l = [] := List.length_eq_zero_iff.1 (by omega)
    subst this; rfl
  | succ n ih =>
    intro l hn h
    by_cases hne : l = []
    · subst hne; rfl
    · obtain ⟨hv, hd⟩ := valid_head hne h
      rcases head_cases l hne hv with ⟨c, t, rfl, hc, e⟩ | ⟨h2, hle, -, -, hb, hx⟩
      · rw [e] at hd
        rw [apos_cons]
        have h1 : validD (if c = 39 then [39, 39] else [c]) = true := by
          refine valid_ascii fun b hb => ?_
          split at hb
          · simp at hb; subst hb; decide
          · simp at hb; subst hb; exact hc
        rw [validD_app h1]
        exact ih t (by simp at hn; omega) (by simpa using hd)
      · have e1 : aposB l = l.take (decodeL l).2 ++ aposB (l.drop (decodeL l).2) := by
          conv => lhs; rw [← List.take_append_drop (decodeL l).2 l]
          rw [apos_app, apos_plain (fun c hc e => by have := hb c hc; subst e; simp at this)]
        have hne2 : l.take (decodeL l).2 ++ aposB (l.drop (decodeL l).2) ≠ [] := by
          intro e
          have := congrArg List.length e
          rw [List.length_append, List.length_take, List.length_nil] at this
          omega
        have hx := hx (aposB (l.drop (decodeL l).2))
        rw [e1, validD_step _ hne2, hx, if_neg hv]
        have hd2 : (l.take (decodeL l).2 ++ aposB (l.drop (decodeL l).2)).drop (decodeL l).2 = aposB (l.drop (decodeL l).2) := by
          rw [List.drop_append_of_le_length (by rw [List.length_take]; omega), List.drop_eq_nil_of_le (by rw [List.length_take]; omega), List.nil_append]
        rw [hd2]
        exact ih _ (by rw [List.length_drop]; omega) hd

theorem printV0 (i : Int) (s : List UInt8) : printV ⟨0, i, s⟩ = [78, 85, 76, 76] := by simp [printV]
theorem printV1 (i : Int) (s : List UInt8) : printV ⟨1, i, s⟩ = if i = 1 then [84, 82, 85, 69] else [70, 65, 76, 83, 69] := by simp [printV]
theorem printV2 (i : Int) (s : List UInt8) : printV ⟨2, i, s⟩ = Lib.itoa i := by simp [printV]
theorem printV3 (i : Int) (s : List UInt8) : printV ⟨3, i, s⟩ = decB i := by simp [printV]
theorem printV4 (i : Int) (s : List UInt8) : printV ⟨4, i, s⟩ = 39 :: (aposB s ++ [39]) := by simp [printV]
theorem printV5 (i : Int) (s : List UInt8) : printV ⟨5, i, s⟩ = 120 :: 39 :: (hexB s ++ [39]) := by simp [printV]

theorem itoa_ascii (i : Int) : ∀ b ∈ Lib.itoa i, b.toNat < 128 := by
  intro b hb
  unfold Lib.itoa at hb
  split at hb
  · rcases List.mem_cons.1 hb with rfl | hb
    · decide
    · exact digits_ascii _ b hb
  · exact digits_ascii _ b hb
theorem dec_ascii (i : Int) : ∀ b ∈ decB i, b.toNat < 128 := by
  intro b hb
  unfold decB fracB at hb
  simp only [List.mem_append] at hb
  rcases hb with hb | (hb | hb) | hb
  · split at hb
    · rw [List.mem_singleton.1 hb]; decide
    · cases hb
  · exact digits_ascii _ b hb
  · rw [List.mem_singleton.1 hb]; decide
  · exact digits_ascii _ b (List.mem_of_mem_drop hb)
theorem hex_ascii (s : List UInt8) : ∀ b ∈ hexB s, b.toNat < 128 := by
  intro b hb
  unfold hexB at hb
  obtain ⟨a, -, hb⟩ := List.mem_flatMap.1 hb
  simp only [List.mem_cons, List.not_mem_nil, or_false] at hb
  rcases hb with rfl | rfl
  · exact hexC_ascii _ (by have := a.toNat_lt; omega)
  · exact hexC_ascii _ (by omega)

theorem printD_valid (d : Dt) : validD (printD d) = true := by
  unfold printD
  cases hr : rightB d
  · exact validD_nil
  rw [if_pos rfl]
  obtain ⟨k, i, s⟩ := d
  have hc := right_cases hr
  simp only at hc
  rcases hc with ⟨rfl, -, -⟩ | ⟨rfl, -, -⟩ | ⟨rfl | rfl, -⟩ | ⟨rfl | rfl, -, hs⟩
  · rw [printV0]; exact valid_ascii (by decide)
  · rw [printV1]
    split
    · exact valid_ascii (by decide)
    · exact valid_ascii (by decide)
  · rw [printV2]; exact valid_ascii (itoa_ascii i)
  · rw [printV3]; exact valid_ascii (dec_ascii i)
  · have hv : validD s = true := by
      simp [rightB] at hr
      exact hr.2
    rw [printV4, validD_cons 39 _ (by decide), validD_app (apos_valid _ s (Nat.le_refl _) hv)]
    exact valid_ascii (by decide)
  · rw [printV5, validD_cons 120 _ (by decide), validD_cons 39 _ (by decide), validD_app (valid_ascii (hex_ascii s))]
    exact valid_ascii (by decide)

theorem printR_valid (ds : List Dt) : validD (printR ds) = true := by
  unfold printR
  rw [validD_cons 40 _ (by decide)]
  have key : ∀ l : List Dt, validD (Lib.joinTail [44, 32] (l.map printD)) = true := by
    intro l
    induction l with
    | nil => rfl
    | cons d l ih =>
      have e : Lib.joinTail [44, 32] ((d :: l).map printD) = [44, 32] ++ (printD d ++ Lib.joinTail [44, 32] (l.map printD)) := by simp [Lib.joinTail]
      rw [e, validD_app (by rfl), validD_app (printD_valid d)]
      exact ih
  cases ds with
  | nil => rfl
  | cons d l =>
    rw [List.map_cons, Lib.join_cons, List.append_assoc, validD_app (printD_valid d), validD_app (key l)]
    rfl

/-- One rune further: what is told. -/
theorem nl_rune {l : List UInt8} (hne : l ≠ []) (hv : ¬ ((decodeL l).1 = 65533 ∧ (decodeL l).2 = 1)) :
    ((decodeL l).1 = 92 ∧ nlB l = [92, 92] ++ nlB (l.drop (decodeL l).2)) ∨ ((decodeL l).1 = 10 ∧ nlB l = [92, 110] ++ nlB (l.drop (decodeL l).2)) ∨
    ((decodeL l).1 ≠ 92 ∧ (decodeL l).1 ≠ 10 ∧ nlB l = encodeRune ((decodeL l).1 : Int) ++ nlB (l.drop (decodeL l).2)) := by
  have he := encode_decode l hne hv
  rcases head_cases l hne hv with ⟨c, t, rfl, hc, e⟩ | ⟨h2, hle, hr, -, hb, -⟩
  · rw [e] at he ⊢
    simp only [List.drop_succ_cons, List.drop_zero]
    rw [nlB_cons]
    by_cases h1 : c = 10
    · subst h1
      exact Or.inr (Or.inl ⟨rfl, rfl⟩)
    · by_cases h3 : c = 92
      · subst h3
        exact Or.inl ⟨rfl, rfl⟩
      · refine Or.inr (Or.inr ⟨fun e => h3 (UInt8.toNat_inj.1 e), fun e => h1 (UInt8.toNat_inj.1 e), ?_⟩)
        rw [if_neg h1, if_neg h3, he]
        rfl
  · refine Or.inr (Or.inr ⟨by omega, by omega, ?_⟩)
    rw [he]
    conv => lhs; rw [← List.take_append_drop (decodeL l).2 l]
    rw [nlB_app, nlB_plain (fun c hc => ⟨fun e => by have := hb c hc; subst e; simp at this, fun e => by have := hb c hc; subst e; simp at this⟩)]
end Go.Proofs.YtgdneoajmaeckaaGreatDoor
