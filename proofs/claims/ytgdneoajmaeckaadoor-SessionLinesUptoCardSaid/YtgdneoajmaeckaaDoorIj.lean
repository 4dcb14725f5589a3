/- What is printed tells rows apart. No condition. -/
import Derived.Test.YtgdneoajmaeckaaDoorEs
namespace Go.Proofs.YtgdneoajmaeckaaDoor
open Go.Lib

def valL (l : List UInt8) : Nat := l.foldl (fun n c => n * 10 + (c.toNat - 48)) 0
theorem valL_snoc (l : List UInt8) (c : UInt8) : valL (l ++ [c]) = valL l * 10 + (c.toNat - 48) := by simp [valL]
theorem digit_nat (n : Nat) (h : n < 10) : (UInt8.ofNat (48 + n)).toNat = 48 + n := by simp; omega
theorem valL_dec (n : Nat) : valL (Lib.decDigits n) = n := by
  induction n using Nat.strongRecOn with
  | _ n ih =>
    by_cases h : n < 10
    · rw [Lib.decDigits_one h]
      have := digit_nat n h
      simp only [valL, List.foldl_cons, List.foldl_nil, this]
      omega
    · rw [dd n h, valL_snoc, ih (n / 10) (by omega), digit_nat _ (by omega)]
      omega
theorem dec_inj {m n : Nat} (h : Lib.decDigits m = Lib.decDigits n) : m = n := by rw [← valL_dec m, h, valL_dec]
theorem dec_digit (n : Nat) : ∀ c ∈ Lib.decDigits n, 48 ≤ c.toNat ∧ c.toNat ≤ 57 := by
  induction n using Nat.strongRecOn with
  | _ n ih =>
    intro c hc
    by_cases h : n < 10
    · rw [Lib.decDigits_one h, List.mem_singleton] at hc
      rw [hc, digit_nat n h]
      omega
    · rw [dd n h, List.mem_append, List.mem_singleton] at hc
      rcases hc with hc | hc
      · exact ih (n / 10) (by omega) c hc
      · rw [hc, digit_nat _ (by omega)]
        omega
theorem dec_ne (n : Nat) : Lib.decDigits n ≠ [] := by
  have := Lib.nDigits_pos n
  intro h
  have h2 := Lib.decDigits_length n
  rw [h] at h2
  simp at h2
  omega

/-- Numbers' letters. -/
def NumC (c : UInt8) : Prop := c.toNat = 45 ∨ c.toNat = 46 ∨ (48 ≤ c.toNat ∧ c.toNat ≤ 57)
theorem itoa_chars (i : Int) : ∀ c ∈ Lib.itoa i, c.toNat = 45 ∨ (48 ≤ c.toNat ∧ c.toNat ≤ 57) := by
  intro c hc
  unfold Lib.itoa at hc
  split at hc
  · rcases List.mem_cons.1 hc with rfl | hc
    · exact Or.inl rfl
    · exact Or.inr (dec_digit _ c hc)
  · exact Or.inr (dec_digit _ c hc)
theorem head_digit (n : Nat) : ∃ c r, Lib.decDigits n = c :: r ∧ 48 ≤ c.toNat ∧ c.toNat ≤ 57 := by
  cases h : Lib.decDigits n with
  | nil => exact absurd h (dec_ne n)
  | cons c r => exact ⟨c, r, rfl, dec_digit n c (by rw [h]; simp)⟩
theorem itoa_inj {i j : Int} (h : Lib.itoa i = Lib.itoa j) : i = j := by
  unfold Lib.itoa at h
  split at h <;> split at h
  · have := dec_inj (List.cons.inj h).2
    omega
  · obtain ⟨c, r, hr, h1, h2⟩ := head_digit j.toNat
    rw [hr] at h
    have := (List.cons.inj h).1
    subst this
    simp at h1
  · obtain ⟨c, r, hr, h1, h2⟩ := head_digit i.toNat
    rw [hr] at h
    have := (List.cons.inj h).1
    subst this
    simp at h1
  · have := dec_inj h
    omega
theorem itoa_ne (i : Int) : Lib.itoa i ≠ [] := by
  unfold Lib.itoa
  split
  · simp
  · exact dec_ne _

/-- Two texts of letters of one sort, each with no such letter behind it. -/
theorem split_at (p : UInt8 → Prop) : ∀ {a b X Y : List UInt8}, (∀ c ∈ a, p c) → (∀ c ∈ b, p c) → (∀ c r, X = c :: r → ¬ p c) → (∀ c r, Y = c :: r → ¬ p c) → a ++ X = b ++ Y → a = b ∧ X = Y
  | [], [], _, _, _, _, _, _, h => ⟨rfl, h⟩
  | [], b :: bs, X, Y, _, hb, hX, _, h => absurd (hb b (by simp)) (hX b (bs ++ Y) h)
  | a :: l, [], X, Y, ha, _, _, hY, h => absurd (ha a (by simp)) (hY a (l ++ X) h.symm)
  | a :: l, b :: bs, X, Y, ha, hb, hX, hY, h => by
    have h1 := List.cons.inj h
    obtain ⟨h2, h3⟩ := split_at p (fun c hc => ha c (by simp [hc])) (fun c hc => hb c (by simp [hc])) hX hY h1.2
    exact ⟨by rw [h1.1, h2], h3⟩

theorem frac_cons {m : Nat} (h : m < 10000) : Lib.decDigits (10000 + m) = 49 :: fracB m := by
  unfold fracB
  rw [frac_eq m h]
  rfl
theorem decB_chars (i : Int) : ∀ c ∈ decB i, NumC c := by
  intro c hc
  unfold decB at hc
  simp only [List.mem_append, List.mem_singleton] at hc
  rcases hc with hc | (hc | hc) | hc
  · split at hc
    · simp at hc; subst hc; exact Or.inl rfl
    · cases hc
  · exact Or.inr (Or.inr (dec_digit _ c hc))
  · subst hc; exact Or.inr (Or.inl rfl)
  · refine Or.inr (Or.inr (dec_digit (10000 + i.natAbs % 10000) c ?_))
    rw [frac_cons (by omega)]
    exact List.mem_cons_of_mem _ hc
theorem decB_dot (i : Int) : (46 : UInt8) ∈ decB i := by simp [decB]
theorem decU_inj {m n : Nat} (h : Lib.decDigits (m / 10000) ++ [46] ++ fracB (m % 10000) = Lib.decDigits (n / 10000) ++ [46] ++ fracB (n % 10000)) : m = n := by
  rw [List.append_assoc, List.append_assoc] at h
  obtain ⟨h1, h2⟩ := split_at (fun c => 48 ≤ c.toNat ∧ c.toNat ≤ 57) (dec_digit _) (dec_digit _) (fun c r e => by
    have := (List.cons.inj e).1; subst this; simp) (fun c r e => by have := (List.cons.inj e).1; subst this; simp) h
  have h3 := dec_inj h1
  have h4 : fracB (m % 10000) = fracB (n % 10000) := by simpa using h2
  have h5 : Lib.decDigits (10000 + m % 10000) = Lib.decDigits (10000 + n % 10000) := by rw [frac_cons (by omega), frac_cons (by omega), h4]
  have := dec_inj h5
  omega
theorem decB_inj {i j : Int} (h : decB i = decB j) : i = j := by
  unfold decB at h
  split at h <;> split at h
  · have := decU_inj (List.cons.inj h).2
    omega
  · obtain ⟨c, r, hr, h1, h2⟩ := head_digit (j.natAbs / 10000)
    rw [hr] at h
    have := (List.cons.inj h).1
    subst this
    simp at h1
  · obtain ⟨c, r, hr, h1, h2⟩ := head_digit (i.natAbs / 10000)
    rw [hr] at h
    have := (List.cons.inj h).1
    subst this
    simp at h1
  · have := decU_inj h
    omega

theorem hexC_inj (m n : Nat) (hm : m < 16) (hn : n < 16) (h : hexC m = hexC n) : m = n := by
  have key : ∀ m < 16, ∀ n < 16, hexC m = hexC n → m = n := by decide
  exact key m hm n hn h
theorem hexC_ne (m : Nat) (hm : m < 16) : hexC m ≠ 39 := by
  have key : ∀ m < 16, hexC m ≠ 39 := by decide
  exact key m hm
theorem hexB_inj : ∀ {s t : List UInt8}, hexB s = hexB t → s = t
  | [], [], _ => rfl
  | [], c :: l, h => by rw [hex_cons] at h; simp [hexB] at h
  | c :: l, [], h => by rw [hex_cons] at h; simp [hexB] at h
  | c :: l, d :: m, h => by
    rw [hex_cons, hex_cons] at h
    obtain ⟨h1, h2⟩ := List.cons.inj h
    obtain ⟨h3, h4⟩ := List.cons.inj h2
    have hc := c.toNat_lt
    have hd := d.toNat_lt
    have e1 := hexC_inj _ _ (by omega) (by omega) h1
    have e2 := hexC_inj _ _ (by omega) (by omega) h3
    have e3 : c = d := UInt8.toNat_inj.1 (by omega)
    rw [e3, hexB_inj h4]
theorem hexB_chars : ∀ (s : List UInt8), ∀ c ∈ hexB s, c ≠ 39
  | [], c, h => by simp [hexB] at h
  | d :: l, c, h => by
    rw [hex_cons] at h
    have hd := d.toNat_lt
    rcases List.mem_cons.1 h with rfl | h
    · exact hexC_ne _ (by omega)
    · rcases List.mem_cons.1 h with rfl | h
      · exact hexC_ne _ (by omega)
      · exact hexB_chars l c h

theorem apos_split : ∀ {s t X Y : List UInt8}, (∀ c r, X = c :: r → c ≠ 39) → (∀ c r, Y = c :: r → c ≠ 39) → aposB s ++ 39 :: X = aposB t ++ 39 :: Y → s = t ∧ X = Y
  | [], [], _, _, _, _, h => ⟨rfl, (List.cons.inj h).2⟩
  | [], d :: t, X, Y, hX, hY, h => by
    rw [apos_cons] at h
    by_cases e : d = 39
    · subst e
      rw [if_pos rfl] at h
      have h1 := (List.cons.inj h).2
      exact absurd rfl (hX 39 _ h1)
    · rw [if_neg e] at h
      exact absurd (List.cons.inj h).1.symm e
  | c :: s, [], X, Y, hX, hY, h => by
    rw [apos_cons] at h
    by_cases e : c = 39
    · subst e
      rw [if_pos rfl] at h
      have h1 := (List.cons.inj h).2
      exact absurd rfl (hY 39 _ h1.symm)
    · rw [if_neg e] at h
      exact absurd (List.cons.inj h).1 e
  | c :: s, d :: t, X, Y, hX, hY, h => by
    rw [apos_cons, apos_cons] at h
    by_cases e : c = 39 <;> by_cases g : d = 39
    · subst e; subst g
      rw [if_pos rfl] at h
      have h1 := (List.cons.inj (List.cons.inj h).2).2
      obtain ⟨h2, h3⟩ := apos_split hX hY h1
      exact ⟨by rw [h2], h3⟩
    · rw [if_pos e, if_neg g] at h
      exact absurd (List.cons.inj h).1.symm g
    · rw [if_neg e, if_pos g] at h
      exact absurd (List.cons.inj h).1 e
    · rw [if_neg e, if_neg g] at h
      obtain ⟨h0, h1⟩ := List.cons.inj h
      obtain ⟨h2, h3⟩ := apos_split hX hY h1
      exact ⟨by rw [h0, h2], h3⟩

/-- A value that is shown without an apostrophe. -/
theorem small_chars {d : Dt} (h : rightB d = true) (hk : d.kind ≠ 4) (hk5 : d.kind ≠ 5) : printD d ≠ [] ∧ ∀ c ∈ printD d, c ≠ 44 ∧ c ≠ 41 ∧ c ≠ 39 ∧ c ≠ 120 := by
  have hn : ∀ c : UInt8, NumC c → c ≠ 44 ∧ c ≠ 41 ∧ c ≠ 39 ∧ c ≠ 120 := by
    intro c hc
    unfold NumC at hc
    refine ⟨?_, ?_, ?_, ?_⟩ <;> (intro e; subst e; simp at hc)
  have hp : printD d = printV d := if_pos h
  rw [hp]
  obtain ⟨k, i, s⟩ := d
  rcases right_cases h with ⟨rfl, -, -⟩ | ⟨rfl, h1, -⟩ | ⟨rfl | rfl, -⟩ | ⟨h1 | h1, -, -⟩
  · rw [printV0]; decide
  · rw [printV1]; split <;> decide
  · rw [printV2]
    refine ⟨itoa_ne i, fun c hc => hn c ?_⟩
    rcases itoa_chars i c hc with h | h
    · exact Or.inl h
    · exact Or.inr (Or.inr h)
  · rw [printV3]
    exact ⟨(by intro e; have := decB_dot i; rw [e] at this; cases this), fun c hc => hn c (decB_chars i c hc)⟩
  · exact absurd h1 hk
  · exact absurd h1 hk5

theorem num_not {c : UInt8} (h : NumC c) : c ≠ 78 ∧ c ≠ 84 ∧ c ≠ 70 := by
  unfold NumC at h
  refine ⟨?_, ?_, ?_⟩ <;> (intro e; subst e; simp at h)
theorem itoa_num (i : Int) : ∀ c ∈ Lib.itoa i, NumC c := fun c hc => by
  rcases itoa_chars i c hc with h | h
  · exact Or.inl h
  · exact Or.inr (Or.inr h)

theorem small_inj {d e : Dt} (hd : rightB d = true) (he : rightB e = true) (h4 : d.kind ≠ 4) (h5 : d.kind ≠ 5) (g4 : e.kind ≠ 4) (g5 : e.kind ≠ 5) (h : printD d = printD e) : d = e := by
  rw [show printD d = printV d from if_pos hd, show printD e = printV e from if_pos he] at h
  obtain ⟨k, i, s⟩ := d
  obtain ⟨l, j, t⟩ := e
  have hN : (78 : UInt8) ∈ [78, 85, 76, 76] := by simp
  have hT : (84 : UInt8) ∈ [84, 82, 85, 69] := by simp
  have hF : (70 : UInt8) ∈ [70, 65, 76, 83, 69] := by simp
  rcases right_cases hd with ⟨rfl, hi, hs⟩ | ⟨rfl, hi, hs⟩ | ⟨rfl | rfl, hs⟩ | ⟨h1 | h1, -, -⟩ <;> (try exact absurd h1 h4) <;> (try exact absurd h1 h5) <;>
    rcases right_cases he with ⟨rfl, hj, ht⟩ | ⟨rfl, hj, ht⟩ | ⟨rfl | rfl, ht⟩ | ⟨h2 | h2, -, -⟩ <;> (try exact absurd h2 g4) <;> (try exact absurd h2 g5) <;>
    simp only [printV0, printV1, printV2, printV3] at h <;> simp only at hs ht <;> subst hs <;> subst ht
  · simp only at hi hj; rw [hi, hj]
  · split at h <;> simp at h
  · rw [h] at hN; exact absurd rfl (num_not (itoa_num _ _ hN)).1
  · rw [h] at hN; exact absurd rfl (num_not (decB_chars _ _ hN)).1
  · split at h <;> simp at h
  · simp only at hi hj
    rcases hi with rfl | rfl <;> rcases hj with rfl | rfl <;> first | rfl | (simp at h)
  · split at h
    · rw [h] at hT; exact absurd rfl (num_not (itoa_num _ _ hT)).2.1
    · rw [h] at hF; exact absurd rfl (num_not (itoa_num _ _ hF)).2.2
  · split at h
    · rw [h] at hT; exact absurd rfl (num_not (decB_chars _ _ hT)).2.1
    · rw [h] at hF; exact absurd rfl (num_not (decB_chars _ _ hF)).2.2
  · rw [← h] at hN; exact absurd rfl (num_not (itoa_num _ _ hN)).1
  · split at h
    · rw [← h] at hT; exact absurd rfl (num_not (itoa_num _ _ hT)).2.1
    · rw [← h] at hF; exact absurd rfl (num_not (itoa_num _ _ hF)).2.2
  · rw [itoa_inj h]
  · have h3 := decB_dot j
    rw [← h] at h3
    rcases itoa_chars i _ h3 with h3 | h3 <;> simp at h3
  · rw [← h] at hN; exact absurd rfl (num_not (decB_chars _ _ hN)).1
  · split at h
    · rw [← h] at hT; exact absurd rfl (num_not (decB_chars _ _ hT)).2.1
    · rw [← h] at hF; exact absurd rfl (num_not (decB_chars _ _ hF)).2.2
  · have h3 := decB_dot i
    rw [h] at h3
    rcases itoa_chars j _ h3 with h3 | h3 <;> simp at h3
  · rw [decB_inj h]

/-- What stands behind a value in a row. -/
def After (X : List UInt8) : Prop := ∀ c r, X = c :: r → c = 44 ∨ c = 41

theorem str_eq {d : Dt} (h : rightB d = true) (hk : d.kind = 4) : printD d = 39 :: (aposB d.s ++ [39]) ∧ d.i = 0 := by
  obtain ⟨k, i, s⟩ := d
  simp only at hk
  subst hk
  rw [show printD ⟨4, i, s⟩ = printV ⟨4, i, s⟩ from if_pos h]
  refine ⟨printV4 i s, ?_⟩
  rcases right_cases h with ⟨h1, -, -⟩ | ⟨h1, -, -⟩ | ⟨h1 | h1, -⟩ | ⟨-, h2, -⟩ <;> first | exact h2 | (simp at h1)
theorem hex_eq {d : Dt} (h : rightB d = true) (hk : d.kind = 5) : printD d = 120 :: 39 :: (hexB d.s ++ [39]) ∧ d.i = 0 := by
  obtain ⟨k, i, s⟩ := d
  simp only at hk
  subst hk
  rw [show printD ⟨5, i, s⟩ = printV ⟨5, i, s⟩ from if_pos h]
  refine ⟨printV5 i s, ?_⟩
  rcases right_cases h with ⟨h1, -, -⟩ | ⟨h1, -, -⟩ | ⟨h1 | h1, -⟩ | ⟨-, h2, -⟩ <;> first | exact h2 | (simp at h1)
theorem small_head {d : Dt} (h : rightB d = true) (h4 : d.kind ≠ 4) (h5 : d.kind ≠ 5) : ∃ c r, printD d = c :: r ∧ c ≠ 39 ∧ c ≠ 120 ∧ c ≠ 41 := by
  obtain ⟨h1, h2⟩ := small_chars h h4 h5
  cases hp : printD d with
  | nil => exact absurd hp h1
  | cons c r =>
    obtain ⟨-, b, c1, c2⟩ := h2 c (by rw [hp]; simp)
    exact ⟨c, r, rfl, c1, c2, b⟩

theorem printD_split {d e : Dt} (hd : rightB d = true) (he : rightB e = true) {X Y : List UInt8} (hX : After X) (hY : After Y) (h : printD d ++ X = printD e ++ Y) : d = e ∧ X = Y := by
  have aX : ∀ c r, X = c :: r → c ≠ 39 := fun c r e => by rcases hX c r e with rfl | rfl <;> decide
  have aY : ∀ c r, Y = c :: r → c ≠ 39 := fun c r e => by rcases hY c r e with rfl | rfl <;> decide
  by_cases d4 : d.kind = 4
  · obtain ⟨p1, z1⟩ := str_eq hd d4
    by_cases e4 : e.kind = 4
    · obtain ⟨p2, z2⟩ := str_eq he e4
      rw [p1, p2] at h
      have h1 : aposB d.s ++ 39 :: X = aposB e.s ++ 39 :: Y := by simpa using h
      obtain ⟨h2, h3⟩ := apos_split aX aY h1
      obtain ⟨k, i, s⟩ := d
      obtain ⟨l, j, t⟩ := e
      simp only at d4 e4 z1 z2 h2
      subst d4 e4 z1 z2 h2
      exact ⟨rfl, h3⟩
    · by_cases e5 : e.kind = 5
      · rw [p1, (hex_eq he e5).1] at h
        exact absurd (List.cons.inj h).1 (by decide)
      · obtain ⟨c, r, hc, n1, n2, -⟩ := small_head he e4 e5
        rw [p1, hc] at h
        exact absurd (List.cons.inj h).1.symm n1
  · by_cases d5 : d.kind = 5
    · obtain ⟨p1, z1⟩ := hex_eq hd d5
      by_cases e4 : e.kind = 4
      · rw [p1, (str_eq he e4).1] at h
        exact absurd (List.cons.inj h).1 (by decide)
      · by_cases e5 : e.kind = 5
        · obtain ⟨p2, z2⟩ := hex_eq he e5
          rw [p1, p2] at h
          have h1 : hexB d.s ++ 39 :: X = hexB e.s ++ 39 :: Y := by simpa using h
          obtain ⟨h2, h3⟩ := split_at (fun c => c ≠ 39) (hexB_chars _) (hexB_chars _) (fun c r e => by have := (List.cons.inj e).1; subst this; simp) (fun c r e => by have := (List.cons.inj e).1; subst this; simp) h1
          have h4 := hexB_inj h2
          obtain ⟨k, i, s⟩ := d
          obtain ⟨l, j, t⟩ := e
          simp only at d5 e5 z1 z2 h4
          subst d5 e5 z1 z2 h4
          exact ⟨rfl, (List.cons.inj h3).2⟩
        · obtain ⟨c, r, hc, n1, n2, -⟩ := small_head he e4 e5
          rw [p1, hc] at h
          exact absurd (List.cons.inj h).1.symm n2
    · obtain ⟨c, r, hc, n1, n2, -⟩ := small_head hd d4 d5
      by_cases e4 : e.kind = 4
      · rw [hc, (str_eq he e4).1] at h
        exact absurd (List.cons.inj h).1 n1
      · by_cases e5 : e.kind = 5
        · rw [hc, (hex_eq he e5).1] at h
          exact absurd (List.cons.inj h).1 n2
        · obtain ⟨h1, h2⟩ := split_at (fun c => c ≠ 44 ∧ c ≠ 41) (fun c hc => ⟨((small_chars hd d4 d5).2 c hc).1, ((small_chars hd d4 d5).2 c hc).2.1⟩) (fun c hc => ⟨((small_chars he e4 e5).2 c hc).1, ((small_chars he e4 e5).2 c hc).2.1⟩)
            (fun c r e => by rcases hX c r e with rfl | rfl <;> simp) (fun c r e => by rcases hY c r e with rfl | rfl <;> simp) h
          exact ⟨small_inj hd he d4 d5 e4 e5 h1, h2⟩

theorem printD_head {d : Dt} (h : rightB d = true) : ∃ c r, printD d = c :: r ∧ c ≠ 41 := by
  by_cases h4 : d.kind = 4
  · exact ⟨_, _, (str_eq h h4).1, by decide⟩
  · by_cases h5 : d.kind = 5
    · exact ⟨_, _, (hex_eq h h5).1, by decide⟩
    · obtain ⟨c, r, hc, -, -, n⟩ := small_head h h4 h5
      exact ⟨c, r, hc, n⟩

def tailR (ds : List Dt) : List UInt8 := Lib.joinTail [44, 32] (ds.map printD) ++ [41]
theorem tailR_cons (d : Dt) (ds : List Dt) : tailR (d :: ds) = 44 :: 32 :: (printD d ++ tailR ds) := by simp [tailR, Lib.joinTail]
theorem tailR_nil : tailR [] = [41] := rfl
theorem after_tail (ds : List Dt) : After (tailR ds) := by
  intro c r h
  cases ds with
  | nil => rw [tailR_nil] at h; exact Or.inr (List.cons.inj h).1.symm
  | cons d ds => rw [tailR_cons] at h; exact Or.inl (List.cons.inj h).1.symm
theorem tailR_inj : ∀ {a b : List Dt}, (∀ d ∈ a, rightB d = true) → (∀ d ∈ b, rightB d = true) → tailR a = tailR b → a = b
  | [], [], _, _, _ => rfl
  | [], e :: b, _, _, h => by rw [tailR_nil, tailR_cons] at h; exact absurd (List.cons.inj h).1 (by decide)
  | d :: a, [], _, _, h => by rw [tailR_nil, tailR_cons] at h; exact absurd (List.cons.inj h).1 (by decide)
  | d :: a, e :: b, ha, hb, h => by
    rw [tailR_cons, tailR_cons] at h
    obtain ⟨h1, h2⟩ := printD_split (ha d (by simp)) (hb e (by simp)) (after_tail a) (after_tail b) (List.cons.inj (List.cons.inj h).2).2
    rw [h1, tailR_inj (fun d hd => ha d (by simp [hd])) (fun d hd => hb d (by simp [hd])) h2]
theorem printR_nil : printR [] = [40, 41] := rfl
theorem printR_cons (d : Dt) (ds : List Dt) : printR (d :: ds) = 40 :: (printD d ++ tailR ds) := by simp [printR, tailR, Lib.join_cons]
theorem printR_inj {a b : List Dt} (ha : ∀ d ∈ a, rightB d = true) (hb : ∀ d ∈ b, rightB d = true) (h : printR a = printR b) : a = b := by
  cases a with
  | nil =>
    cases b with
    | nil => rfl
    | cons e b =>
      rw [printR_nil, printR_cons] at h
      obtain ⟨c, r, hc, n⟩ := printD_head (hb e (by simp))
      rw [hc] at h
      exact absurd (List.cons.inj (List.cons.inj h).2).1.symm n
  | cons d a =>
    cases b with
    | nil =>
      rw [printR_nil, printR_cons] at h
      obtain ⟨c, r, hc, n⟩ := printD_head (ha d (by simp))
      rw [hc] at h
      exact absurd (List.cons.inj (List.cons.inj h).2).1 n
    | cons e b =>
      rw [printR_cons, printR_cons] at h
      obtain ⟨h1, h2⟩ := printD_split (ha d (by simp)) (hb e (by simp)) (after_tail a) (after_tail b) (List.cons.inj h).2
      rw [h1, tailR_inj (fun d hd => ha d (by simp [hd])) (fun d hd => hb d (by simp [hd])) h2]

theorem nlB_inj : ∀ {s t : List UInt8}, nlB s = nlB t → s = t
  | [], [], _ => rfl
  | [], d :: t, h => by rw [nlB_cons] at h; split at h <;> (try split at h) <;> simp [nlB] at h
  | c :: s, [], h => by rw [nlB_cons] at h; split at h <;> (try split at h) <;> simp [nlB] at h
  | c :: s, d :: t, h => by
    rw [nlB_cons, nlB_cons] at h
    by_cases c1 : c = 10 <;> by_cases d1 : d = 10
    · rw [if_pos c1, if_pos d1] at h
      rw [c1, d1, nlB_inj (List.cons.inj (List.cons.inj h).2).2]
    · rw [if_pos c1, if_neg d1] at h
      by_cases d2 : d = 92
      · rw [if_pos d2] at h
        exact absurd (List.cons.inj (List.cons.inj h).2).1 (by decide)
      · rw [if_neg d2] at h
        exact absurd (List.cons.inj h).1.symm d2
    · rw [if_neg c1, if_pos d1] at h
      by_cases c2 : c = 92
      · rw [if_pos c2] at h
        exact absurd (List.cons.inj (List.cons.inj h).2).1 (by decide)
      · rw [if_neg c2] at h
        exact absurd (List.cons.inj h).1 c2
    · rw [if_neg c1, if_neg d1] at h
      by_cases c2 : c = 92 <;> by_cases d2 : d = 92
      · rw [if_pos c2, if_pos d2] at h
        rw [c2, d2, nlB_inj (List.cons.inj (List.cons.inj h).2).2]
      · rw [if_pos c2, if_neg d2] at h
        exact absurd (List.cons.inj h).1.symm d2
      · rw [if_neg c2, if_pos d2] at h
        exact absurd (List.cons.inj h).1 c2
      · rw [if_neg c2, if_neg d2] at h
        obtain ⟨h0, h1⟩ := List.cons.inj h
        rw [h0, nlB_inj h1]
end Go.Proofs.YtgdneoajmaeckaaDoor
