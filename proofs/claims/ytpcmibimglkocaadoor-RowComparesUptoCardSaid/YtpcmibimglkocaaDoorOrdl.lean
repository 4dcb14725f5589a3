/- The plain law of the order: bytes of rows stand in the order of the rows. No condition but that the rows may be. -/
import Derived.Test.YtpcmibimglkocaaDoorEnc
namespace Go.Proofs.YtpcmibimglkocaaDoor
open Go.Lib

theorem cmpS_cons (a b : UInt8) (r s : List UInt8) : compareBytes (a :: r) (b :: s) = if a < b then -1 else if b < a then 1 else compareBytes r s := rfl
theorem cmpS_same (a : UInt8) (r s : List UInt8) : compareBytes (a :: r) (a :: s) = compareBytes r s := by
  rw [cmpS_cons, if_neg (UInt8.lt_irrefl a), if_neg (UInt8.lt_irrefl a)]

theorem cmpN : ∀ (k m n : Nat) (r s : List UInt8), m < 256 ^ k → n < 256 ^ k →
    compareBytes (bytesN k m ++ r) (bytesN k n ++ s) = if m < n then -1 else if n < m then 1 else compareBytes r s
  | 0, m, n, r, s, hm, hn => by
    have e1 : m = 0 := by simpa using hm
    have e2 : n = 0 := by simpa using hn
    subst e1; subst e2
    simp [bytesN]
  | k + 1, m, n, r, s, hm, hn => by
    have hp : 0 < 256 ^ k := Nat.pow_pos (by decide)
    have hqm : m / 256 ^ k < 256 := by rw [Nat.div_lt_iff_lt_mul hp, Nat.mul_comm]; rwa [Nat.pow_succ] at hm
    have hqn : n / 256 ^ k < 256 := by rw [Nat.div_lt_iff_lt_mul hp, Nat.mul_comm]; rwa [Nat.pow_succ] at hn
    have dm := Nat.div_add_mod m (256 ^ k)
    have dn := Nat.div_add_mod n (256 ^ k)
    have lm := Nat.mod_lt m hp
    have ln := Nat.mod_lt n hp
    have hlt : ∀ a b : Nat, a < 256 → b < 256 → (UInt8.ofNat a < UInt8.ofNat b ↔ a < b) := by
      intro a b ha hb
      rw [UInt8.lt_iff_toNat_lt, UInt8.toNat_ofNat', UInt8.toNat_ofNat', Nat.mod_eq_of_lt ha, Nat.mod_eq_of_lt hb]
    simp only [bytesN, List.cons_append]
    rw [cmpS_cons, cmpN k (m % 256 ^ k) (n % 256 ^ k) r s lm ln]
    simp only [hlt _ _ hqm hqn, hlt _ _ hqn hqm]
    generalize m / 256 ^ k = qm at *
    generalize n / 256 ^ k = qn at *
    generalize m % 256 ^ k = rm at *
    generalize n % 256 ^ k = rn at *
    generalize 256 ^ k = B at *
    rcases Nat.lt_trichotomy qm qn with h | h | h
    · have hle : B * (qm + 1) ≤ B * qn := Nat.mul_le_mul_left B h
      rw [Nat.mul_add, Nat.mul_one] at hle
      rw [if_pos h, if_pos (by omega)]
    · subst h
      rw [if_neg (Nat.lt_irrefl _), if_neg (Nat.lt_irrefl _)]
      have h1 : (rm < rn) = (m < n) := by apply propext; omega
      have h2 : (rn < rm) = (n < m) := by apply propext; omega
      simp only [h1, h2]
    · have hle : B * (qn + 1) ≤ B * qm := Nat.mul_le_mul_left B h
      rw [Nat.mul_add, Nat.mul_one] at hle
      rw [if_neg (by omega), if_pos h, if_neg (by omega), if_pos (by omega)]

theorem esc_cons (c : UInt8) (l : List UInt8) : escB (c :: l) = (if c = 0 then [0, 1] else [c]) ++ escB l := rfl

theorem zero_lt_of_ne {c : UInt8} (h : c ≠ 0) : (0 : UInt8) < c := by
  rw [UInt8.lt_iff_toNat_lt]
  have : c.toNat ≠ 0 := fun e => h (UInt8.toNat_inj.1 e)
  have : (0 : UInt8).toNat = 0 := rfl
  omega

theorem cmpE : ∀ (x y r s : List UInt8), compareBytes (escB x ++ 0 :: 0 :: r) (escB y ++ 0 :: 0 :: s) = if compareBytes x y ≠ 0 then compareBytes x y else compareBytes r s
  | [], [], r, s => by
    show compareBytes (0 :: 0 :: r) (0 :: 0 :: s) = _
    rw [cmpS_same, cmpS_same]; rfl
  | [], c :: y, r, s => by
    rw [esc_cons]
    show compareBytes (0 :: 0 :: r) _ = -1
    by_cases h : c = 0
    · rw [if_pos h]
      show compareBytes (0 :: 0 :: r) (0 :: 1 :: _) = _
      rw [cmpS_same, cmpS_cons]; rfl
    · rw [if_neg h]
      show compareBytes (0 :: 0 :: r) (c :: _) = _
      rw [cmpS_cons, if_pos (zero_lt_of_ne h)]
  | c :: x, [], r, s => by
    rw [esc_cons]
    show compareBytes _ (0 :: 0 :: s) = 1
    by_cases h : c = 0
    · rw [if_pos h]
      show compareBytes (0 :: 1 :: _) (0 :: 0 :: s) = _
      rw [cmpS_same, cmpS_cons]; rfl
    · rw [if_neg h]
      show compareBytes (c :: _) (0 :: 0 :: s) = _
      have h1 := zero_lt_of_ne h
      have h2 : ¬ c < 0 := fun e => absurd (UInt8.lt_trans e h1) (UInt8.lt_irrefl c)
      rw [cmpS_cons, if_neg h2, if_pos h1]
  | c :: x, d :: y, r, s => by
    rw [esc_cons, esc_cons, cmpS_cons]
    have ih := cmpE x y r s
    by_cases hc : c = 0
    · by_cases hd : d = 0
      · subst hc; subst hd
        rw [if_pos rfl]
        show compareBytes (0 :: 1 :: (escB x ++ _)) (0 :: 1 :: (escB y ++ _)) = _
        rw [cmpS_same, cmpS_same, ih, if_neg (UInt8.lt_irrefl 0), if_neg (UInt8.lt_irrefl 0)]
      · subst hc
        rw [if_pos rfl, if_neg hd]
        show compareBytes (0 :: _) (d :: _) = _
        rw [cmpS_cons, if_pos (zero_lt_of_ne hd), if_pos (zero_lt_of_ne hd)]
        rfl
    · by_cases hd : d = 0
      · subst hd
        rw [if_neg hc, if_pos rfl]
        have h1 := zero_lt_of_ne hc
        have h2 : ¬ c < 0 := fun e => absurd (UInt8.lt_trans e h1) (UInt8.lt_irrefl c)
        show compareBytes (c :: _) (0 :: _) = _
        rw [cmpS_cons, if_neg h2, if_pos h1, if_neg h2, if_pos h1]
        rfl
      · rw [if_neg hc, if_neg hd]
        show compareBytes (c :: (escB x ++ _)) (d :: (escB y ++ _)) = _
        rw [cmpS_cons, ih]
        by_cases h1 : c < d
        · simp [h1]
        · by_cases h2 : d < c
          · simp [h1, h2]
          · simp [h1, h2]

theorem kind_cases {d : Dt} (h : rightB d = true) : d.kind = 0 ∨ d.kind = 1 ∨ d.kind = 2 ∨ d.kind = 3 ∨ d.kind = 4 ∨ d.kind = 5 := by
  rcases right_cases h with h | h | h | h
  · exact Or.inl h.1
  · exact Or.inr (Or.inl h.1)
  · rcases h.1 with h | h
    · exact Or.inr (Or.inr (Or.inl h))
    · exact Or.inr (Or.inr (Or.inr (Or.inl h)))
  · rcases h.1 with h | h
    · exact Or.inr (Or.inr (Or.inr (Or.inr (Or.inl h))))
    · exact Or.inr (Or.inr (Or.inr (Or.inr (Or.inr h))))

theorem cmpV_kind {d e : Dt} (hd : rightB d = true) (he : rightB e = true) (hne : d.kind ≠ e.kind) (r s : List UInt8) : compareBytes (encV d ++ r) (encV e ++ s) = cmpI d.kind e.kind := by
  have h1 := kind_cases hd
  have h2 := kind_cases he
  unfold encV
  simp only [List.cons_append]
  rw [cmpS_cons]
  rcases h1 with h1 | h1 | h1 | h1 | h1 | h1 <;> rcases h2 with h2 | h2 | h2 | h2 | h2 | h2 <;> rw [h1, h2] at hne ⊢ <;> first | (exact absurd rfl hne) | rfl

theorem cmpI_zero {d e : Int} (h : d ≠ e) : cmpI d e ≠ 0 := fun h0 => h (cmpI_eq h0)

theorem cmpV {d e : Dt} (hd : rightB d = true) (he : rightB e = true) (fd : fits64 d.i) (fe : fits64 e.i) (r s : List UInt8) :
    compareBytes (encV d ++ r) (encV e ++ s) = if cmpD d e ≠ 0 then cmpD d e else compareBytes r s := by
  by_cases hk : d.kind = e.kind
  · have hkz : cmpI d.kind e.kind = 0 := by rw [hk]; exact cmpI_self _
    have hD : cmpD d e = if cmpI d.i e.i ≠ 0 then cmpI d.i e.i else compareBytes d.s e.s := by
      unfold cmpD; rw [if_neg (by rw [hkz]; simp)]
    rw [hD]
    have hc := right_cases hd
    have hc' := right_cases he
    obtain ⟨k, i, x⟩ := d
    obtain ⟨k', i', x'⟩ := e
    simp only at hk hc hc' fd fe ⊢
    subst hk
    rcases hc with ⟨rfl, rfl, rfl⟩ | ⟨rfl, hi, rfl⟩ | ⟨h3, rfl⟩ | ⟨h3, rfl, -⟩
    · have : i' = 0 ∧ x' = [] := by
        rcases hc' with h | h | h | h
        · exact h.2
        · omega
        · omega
        · omega
      obtain ⟨rfl, rfl⟩ := this
      show compareBytes (1 :: r) (1 :: s) = _
      rw [cmpS_same]; rfl
    · have : (i' = 0 ∨ i' = 1) ∧ x' = [] := by
        rcases hc' with h | h | h | h
        · omega
        · exact h.2
        · omega
        · omega
      obtain ⟨hi', rfl⟩ := this
      rcases hi with rfl | rfl <;> rcases hi' with rfl | rfl
      · show compareBytes (2 :: 0 :: r) (2 :: 0 :: s) = _
        rw [cmpS_same, cmpS_same]; rfl
      · rfl
      · rfl
      · show compareBytes (2 :: 1 :: r) (2 :: 1 :: s) = _
        rw [cmpS_same, cmpS_same]; rfl
    · have : x' = [] := by
        rcases hc' with h | h | h | h
        · omega
        · omega
        · exact h.2
        · omega
      subst this
      have key : compareBytes (eightB i ++ r) (eightB i' ++ s) = if cmpI i i' ≠ 0 then cmpI i i' else compareBytes r s := by
        unfold eightB fits64 at *
        rw [cmpN 8 _ _ r s (by omega) (by omega)]
        unfold cmpI
        rcases Int.lt_trichotomy i i' with h | h | h
        · rw [if_pos (by omega), if_pos h]; rfl
        · subst h; simp
        · have h1 : ¬ i < i' := by omega
          rw [if_neg (by omega), if_pos (by omega), if_neg h1, if_pos h]; rfl
      have hfin : ∀ c : UInt8, compareBytes (c :: (eightB i ++ r)) (c :: (eightB i' ++ s)) = if (if cmpI i i' ≠ 0 then cmpI i i' else compareBytes [] []) ≠ 0 then (if cmpI i i' ≠ 0 then cmpI i i' else compareBytes [] []) else compareBytes r s := by
        intro c
        rw [cmpS_same, key]
        by_cases hz : cmpI i i' = 0
        · simp [hz, compareBytes]
        · simp [hz]
      rcases h3 with rfl | rfl
      · exact hfin 3
      · exact hfin 4
    · have : i' = 0 := by
        rcases hc' with h | h | h | h
        · omega
        · omega
        · omega
        · exact h.2.1
      subst this
      have hfin : ∀ c : UInt8, compareBytes (c :: ((escB x ++ [0, 0]) ++ r)) (c :: ((escB x' ++ [0, 0]) ++ s)) = if (if cmpI 0 0 ≠ 0 then cmpI 0 0 else compareBytes x x') ≠ 0 then (if cmpI 0 0 ≠ 0 then cmpI 0 0 else compareBytes x x') else compareBytes r s := by
        intro c
        rw [cmpS_same, List.append_assoc, List.append_assoc]
        have := cmpE x x' r s
        rw [cmpI_self]
        simpa using this
      rcases h3 with rfl | rfl
      · exact hfin 5
      · exact hfin 6
  · have hkz := cmpI_zero hk
    rw [cmpV_kind hd he hk]
    have hD : cmpD d e = cmpI d.kind e.kind := by unfold cmpD; rw [if_pos hkz]
    rw [hD, if_pos hkz]

theorem cmpR_enc : ∀ (a b : List Dt), (∀ d ∈ a, rightB d = true ∧ fits64 d.i) → (∀ d ∈ b, rightB d = true ∧ fits64 d.i) → compareBytes (encR a) (encR b) = cmpR a b
  | [], [], _, _ => rfl
  | [], _ :: _, _, _ => rfl
  | _ :: _, [], _, _ => rfl
  | d :: a, e :: b, ha, hb => by
    have h1 : encR (d :: a) = encV d ++ encR a := rfl
    have h2 : encR (e :: b) = encV e ++ encR b := rfl
    have hd := ha d (by simp)
    have he := hb e (by simp)
    rw [h1, h2, cmpV hd.1 he.1 hd.2 he.2, cmpR_enc a b (fun x hx => ha x (by simp [hx])) (fun x hx => hb x (by simp [hx]))]
    rfl

end Go.Proofs.YtpcmibimglkocaaDoor
