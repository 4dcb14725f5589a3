/- The plain law of a row's bytes: what is written is read, what is read is written. No condition. -/
import Derived.Test.YtpcmibimglkocaaDoorRowd
import Derived.Test.YtpcmibimglkocaaDoorOrd
namespace Go.Proofs.YtpcmibimglkocaaDoor

/-- Eight bytes of a number, the highest first. -/
def bytesN : Nat → Nat → List UInt8
  | 0, _ => []
  | k + 1, n => UInt8.ofNat (n / 256 ^ k) :: bytesN k (n % 256 ^ k)
def eightB (i : Int) : List UInt8 := bytesN 8 (i + 9223372036854775808).toNat

/-- A text's bytes with each 0 told by 0 1. -/
def escB (l : List UInt8) : List UInt8 := l.flatMap fun c => if c = 0 then [0, 1] else [c]

/-- A value's bytes. -/
def encV (d : Dt) : List UInt8 :=
  UInt8.ofNat (d.kind + 1).toNat ::
    (if d.kind = 1 then [UInt8.ofNat d.i.toNat] else if d.kind = 2 ∨ d.kind = 3 then eightB d.i else if d.kind = 4 ∨ d.kind = 5 then escB d.s ++ [0, 0] else [])
def encR (l : List Dt) : List UInt8 := l.flatMap encV

theorem bytesN_len : ∀ k n, (bytesN k n).length = k
  | 0, _ => rfl
  | k + 1, n => by simp [bytesN, bytesN_len k]

theorem natB_append (l m : List UInt8) : natB (l ++ m) = natB l * 256 ^ m.length + natB m := by
  induction m generalizing l with
  | nil => simp [natB]
  | cons c m ih =>
    have h1 := ih (l ++ [c])
    have h2 := ih [c]
    rw [List.append_assoc, List.singleton_append] at h1
    rw [List.singleton_append] at h2
    rw [h1, h2]
    have e1 : natB (l ++ [c]) = natB l * 256 + c.toNat := by unfold natB; rw [List.foldl_append]; rfl
    have e2 : natB [c] = c.toNat := by simp [natB]
    rw [e1, e2, List.length_cons, Nat.pow_succ', Nat.add_mul, Nat.mul_assoc, Nat.add_assoc]

theorem natB_bytesN : ∀ k n, n < 256 ^ k → natB (bytesN k n) = n
  | 0, n, h => by
    have : n = 0 := by simp at h; exact h
    subst this; rfl
  | k + 1, n, h => by
    have hp : 0 < 256 ^ k := Nat.pow_pos (by decide)
    have hq : n / 256 ^ k < 256 := by
      rw [Nat.div_lt_iff_lt_mul hp, Nat.mul_comm]; rwa [Nat.pow_succ] at h
    have := natB_append [UInt8.ofNat (n / 256 ^ k)] (bytesN k (n % 256 ^ k))
    rw [List.singleton_append] at this
    unfold bytesN
    rw [this, bytesN_len, natB_bytesN k _ (Nat.mod_lt _ hp)]
    have e1 : natB [UInt8.ofNat (n / 256 ^ k)] = n / 256 ^ k := by
      simp [natB, UInt8.toNat_ofNat', Nat.mod_eq_of_lt hq]
    rw [e1]
    exact Nat.div_add_mod' n (256 ^ k)

theorem numB_eight {i : Int} (h : fits64 i) : numB (eightB i) = i := by
  obtain ⟨h1, h2⟩ := h
  unfold numB eightB
  rw [natB_bytesN 8 _ (by omega)]
  omega

theorem textB_esc (s r : List UInt8) : textB (escB s ++ 0 :: 0 :: r) = some (s, r) := by
  induction s with
  | nil => exact textB_end r
  | cons c s ih =>
    have hc : escB (c :: s) = (if c = 0 then [0, 1] else [c]) ++ escB s := rfl
    rw [hc]
    by_cases h : c = 0
    · subst h
      rw [if_pos rfl]
      show textB (0 :: 1 :: (escB s ++ 0 :: 0 :: r)) = _
      rw [textB_zero, ih]; rfl
    · rw [if_neg h]
      show textB (c :: (escB s ++ 0 :: 0 :: r)) = _
      rw [textB_char h, ih]; rfl

theorem esc_textB : ∀ (n : Nat) (l : List UInt8), l.length ≤ n → ∀ t r, textB l = some (t, r) → l = escB t ++ 0 :: 0 :: r := by
  intro n
  induction n with
  | zero =>
    intro l h t r ht
    have : l = [] := List.length_eq_zero_iff.1 (by omega)
    subst this
    rw [textB_nil] at ht; cases ht
  | succ n ih =>
    intro l h t r ht
    cases l with
    | nil => rw [textB_nil] at ht; cases ht
    | cons c l =>
      by_cases hc : c = 0
      · subst hc
        cases l with
        | nil => rw [textB_one] at ht; cases ht
        | cons d l =>
          by_cases h0 : d = 0
          · subst h0
            rw [textB_end] at ht
            simp only [Option.some.injEq, Prod.mk.injEq] at ht
            obtain ⟨rfl, rfl⟩ := ht
            rfl
          · by_cases h1 : d = 1
            · subst h1
              rw [textB_zero] at ht
              cases hb : textB l with
              | none => rw [hb] at ht; cases ht
              | some p =>
                rw [hb] at ht
                simp only [Option.map_some, Option.some.injEq, Prod.mk.injEq] at ht
                obtain ⟨rfl, rfl⟩ := ht
                rw [ih l (by simp at h; omega) p.1 p.2 hb]
                rfl
            · rw [textB_bad h0 h1] at ht; cases ht
      · rw [textB_char hc] at ht
        cases hb : textB l with
        | none => rw [hb] at ht; cases ht
        | some p =>
          rw [hb] at ht
          simp only [Option.map_some, Option.some.injEq, Prod.mk.injEq] at ht
          obtain ⟨rfl, rfl⟩ := ht
          rw [ih l (by simp at h; omega) p.1 p.2 hb]
          have hcc : escB (c :: p.1) = (if c = 0 then [0, 1] else [c]) ++ escB p.1 := rfl
          rw [hcc, if_neg hc]
          rfl

theorem right_cases {d : Dt} (h : rightB d = true) :
    (d.kind = 0 ∧ d.i = 0 ∧ d.s = []) ∨ (d.kind = 1 ∧ (d.i = 0 ∨ d.i = 1) ∧ d.s = []) ∨ ((d.kind = 2 ∨ d.kind = 3) ∧ d.s = []) ∨ ((d.kind = 4 ∨ d.kind = 5) ∧ d.i = 0 ∧ d.s.length ≤ 1000) := by
  simp only [rightB, Bool.or_eq_true, Bool.and_eq_true, decide_eq_true_eq, List.isEmpty_iff] at h
  rcases h with (((h | h) | h) | h) | h
  · exact Or.inl ⟨h.1.1, h.1.2, h.2⟩
  · exact Or.inr (Or.inl ⟨h.1.1, h.1.2, h.2⟩)
  · exact Or.inr (Or.inr (Or.inl h))
  · exact Or.inr (Or.inr (Or.inr ⟨Or.inl h.1.1.1, h.1.1.2, h.1.2⟩))
  · exact Or.inr (Or.inr (Or.inr ⟨Or.inr h.1.1, h.1.2, h.2⟩))

theorem valB_enc {d : Dt} (h : rightB d = true) (h64 : fits64 d.i) (r : List UInt8) : valB (encV d ++ r) = some (d, r) := by
  have hc := right_cases h
  obtain ⟨k, i, s⟩ := d
  simp only at hc h64
  rcases hc with ⟨rfl, rfl, rfl⟩ | ⟨rfl, hi, rfl⟩ | ⟨hk, rfl⟩ | ⟨hk, rfl, hs⟩
  · rfl
  · rcases hi with rfl | rfl <;> rfl
  · have hl : (eightB i).length = 8 := bytesN_len 8 _
    have hn := numB_eight h64
    rcases hk with rfl | rfl
    · show valB (3 :: (eightB i ++ r)) = _
      simp [valB, hl, hn]
    · show valB (4 :: (eightB i ++ r)) = _
      simp [valB, hl, hn]
  · have ht := textB_esc s r
    rcases hk with rfl | rfl
    · show valB (5 :: ((escB s ++ [0, 0]) ++ r)) = _
      rw [List.append_assoc]
      simp only [valB]
      have ht' : textB (escB s ++ ([0, 0] ++ r)) = some (s, r) := ht
      rw [ht']
      simp only [show ((5 : UInt8) = 1) = False by simp, show ((5 : UInt8) = 2) = False by simp, show ((5 : UInt8) = 3 ∨ (5 : UInt8) = 4) = False by simp, if_false]
      exact if_pos h
    · show valB (6 :: ((escB s ++ [0, 0]) ++ r)) = _
      rw [List.append_assoc]
      simp only [valB]
      have ht' : textB (escB s ++ ([0, 0] ++ r)) = some (s, r) := ht
      rw [ht']
      simp only [show ((6 : UInt8) = 1) = False by simp, show ((6 : UInt8) = 2) = False by simp, show ((6 : UInt8) = 3 ∨ (6 : UInt8) = 4) = False by simp, if_false]
      exact if_pos h

theorem encV_ne (d : Dt) (r : List UInt8) : encV d ++ r ≠ [] := by simp [encV]

theorem rowD_enc : ∀ (ds : List Dt) (m : Nat), ds.length ≤ m → (∀ d ∈ ds, rightB d = true ∧ fits64 d.i) → rowD m (encR ds) = some ds
  | [], m, _, _ => rowD_nil m
  | d :: ds, m, hm, h => by
    have hd := h d (by simp)
    have hc : encR (d :: ds) = encV d ++ encR ds := rfl
    simp only [List.length_cons] at hm
    rw [hc, rowD_some (encV_ne d _) (valB_enc hd.1 hd.2 _) (by omega), rowD_enc ds (m - 1) (by omega) (fun e he => h e (by simp [he]))]
    rfl

theorem encV_textlen (s : List UInt8) : (escB s).length ≤ 2 * s.length := by
  induction s with
  | nil => simp [escB]
  | cons c s ih =>
    have hc : escB (c :: s) = (if c = 0 then [0, 1] else [c]) ++ escB s := rfl
    rw [hc, List.length_append, List.length_cons]
    split <;> simp <;> omega

theorem encV_len {d : Dt} (h : rightB d = true) : (encV d).length ≤ 2003 := by
  have hc := right_cases h
  unfold encV
  rw [List.length_cons]
  split
  · simp
  · split
    · simp [eightB, bytesN_len]
    · split
      · rename_i h4
        have := encV_textlen d.s
        have hs : d.s.length ≤ 1000 := by
          rcases hc with h | h | h | h
          · omega
          · omega
          · omega
          · exact h.2.2
        simp; omega
      · simp

theorem encR_len : ∀ (ds : List Dt), (∀ d ∈ ds, rightB d = true) → (encR ds).length ≤ 2003 * ds.length
  | [], _ => by simp [encR]
  | d :: ds, h => by
    have hc : encR (d :: ds) = encV d ++ encR ds := rfl
    have := encV_len (h d (by simp))
    have := encR_len ds (fun e he => h e (by simp [he]))
    rw [hc, List.length_append, List.length_cons]
    omega

end Go.Proofs.YtpcmibimglkocaaDoor
