/- Lines, plain: where a text's first line ends, whether a line is too long, what is asked next, and that it does not matter how bytes are cut. No condition. -/
import Derived.Lib.Hide
namespace Go.Proofs.YtgdneoajmaeckaaGreatDoor

/-- The first line and what stands behind it; none: there is no line's end. -/
def cutN : List UInt8 → Option (List UInt8 × List UInt8)
  | [] => none
  | c :: r => if c = 10 then some ([], r) else (cutN r).map fun p => (c :: p.1, p.2)

theorem cutN_len : ∀ {l a r : List UInt8}, cutN l = some (a, r) → a.length + r.length + 1 = l.length
  | [], a, r, h => by cases h
  | c :: l, a, r, h => by
    unfold cutN at h
    by_cases hc : c = 10
    · rw [if_pos hc] at h
      simp only [Option.some.injEq, Prod.mk.injEq] at h
      obtain ⟨rfl, rfl⟩ := h
      simp
    · rw [if_neg hc] at h
      cases hb : cutN l with
      | none => rw [hb] at h; cases h
      | some p =>
        rw [hb] at h
        simp only [Option.map_some, Option.some.injEq, Prod.mk.injEq] at h
        obtain ⟨rfl, rfl⟩ := h
        have := cutN_len (a := p.1) (r := p.2) hb
        simp; omega

theorem cutN_app : ∀ {l a r : List UInt8} (x : List UInt8), cutN l = some (a, r) → cutN (l ++ x) = some (a, r ++ x)
  | [], a, r, x, h => by cases h
  | c :: l, a, r, x, h => by
    unfold cutN at h
    rw [List.cons_append, cutN]
    by_cases hc : c = 10
    · rw [if_pos hc] at h ⊢
      simp only [Option.some.injEq, Prod.mk.injEq] at h
      obtain ⟨rfl, rfl⟩ := h
      rfl
    · rw [if_neg hc] at h ⊢
      cases hb : cutN l with
      | none => rw [hb] at h; cases h
      | some p =>
        rw [hb] at h
        simp only [Option.map_some, Option.some.injEq, Prod.mk.injEq] at h
        obtain ⟨rfl, rfl⟩ := h
        rw [cutN_app (a := p.1) (r := p.2) x hb]
        rfl

theorem cutN_eq : ∀ {l a r : List UInt8}, cutN l = some (a, r) → l = a ++ 10 :: r ∧ ∀ c ∈ a, c ≠ 10
  | [], a, r, h => by cases h
  | c :: l, a, r, h => by
    unfold cutN at h
    by_cases hc : c = 10
    · rw [if_pos hc] at h
      simp only [Option.some.injEq, Prod.mk.injEq] at h
      obtain ⟨rfl, rfl⟩ := h
      subst hc
      exact ⟨rfl, by simp⟩
    · rw [if_neg hc] at h
      cases hb : cutN l with
      | none => rw [hb] at h; cases h
      | some p =>
        rw [hb] at h
        simp only [Option.map_some, Option.some.injEq, Prod.mk.injEq] at h
        obtain ⟨rfl, rfl⟩ := h
        obtain ⟨h1, h2⟩ := cutN_eq (a := p.1) (r := p.2) hb
        exact ⟨by rw [List.cons_append, ← h1], fun x hx => by
          rcases List.mem_cons.1 hx with rfl | hx
          · exact hc
          · exact h2 x hx⟩

theorem cutN_none : ∀ {l : List UInt8}, cutN l = none → ∀ c ∈ l, c ≠ 10
  | [], _ => by simp
  | c :: l, h => by
    unfold cutN at h
    by_cases hc : c = 10
    · rw [if_pos hc] at h; cases h
    · rw [if_neg hc] at h
      intro x hx
      rcases List.mem_cons.1 hx with rfl | hx
      · exact hc
      · exact cutN_none (Option.map_eq_none_iff.1 h) x hx

theorem cutN_of : ∀ (a r : List UInt8), (∀ c ∈ a, c ≠ 10) → cutN (a ++ 10 :: r) = some (a, r)
  | [], r, _ => by simp [cutN]
  | c :: a, r, h => by
    rw [List.cons_append, cutN, if_neg (h c (by simp)), cutN_of a r fun x hx => h x (by simp [hx])]
    rfl
theorem cutN_no : ∀ (a : List UInt8), (∀ c ∈ a, c ≠ 10) → cutN a = none
  | [], _ => rfl
  | c :: a, h => by
    rw [cutN, if_neg (h c (by simp)), cutN_no a fun x hx => h x (by simp [hx])]
    rfl

/-- Is a line there of nothing but blanks, tabs and carriage returns? -/
def blankB (l : List UInt8) : Bool := l.all fun c => c == 32 || c == 9 || c == 13

def STOP : List UInt8 := [83, 84, 79, 80]

/-- What is asked next, in a state, and what is left; n: more than there are bytes. -/
def askN (fed : Bool) : Nat → List UInt8 → Option (List UInt8) × List UInt8
  | 0, l => (none, l)
  | n + 1, l =>
    match cutN l with
    | none => (none, l)
    | some (a, r) => if blankB a then askN fed n r else if fed && !(a == STOP) then (none, l) else (some a, r)
def ask (fed : Bool) (l : List UInt8) : Option (List UInt8) × List UInt8 := askN fed (l.length + 1) l

theorem askN_more (fed : Bool) : ∀ (n m : Nat) (l : List UInt8), l.length < n → l.length < m → askN fed n l = askN fed m l
  | 0, m, l, h, _ => by omega
  | n + 1, 0, l, _, h => by omega
  | n + 1, m + 1, l, h1, h2 => by
    rw [askN, askN]
    cases hc : cutN l with
    | none => rfl
    | some p =>
      obtain ⟨a, r⟩ := p
      have := cutN_len hc
      simp only
      rw [askN_more fed n m r (by omega) (by omega)]

theorem ask_none {fed : Bool} {l : List UInt8} (h : cutN l = none) : ask fed l = (none, l) := by
  rw [ask, askN, h]
theorem ask_blank {fed : Bool} {l a r : List UInt8} (h : cutN l = some (a, r)) (hb : blankB a = true) : ask fed l = ask fed r := by
  rw [ask, askN, h]
  simp only [hb, if_true]
  have := cutN_len h
  exact askN_more fed _ _ r (by omega) (by omega)
theorem ask_line {fed : Bool} {l a r : List UInt8} (h : cutN l = some (a, r)) (hb : blankB a = false) (hf : (fed && !(a == STOP)) = false) : ask fed l = (some a, r) := by
  rw [ask, askN, h]
  simp only [hb, hf]
  rfl
theorem ask_stop {fed : Bool} {l a r : List UInt8} (h : cutN l = some (a, r)) (hb : blankB a = false) (hf : (fed && !(a == STOP)) = true) : ask fed l = (none, l) := by
  rw [ask, askN, h]
  simp only [hb, hf]
  rfl

theorem ask_len (fed : Bool) (l : List UInt8) : (ask fed l).2.length ≤ l.length := by
  have key : ∀ (n : Nat) (l : List UInt8), (askN fed n l).2.length ≤ l.length := by
    intro n
    induction n with
    | zero => intro l; exact Nat.le_refl _
    | succ n ih =>
      intro l
      rw [askN]
      cases hc : cutN l with
      | none => exact Nat.le_refl _
      | some p =>
        obtain ⟨a, r⟩ := p
        have := cutN_len hc
        simp only
        split
        · have := ih r; omega
        · split
          · exact Nat.le_refl _
          · simp only; omega
  exact key _ l

/-- All lines that are asked of a text. -/
def asksN : Nat → List UInt8 → List (List UInt8)
  | 0, _ => []
  | n + 1, l =>
    match cutN l with
    | none => []
    | some (a, r) => if blankB a then asksN n r else a :: asksN n r
def asks (l : List UInt8) : List (List UInt8) := asksN (l.length + 1) l

theorem asksN_more : ∀ (n m : Nat) (l : List UInt8), l.length < n → l.length < m → asksN n l = asksN m l
  | 0, m, l, h, _ => by omega
  | n + 1, 0, l, _, h => by omega
  | n + 1, m + 1, l, h1, h2 => by
    rw [asksN, asksN]
    cases hc : cutN l with
    | none => rfl
    | some p =>
      obtain ⟨a, r⟩ := p
      have := cutN_len hc
      simp only
      rw [asksN_more n m r (by omega) (by omega)]

theorem asks_none {l : List UInt8} (h : cutN l = none) : asks l = [] := by rw [asks, asksN, h]
theorem asks_blank {l a r : List UInt8} (h : cutN l = some (a, r)) (hb : blankB a = true) : asks l = asks r := by
  rw [asks, asksN, h]
  simp only [hb, if_true]
  have := cutN_len h
  exact asksN_more _ _ r (by omega) (by omega)
theorem asks_line {l a r : List UInt8} (h : cutN l = some (a, r)) (hb : blankB a = false) : asks l = a :: asks r := by
  rw [asks, asksN, h]
  simp only [hb]
  have := cutN_len h
  exact congrArg (a :: ·) (asksN_more _ _ r (by omega) (by omega))

/-- One call, then bytes more: what is asked in all stays. -/
theorem asks_ask (x : List UInt8) : ∀ (l : List UInt8), asks (l ++ x) = (match (ask false l).1 with | some a => a :: asks ((ask false l).2 ++ x) | none => asks ((ask false l).2 ++ x)) := by
  have key : ∀ (n : Nat) (l : List UInt8), l.length ≤ n → asks (l ++ x) = (match (ask false l).1 with | some a => a :: asks ((ask false l).2 ++ x) | none => asks ((ask false l).2 ++ x)) := by
    intro n
    induction n with
    | zero =>
      intro l h
      have : l = [] := List.length_eq_zero_iff.1 (by omega)
      subst this
      rw [ask_none (by rfl)]
    | succ n ih =>
      intro l h
      cases hc : cutN l with
      | none => rw [ask_none hc]
      | some p =>
        obtain ⟨a, r⟩ := p
        have hl := cutN_len hc
        have hx := cutN_app x hc
        cases hb : blankB a
        · rw [ask_line hc hb rfl, asks_line hx hb]
        · rw [ask_blank hc hb, asks_blank hx hb, ih r (by omega)]
  exact fun l => key _ l (Nat.le_refl _)

theorem asks_done {l : List UInt8} (h : (ask false l).1 = none) : asks l = [] := by
  have key : ∀ (n : Nat) (l : List UInt8), l.length ≤ n → (ask false l).1 = none → asks l = [] := by
    intro n
    induction n with
    | zero =>
      intro l h _
      have : l = [] := List.length_eq_zero_iff.1 (by omega)
      subst this
      rfl
    | succ n ih =>
      intro l h ha
      cases hc : cutN l with
      | none => exact asks_none hc
      | some p =>
        obtain ⟨a, r⟩ := p
        have hl := cutN_len hc
        cases hb : blankB a
        · rw [ask_line hc hb rfl] at ha; cases ha
        · rw [ask_blank hc hb] at ha
          rw [asks_blank hc hb]
          exact ih r (by omega) ha
  exact key _ l (Nat.le_refl _) h

theorem asks_some {l a : List UInt8} (h : (ask false l).1 = some a) : asks l = a :: asks (ask false l).2 := by
  have := asks_ask [] l
  rw [List.append_nil, List.append_nil, h] at this
  exact this
theorem asks_left {l : List UInt8} (x : List UInt8) (h : (ask false l).1 = none) : asks ((ask false l).2 ++ x) = asks (l ++ x) := by
  have := asks_ask x l
  rw [h] at this
  exact this.symm
theorem asks_more {l a : List UInt8} (x : List UInt8) (h : (ask false l).1 = some a) : asks (l ++ x) = a :: asks ((ask false l).2 ++ x) := by
  have := asks_ask x l
  rw [h] at this
  exact this

theorem asks_len (l : List UInt8) : (asks l).length ≤ l.length ∧ ∀ a ∈ asks l, a ≠ [] ∧ a.length ≤ l.length := by
  have key : ∀ (n : Nat) (l : List UInt8), l.length ≤ n → (asks l).length ≤ l.length ∧ ∀ a ∈ asks l, a ≠ [] ∧ a.length ≤ l.length := by
    intro n
    induction n with
    | zero =>
      intro l h
      have : l = [] := List.length_eq_zero_iff.1 (by omega)
      subst this
      exact ⟨Nat.le_refl _, by intro a ha; cases ha⟩
    | succ n ih =>
      intro l h
      cases hc : cutN l with
      | none => rw [asks_none hc]; exact ⟨Nat.zero_le _, by intro a ha; cases ha⟩
      | some p =>
        obtain ⟨a, r⟩ := p
        have hl := cutN_len hc
        obtain ⟨h1, h2⟩ := ih r (by omega)
        cases hb : blankB a
        · rw [asks_line hc hb]
          refine ⟨by simp; omega, fun x hx => ?_⟩
          rcases List.mem_cons.1 hx with rfl | hx
          · exact ⟨by intro e; subst e; simp [blankB] at hb, by omega⟩
          · exact ⟨(h2 x hx).1, by have := (h2 x hx).2; omega⟩
        · rw [asks_blank hc hb]
          exact ⟨by omega, fun x hx => ⟨(h2 x hx).1, by have := (h2 x hx).2; omega⟩⟩
  exact key _ l (Nat.le_refl _)

/-- Is there a line of more than 4000 bytes? n: how many bytes its beginning has. -/
def longN : Nat → List UInt8 → Bool
  | _, [] => false
  | n, c :: r => decide (4000 < (if c = 10 then 0 else n + 1)) || longN (if c = 10 then 0 else n + 1) r

theorem longN_small : ∀ (n : Nat) (l : List UInt8), n + l.length ≤ 4000 → longN n l = false
  | _, [], _ => rfl
  | n, c :: r, h => by
    simp only [List.length_cons] at h
    rw [longN]
    split
    · rw [longN_small 0 r (by omega)]; simp
    · rw [longN_small (n + 1) r (by omega)]; simp; omega

/-- The pieces between the lines' ends. -/
def segN : List UInt8 → List (List UInt8)
  | [] => [[]]
  | c :: r =>
    if c = 10 then [] :: segN r
    else match segN r with
      | [] => [[c]]
      | a :: t => (c :: a) :: t

theorem segN_ne (l : List UInt8) : segN l ≠ [] := by
  cases l with
  | nil => simp [segN]
  | cons c r =>
    rw [segN]
    split
    · simp
    · split <;> simp

theorem segN_none {l : List UInt8} (h : cutN l = none) : segN l = [l] := by
  induction l with
  | nil => rfl
  | cons c r ih =>
    unfold cutN at h
    by_cases hc : c = 10
    · rw [if_pos hc] at h; cases h
    · rw [if_neg hc] at h
      rw [segN, if_neg hc, ih (Option.map_eq_none_iff.1 h)]
theorem segN_some {l a r : List UInt8} (h : cutN l = some (a, r)) : segN l = a :: segN r := by
  induction l generalizing a with
  | nil => cases h
  | cons c l ih =>
    unfold cutN at h
    by_cases hc : c = 10
    · rw [if_pos hc] at h
      simp only [Option.some.injEq, Prod.mk.injEq] at h
      obtain ⟨rfl, rfl⟩ := h
      rw [segN, if_pos hc]
    · rw [if_neg hc] at h
      cases hb : cutN l with
      | none => rw [hb] at h; cases h
      | some p =>
        rw [hb] at h
        simp only [Option.map_some, Option.some.injEq, Prod.mk.injEq] at h
        obtain ⟨rfl, rfl⟩ := h
        rw [segN, if_neg hc, ih hb]

theorem longN_seg (l : List UInt8) : ∀ n, n ≤ 4000 → longN n l = (match segN l with | [] => false | a :: t => decide (4000 < n + a.length) || t.any fun s => decide (4000 < s.length)) := by
  induction l with
  | nil => intro n hn; simp [longN, segN]; omega
  | cons c r ih =>
    intro n hn
    rw [longN, segN]
    by_cases hc : c = 10
    · rw [if_pos hc, if_pos hc, ih 0 (by omega)]
      have h0 := segN_ne r
      cases hs : segN r with
      | nil => exact absurd hs h0
      | cons a t =>
        simp
        omega
    · rw [if_neg hc, if_neg hc]
      have h0 := segN_ne r
      by_cases hn2 : n + 1 ≤ 4000
      · rw [ih (n + 1) hn2]
        cases hs : segN r with
        | nil => exact absurd hs h0
        | cons a t =>
          simp only [List.length_cons]
          rw [decide_eq_false (p := 4000 < n + 1) (by omega), Bool.false_or, show n + 1 + a.length = n + (a.length + 1) by omega]
      · cases hs : segN r with
        | nil => exact absurd hs h0
        | cons a t =>
          simp only [List.length_cons]
          rw [decide_eq_true (p := 4000 < n + 1) (by omega), decide_eq_true (p := 4000 < n + (a.length + 1)) (by omega)]
          simp

def longB (l : List UInt8) : Bool := longN 0 l
theorem longB_seg (l : List UInt8) : longB l = (segN l).any fun s => decide (4000 < s.length) := by
  have h := longN_seg l 0 (by omega)
  have h0 := segN_ne l
  unfold longB
  rw [h]
  cases hs : segN l with
  | nil => exact absurd hs h0
  | cons a t => simp
end Go.Proofs.YtgdneoajmaeckaaGreatDoor
