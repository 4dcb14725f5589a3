/- The plain part of the arrange laws: masses, what merging keeps. No program in sight. No condition. -/
import Derived.Test.YtmionipeoffnhaaUt
namespace Go.Proofs.Ytmionipeoffnhaa.grp

section
variable {κ : Type}
/-- How much is in a list, whatever its signs. -/
def mass (l : List (κ × Int)) : Nat := (l.map fun p => p.2.natAbs).sum
theorem mass_nil : mass ([] : List (κ × Int)) = 0 := rfl
theorem mass_cons (p : κ × Int) (l : List (κ × Int)) : mass (p :: l) = p.2.natAbs + mass l := by simp [mass]
theorem mass_append (a b : List (κ × Int)) : mass (a ++ b) = mass a + mass b := by simp [mass]
theorem mass_filter (q : κ × Int → Bool) (l : List (κ × Int)) : mass (l.filter q) ≤ mass l := by
  induction l with
  | nil => simp [mass]
  | cons p l ih => rw [List.filter_cons]; split <;> simp only [mass_cons] <;> omega
theorem mass_split (q : κ × Int → Bool) (l : List (κ × Int)) : mass (l.filter q) + mass (l.filter fun x => !q x) = mass l := by
  induction l with
  | nil => rfl
  | cons p l ih =>
    rw [List.filter_cons, List.filter_cons]
    by_cases h : q p = true
    · rw [if_pos h, if_neg (by simp [h]), mass_cons, mass_cons]; omega
    · rw [if_neg h, if_pos (by simpa using h), mass_cons, mass_cons]; omega
theorem mass_le {l : List (κ × Int)} {B : Nat} (h : ∀ p ∈ l, p.2.natAbs ≤ B) : mass l ≤ l.length * B := by
  induction l with
  | nil => simp [mass]
  | cons p l ih =>
    have h1 := ih (fun x hx => h x (by simp [hx]))
    have h2 := h p (by simp)
    rw [mass_cons, List.length_cons, Nat.add_mul, Nat.one_mul]; omega
variable [DecidableEq κ]
theorem sumK_mass (l : List (κ × Int)) (r : κ) : (sumK l r).natAbs ≤ mass l := by
  induction l with
  | nil => simp [sumK_nil]
  | cons p l ih => rw [sumK_cons, mass_cons]; split <;> omega
theorem sumK_filter_eq (l : List (κ × Int)) (k : κ) : sumK (l.filter fun p => decide (p.1 = k)) k = sumK l k := by
  induction l with
  | nil => rfl
  | cons p l ih =>
    rw [List.filter_cons, sumK_cons]
    by_cases h : p.1 = k
    · rw [if_pos (by simpa using h), sumK_cons, ih]
    · rw [if_neg (by simpa using h), ih, if_neg h]; omega
variable {cmp : κ → κ → Int}
theorem Canon.mass_le (G : Strict cmp) : ∀ {os l : List (κ × Int)} {S : κ → Int}, Canon cmp os S → (∀ r, S r = sumK l r) → mass os ≤ mass l := by
  intro os
  induction os with
  | nil => intro l S _ _; simp [mass]
  | cons p os ih =>
    intro l S h hS
    have hp := h.head G
    have h1 := ih (l := l.filter fun x => !decide (x.1 = p.1)) h.tail (fun r => by
      have e1 : (l.filter fun x => !decide (x.1 = p.1)) = l.filter fun x => decide (x.1 ≠ p.1) := by
        congr 1; funext x; by_cases hx : x.1 = p.1 <;> simp [hx]
      rw [e1, sumK_filter_ne]
      by_cases hr : r = p.1
      · subst hr; rw [if_pos rfl, if_pos rfl, hp]; omega
      · rw [if_neg (fun e => hr e.symm), if_neg hr, hS]; omega)
    have h2 := sumK_mass (l.filter fun x => decide (x.1 = p.1)) p.1
    rw [sumK_filter_eq, ← hS, hp] at h2
    have h3 := mass_split (fun x => decide (x.1 = p.1)) l
    rw [mass_cons]
    omega
theorem Canon.src {os l : List (κ × Int)} {S : κ → Int} (G : Strict cmp) (h : Canon cmp os S) (hS : ∀ r, S r = sumK l r) {p : κ × Int} (hp : p ∈ os) : ∃ x ∈ l, x.1 = p.1 := by
  by_cases hx : ∃ x ∈ l, x.1 = p.1
  · exact hx
  · exfalso
    have h1 := h.mem G hp
    rw [hS, sumK_none (fun q hq e => hx ⟨q, hq, e⟩)] at h1
    exact h.nz p hp h1.symm
end
end Go.Proofs.Ytmionipeoffnhaa.grp

namespace Go.Proofs.Ytmionipeoffnhaa
open Go.RowKit srt grp

/-! ### updates that tell the same -/
def Eqs (a b : List upd.El) : Prop := ∀ q, sumK (a.map upd.pr) q = sumK (b.map upd.pr) q
/-- They tell the same from a time on. -/
def SameFrom (s : Int) (a b : List upd.El) : Prop := Eqs (a.map (lt1 s)) (b.map (lt1 s))
/-- Those updates that are at a time or behind it. -/
def frL (l : List upd.El) (t : Int) : List upd.El := l.filter fun e => decide (t ≤ e.t)

theorem lt_push (l : List upd.El) (s : Int) : (l.map (lt1 s)).map upd.pr = push (fun _ => true) (fun q : Int × List Dt => (max q.1 s, q.2)) (l.map upd.pr) := by
  unfold push
  rw [List.filter_eq_self.2 (by simp), List.map_map, List.map_map]
  rfl
theorem fr_push (l : List upd.El) (t : Int) : (frL l t).map upd.pr = push (fun q : Int × List Dt => decide (t ≤ q.1)) (fun q => q) (l.map upd.pr) := by
  unfold push frL
  rw [List.filter_map, List.map_map]
  rfl
theorem Eqs.lt {a b : List upd.El} (h : Eqs a b) (s : Int) : Eqs (a.map (lt1 s)) (b.map (lt1 s)) := fun q => by
  rw [lt_push, lt_push]; exact push_same _ _ h q
theorem Eqs.fr {a b : List upd.El} (h : Eqs a b) (s : Int) : Eqs (frL a s) (frL b s) := fun q => by
  rw [fr_push, fr_push]; exact push_same _ _ h q
theorem Eqs.refl (a : List upd.El) : Eqs a a := fun _ => rfl
theorem Eqs.symm {a b : List upd.El} (h : Eqs a b) : Eqs b a := fun q => (h q).symm
theorem Eqs.trans {a b c : List upd.El} (h : Eqs a b) (k : Eqs b c) : Eqs a c := fun q => (h q).trans (k q)
theorem Eqs.app {a b c d : List upd.El} (h : Eqs a b) (k : Eqs c d) : Eqs (a ++ c) (b ++ d) := fun q => by
  rw [List.map_append, List.map_append, sumK_append, sumK_append, h q, k q]
theorem Eqs.of {a b : List upd.El} (h : a.map upd.pr = b.map upd.pr) : Eqs a b := fun q => by rw [h]
theorem lt_lt (l : List upd.El) {s t : Int} (h : s ≤ t) : (l.map (lt1 s)).map (lt1 t) = l.map (lt1 t) := by
  rw [List.map_map]
  refine List.map_congr_left fun e _ => ?_
  simp only [Function.comp_apply, lt1]
  congr 1
  omega
theorem SameFrom.refl (s : Int) (a : List upd.El) : SameFrom s a a := Eqs.refl _
theorem SameFrom.symm {s : Int} {a b : List upd.El} (h : SameFrom s a b) : SameFrom s b a := Eqs.symm h
theorem SameFrom.trans {s : Int} {a b c : List upd.El} (h : SameFrom s a b) (k : SameFrom s b c) : SameFrom s a c := Eqs.trans h k
theorem SameFrom.app {s : Int} {a b c d : List upd.El} (h : SameFrom s a b) (k : SameFrom s c d) : SameFrom s (a ++ c) (b ++ d) := by
  unfold SameFrom
  rw [List.map_append, List.map_append]
  exact Eqs.app h k
theorem SameFrom.later {s t : Int} {a b : List upd.El} (h : SameFrom s a b) (hst : s ≤ t) : SameFrom t a b := by
  have := Eqs.lt h t
  rwa [lt_lt _ hst, lt_lt _ hst] at this
theorem Eqs.same {a b : List upd.El} (h : Eqs a b) (s : Int) : SameFrom s a b := h.lt s
/-- What was brought later tells the same. -/
theorem SameFrom.brought {s : Int} {a b : List upd.El} (h : Eqs a (b.map (lt1 s))) : SameFrom s a b := by
  have := h.lt s
  rwa [lt_lt _ (Int.le_refl s)] at this
theorem SameFrom.at {s t : Int} {a b : List upd.El} (h : SameFrom s a b) (hst : s ≤ t) (r : List Dt) : sumK ((atL a t).map pr) r = sumK ((atL b t).map pr) r := by
  have := at_same h t r
  rwa [at_later _ hst, at_later _ hst] at this
theorem fr_lt (l : List upd.El) {s t : Int} (h : s < t) : (frL (l.map (lt1 s)) t).map upd.pr = (frL l t).map upd.pr := by
  unfold frL
  rw [List.filter_map, List.map_map]
  have e1 : (fun e : upd.El => decide (t ≤ e.t)) ∘ lt1 s = fun e => decide (t ≤ e.t) := by
    funext e
    simp only [Function.comp_apply, lt1]
    exact decide_eq_decide.2 (by omega)
  rw [e1]
  refine List.map_congr_left fun e he => ?_
  have h1 : t ≤ e.t := by simpa using (List.mem_filter.1 he).2
  simp only [Function.comp_apply, lt1, upd.pr, upd.key]
  rw [show max e.t s = e.t by omega]
theorem SameFrom.fr {s t : Int} {a b : List upd.El} (h : SameFrom s a b) (hst : s < t) : Eqs (frL a t) (frL b t) := fun q => by
  have := Eqs.fr h t q
  rwa [fr_lt _ hst, fr_lt _ hst] at this

/-! ### what a spine is to all that was added -/
def massU (l : List upd.El) : Nat := mass (l.map upd.pr)
theorem massU_append (a b : List upd.El) : massU (a ++ b) = massU a + massU b := by unfold massU; rw [List.map_append, mass_append]
theorem massU_lt (l : List upd.El) (s : Int) : massU (l.map (lt1 s)) = massU l := by
  unfold massU mass
  rw [List.map_map, List.map_map, List.map_map]
  rfl
theorem massU_atL (l : List upd.El) (t : Int) : mass ((atL l t).map pr) ≤ massU l := by
  have h := mass_filter (fun x : (Int × List Dt) × Int => decide (x.1.1 ≤ t)) (l.map upd.pr)
  refine Nat.le_trans (Nat.le_of_eq ?_) h
  unfold mass atL
  rw [List.filter_map, List.map_map, List.map_map, List.map_map]
  rfl
theorem massU_frL (l : List upd.El) (t : Int) : massU (frL l t) ≤ massU l := by
  have h := mass_filter (fun x : (Int × List Dt) × Int => decide (t ≤ x.1.1)) (l.map upd.pr)
  refine Nat.le_trans (Nat.le_of_eq ?_) h
  unfold massU mass frL
  rw [List.filter_map, List.map_map, List.map_map]
  rfl
theorem massU_filter (q : upd.El → Bool) (l : List upd.El) : massU (l.filter q) ≤ massU l := by
  unfold massU
  induction l with
  | nil => simp
  | cons e l ih => rw [List.filter_cons]; split <;> simp only [List.map_cons, mass_cons] <;> omega

structure Inv (key : List Int) (bs : List (List upd.El)) (since : Int) (all : List upd.El) : Prop where
  same : SameFrom since bs.flatten all
  ne : ∀ b ∈ bs, b ≠ []
  wide : ∀ e ∈ bs.flatten, ∀ k ∈ key, k < (e.rd.length : Int)
  mass : massU bs.flatten ≤ massU all
  len : bs.flatten.length ≤ all.length

theorem Inv.start (key : List Int) : Inv key [] 0 [] := ⟨SameFrom.refl _ _, by simp, by simp, Nat.le_refl _, Nat.le_refl _⟩
/-- A batch that is what updates come to, at the end. -/
theorem Inv.add {key : List Int} {bs : List (List upd.El)} {since : Int} {all l o : List upd.El} (h : Inv key bs since all) (hc : Canon upd.cmpU (o.map upd.pr) fun q => 1 * sumK (l.map upd.pr) q) (hw : ∀ e ∈ l, ∀ k ∈ key, k < (e.rd.length : Int)) (hl : o.length ≤ l.length) :
    Inv key (if o = [] then bs else bs ++ [o]) since (all ++ l) := by
  have e1 : (if o = [] then bs else bs ++ [o]).flatten = bs.flatten ++ o := by
    split
    · rename_i h1; rw [h1, List.append_nil]
    · rw [List.flatten_append]; simp
  have hs : Eqs o l := fun q => by rw [hc.sum]; omega
  have hm := hc.mass_le upd.cmpUS (l := l.map upd.pr) (fun r => by omega)
  refine ⟨?_, ?_, ?_, ?_, ?_⟩
  · rw [e1]; exact h.same.app (hs.same _)
  · intro b hb
    split at hb
    · exact h.ne b hb
    · rename_i h1
      rcases List.mem_append.1 hb with hb | hb
      · exact h.ne b hb
      · rw [List.mem_singleton.1 hb]; exact h1
  · rw [e1]
    intro e he k hk
    rcases List.mem_append.1 he with he | he
    · exact h.wide e he k hk
    · obtain ⟨x, hx, hxe⟩ := hc.src upd.cmpUS (l := l.map upd.pr) (fun r => by omega) (List.mem_map_of_mem (f := upd.pr) he)
      obtain ⟨e0, h0, rfl⟩ := List.mem_map.1 hx
      have h2 : e0.rd = e.rd := congrArg Prod.snd hxe
      rw [← h2]
      exact hw e0 h0 k hk
  · rw [e1, massU_append, massU_append]
    have := h.mass
    unfold massU at *
    omega
  · rw [e1, List.length_append, List.length_append]
    have := h.len
    omega
/-- Two neighbours made one. -/
theorem Inv.merge {key : List Int} {b1 b2 : List (List upd.El)} {since : Int} {all x y o : List upd.El} (h : Inv key (b1 ++ x :: y :: b2) since all) (hc : Canon upd.cmpU (o.map upd.pr) fun q => 1 * sumK (((x ++ y).map (lt1 since)).map upd.pr) q) (hl : o.length ≤ (x ++ y).length) :
    Inv key (b1 ++ (if o = [] then b2 else o :: b2)) since all := by
  have e1 : (b1 ++ (if o = [] then b2 else o :: b2)).flatten = b1.flatten ++ (o ++ b2.flatten) := by
    rw [List.flatten_append]
    split
    · rename_i h1; rw [h1, List.nil_append]
    · rw [List.flatten_cons]
  have e2 : (b1 ++ x :: y :: b2).flatten = b1.flatten ++ ((x ++ y) ++ b2.flatten) := by
    rw [List.flatten_append, List.flatten_cons, List.flatten_cons, List.append_assoc]
  have hs : SameFrom since o (x ++ y) := SameFrom.brought fun q => by rw [hc.sum]; omega
  have hm := hc.mass_le upd.cmpUS (l := ((x ++ y).map (lt1 since)).map upd.pr) (fun r => by omega)
  have hm2 : massU ((x ++ y).map (lt1 since)) = massU (x ++ y) := massU_lt _ _
  refine ⟨?_, ?_, ?_, ?_, ?_⟩
  · rw [e1]
    refine SameFrom.trans ?_ h.same
    rw [e2]
    exact (SameFrom.refl _ _).app (hs.app (SameFrom.refl _ _))
  · intro b hb
    rcases List.mem_append.1 hb with hb | hb
    · exact h.ne b (List.mem_append.2 (Or.inl hb))
    · split at hb
      · exact h.ne b (List.mem_append.2 (Or.inr (by simp [hb])))
      · rename_i h1
        rcases List.mem_cons.1 hb with rfl | hb
        · exact h1
        · exact h.ne b (List.mem_append.2 (Or.inr (by simp [hb])))
  · rw [e1]
    intro e he k hk
    have hw := h.wide
    rw [e2] at hw
    rcases List.mem_append.1 he with he | he
    · exact hw e (List.mem_append.2 (Or.inl he)) k hk
    · rcases List.mem_append.1 he with he | he
      · obtain ⟨z, hz, hze⟩ := hc.src upd.cmpUS (l := ((x ++ y).map (lt1 since)).map upd.pr) (fun r => by omega) (List.mem_map_of_mem (f := upd.pr) he)
        obtain ⟨e1, h1, rfl⟩ := List.mem_map.1 hz
        obtain ⟨e0, h0, rfl⟩ := List.mem_map.1 h1
        have h2 : e0.rd = e.rd := congrArg Prod.snd hze
        rw [← h2]
        exact hw e0 (List.mem_append.2 (Or.inr (List.mem_append.2 (Or.inl h0)))) k hk
      · exact hw e (List.mem_append.2 (Or.inr (List.mem_append.2 (Or.inr he)))) k hk
  · have := h.mass
    rw [e2, massU_append, massU_append] at this
    rw [e1, massU_append, massU_append]
    unfold massU at *
    omega
  · have := h.len
    rw [e2, List.length_append, List.length_append] at this
    rw [e1, List.length_append, List.length_append]
    omega
theorem Inv.since {key : List Int} {bs : List (List upd.El)} {s t : Int} {all : List upd.El} (h : Inv key bs s all) (hst : s ≤ t) : Inv key bs t all := ⟨h.same.later hst, h.ne, h.wide, h.mass, h.len⟩

/-- Which pair is to be merged. -/
def dueI : List Nat → Option Nat
  | a :: b :: l => if a < 2 * b then some 0 else (dueI (b :: l)).map (· + 1)
  | _ => none
def halvedB : List Nat → Bool
  | a :: b :: l => decide (1 ≤ a) && decide (2 * b ≤ a) && halvedB (b :: l)
  | [a] => decide (1 ≤ a)
  | [] => true
theorem due_halved : ∀ {l : List Nat}, (∀ n ∈ l, 1 ≤ n) → (dueI l = none ↔ halvedB l = true)
  | [], _ => by simp [dueI, halvedB]
  | [a], h => by simp [dueI, halvedB, h a (by simp)]
  | a :: b :: l, h => by
    have ih := due_halved (l := b :: l) (fun n hn => h n (by simp [hn]))
    have ha := h a (by simp)
    unfold dueI halvedB
    by_cases h1 : a < 2 * b
    · rw [if_pos h1]
      simp; omega
    · rw [if_neg h1]
      simp only [Option.map_eq_none_iff, ih, Bool.and_eq_true, decide_eq_true_eq]
      constructor
      · intro h2; exact ⟨⟨ha, by omega⟩, h2⟩
      · intro h2; exact h2.2
theorem halved_sum : ∀ {l : List Nat}, halvedB l = true → 2 ^ l.length ≤ l.sum + 1 ∧ (∀ a, l.head? = some a → 2 ^ l.length ≤ 2 * a)
  | [], _ => by simp
  | [a], h => by
    simp [halvedB] at h
    simp; omega
  | a :: b :: l, h => by
    unfold halvedB at h
    simp only [Bool.and_eq_true, decide_eq_true_eq] at h
    obtain ⟨h1, h2⟩ := halved_sum (l := b :: l) h.2
    have h3 := h2 b rfl
    have e1 : 2 ^ (a :: b :: l).length = 2 * 2 ^ (b :: l).length := by rw [List.length_cons, Nat.pow_succ]; omega
    refine ⟨?_, fun x hx => ?_⟩
    · rw [e1, List.sum_cons]; omega
    · simp only [List.head?_cons, Option.some.injEq] at hx
      subst hx
      rw [e1]; omega
theorem dueI_at : ∀ {l : List Nat} {i : Nat}, dueI l = some i → ∃ a b m x y, l = a ++ x :: y :: b ∧ a.length = i ∧ x < 2 * y ∧ m = 0
  | [], _, h => by simp [dueI] at h
  | [_], _, h => by simp [dueI] at h
  | x :: y :: l, i, h => by
    unfold dueI at h
    by_cases h1 : x < 2 * y
    · rw [if_pos h1] at h
      cases h
      exact ⟨[], l, 0, x, y, rfl, rfl, h1, rfl⟩
    · rw [if_neg h1, Option.map_eq_some_iff] at h
      obtain ⟨j, hj, rfl⟩ := h
      obtain ⟨a, b, m, u, v, e1, e2, e3, e4⟩ := dueI_at hj
      exact ⟨x :: a, b, m, u, v, by rw [e1]; rfl, by simp [e2], e3, e4⟩
end Go.Proofs.Ytmionipeoffnhaa
