/- The plain part for the oracle's statements: an oracle as four numbers and a list of holds; how that list lies in the map; what is least; frames. No condition. -/
import Derived.Maps.RangeWalk
import Derived.Maps.Ext
import Derived.Maps.OwnSet
import Derived.WalkKit
namespace Go.Proofs.Ytdmhiefjmejfpaa
open Go.RowKit Go.Maps

/-- An oracle: what was told last, what is read, the holds as they were made, how many were made. -/
structure Orc where
  last : Int
  read : Int
  L : List (Int × Int)
  made : Int

def ent (p : Int × Int) : Lit × DataW Unit := (.int .i64 p.1, .lit (.int .i64 p.2))
def mapOf (L : List (Int × Int)) : DataW Unit := .map (L.map ent)
def leastOf (r : Int) (L : List (Int × Int)) : Int := L.foldl (fun m p => min m p.2) r

theorem leastOf_le (L : List (Int × Int)) : ∀ r, leastOf r L ≤ r ∧ (∀ p ∈ L, leastOf r L ≤ p.2) ∧ (leastOf r L = r ∨ ∃ p ∈ L, leastOf r L = p.2) := by
  induction L with
  | nil => intro r; simp [leastOf]
  | cons q L ih =>
    intro r
    obtain ⟨h1, h2, h3⟩ := ih (min r q.2)
    have e : leastOf r (q :: L) = leastOf (min r q.2) L := rfl
    rw [e]
    refine ⟨by omega, ?_, ?_⟩
    · intro p hp
      rcases List.mem_cons.1 hp with rfl | hp
      · omega
      · exact h2 p hp
    · rcases h3 with h3 | ⟨p, hp, h3⟩
      · by_cases hq : r ≤ q.2
        · left; omega
        · right; exact ⟨q, by simp, by omega⟩
      · exact Or.inr ⟨p, by simp [hp], h3⟩

theorem leastOf_uniq {r m : Int} {L : List (Int × Int)} (h1 : m ≤ r) (h2 : ∀ p ∈ L, m ≤ p.2) (h3 : m = r ∨ ∃ p ∈ L, m = p.2) : m = leastOf r L := by
  obtain ⟨a1, a2, a3⟩ := leastOf_le L r
  have hle : leastOf r L ≤ m := by
    rcases h3 with rfl | ⟨p, hp, rfl⟩
    · exact a1
    · exact a2 p hp
  have hge : m ≤ leastOf r L := by
    rcases a3 with e | ⟨p, hp, e⟩
    · omega
    · have := h2 p hp; omega
  omega

/-! ### the map -/
theorem sameKey_int (a b : Int) : (Lit.int .i64 a).sameKey (.int .i64 b) = decide (a = b) := by simp [Lit.sameKey]

theorem mem_of_atKey {L : List (Int × Int)} {x c : Int} (h : ∀ zd, (mapOf L).atKey (.int .i64 x) zd = .lit (.int .i64 c)) : (x, c) ∈ L := by
  have h0 := h .nil
  unfold mapOf DataW.atKey at h0
  simp only at h0
  split at h0
  · rename_i p hp
    have hm := List.mem_of_find?_eq_some hp
    have hs := List.find?_some hp
    obtain ⟨q, hq, rfl⟩ := List.mem_map.1 hm
    simp only [ent, sameKey_int, decide_eq_true_eq] at hs h0
    obtain ⟨q1, q2⟩ := q
    simp only [DataW.lit.injEq, Lit.int.injEq, true_and] at h0
    simp only at hs
    subst hs; subst h0; exact hq
  · cases h0

theorem has_mapOf (L : List (Int × Int)) (k : Int) : Maps.has (mapOf L) (.int .i64 k) = L.any (fun p => decide (p.1 = k)) := by
  simp [mapOf, Maps.has, List.any_map, Function.comp_def, ent, sameKey_int]

theorem size_mapOf (L : List (Int × Int)) : Maps.size (mapOf L) = L.length := by simp [mapOf, Maps.size]

theorem del_mapOf (L : List (Int × Int)) (k : Int) : (mapOf L).del (.int .i64 k) = mapOf (L.filter fun p => !decide (p.1 = k)) := by
  simp only [mapOf, DataW.del, List.filter_map, Function.comp_def, ent, sameKey_int]

theorem filter_all_ne {L : List (Int × Int)} {k : Int} (h : ∀ p ∈ L, p.1 < k) : L.filter (fun p => !decide (p.1 = k)) = L := by
  apply List.filter_eq_self.2
  intro p hp
  have := h p hp
  simp; omega

theorem insert_last {L : List (Int × Int)} {k t : Int} (h : ∀ p ∈ L, p.1 < k) : DataW.insert (ent (k, t)) (L.map ent) = (L ++ [(k, t)]).map ent := by
  induction L with
  | nil => rfl
  | cons q L ih =>
    have hq := h q (by simp)
    have hb : Lit.before (ent (k, t)).1 (ent q).1 = false := by simp [ent, Lit.before]; omega
    simp only [List.map_cons, DataW.insert, hb, List.cons_append, Bool.false_eq_true, if_false]
    rw [ih (fun p hp => h p (by simp [hp]))]

theorem put_new {L : List (Int × Int)} {k t : Int} (h : ∀ p ∈ L, p.1 < k) : (mapOf L).put (.int .i64 k) (.lit (.int .i64 t)) = mapOf (L ++ [(k, t)]) := by
  have e : (mapOf L).put (.int .i64 k) (.lit (.int .i64 t)) = .map (DataW.insert (ent (k, t)) ((L.filter fun p => !decide (p.1 = k)).map ent)) := by
    simp only [mapOf, DataW.put, List.filter_map, Function.comp_def, ent, sameKey_int]
  rw [e, filter_all_ne h, insert_last h]; rfl

def setT (L : List (Int × Int)) (k t : Int) : List (Int × Int) := L.map fun p => if p.1 = k then (p.1, t) else p

theorem setT_none {L : List (Int × Int)} {k t : Int} (h : ∀ p ∈ L, p.1 ≠ k) : setT L k t = L := by
  unfold setT
  conv => rhs; rw [← List.map_id L]
  apply List.map_congr_left
  intro p hp
  simp [h p hp]

theorem insert_mid {L : List (Int × Int)} {k t : Int} (hs : L.Pairwise (fun a b => a.1 < b.1)) (hk : ∃ p ∈ L, p.1 = k) :
    DataW.insert (ent (k, t)) ((L.filter fun p => !decide (p.1 = k)).map ent) = (setT L k t).map ent := by
  induction L with
  | nil => simp at hk
  | cons q L ih =>
    rw [List.pairwise_cons] at hs
    by_cases hq : q.1 = k
    · have hgt : ∀ p ∈ L, k < p.1 := fun p hp => hq ▸ hs.1 p hp
      have hf : L.filter (fun p => !decide (p.1 = k)) = L := by
        apply List.filter_eq_self.2
        intro p hp
        have := hgt p hp
        simp; omega
      have hset : setT (q :: L) k t = (k, t) :: L := by
        have := setT_none (L := L) (k := k) (t := t) (fun p hp => by have := hgt p hp; omega)
        unfold setT at this ⊢
        rw [List.map_cons, this]; simp [hq]
      rw [hset, List.filter_cons]
      simp only [hq, decide_true, Bool.not_true, Bool.false_eq_true, if_false, hf]
      cases L with
      | nil => rfl
      | cons r R =>
        have hr := hgt r (by simp)
        have hb : Lit.before (ent (k, t)).1 (ent r).1 = true := by simp [ent, Lit.before]; omega
        simp only [List.map_cons, DataW.insert, hb, if_true]
    · have hk' : ∃ p ∈ L, p.1 = k := by
        obtain ⟨p, hp, e⟩ := hk
        rcases List.mem_cons.1 hp with rfl | hp
        · exact absurd e hq
        · exact ⟨p, hp, e⟩
      have hlt : q.1 < k := by
        obtain ⟨p, hp, e⟩ := hk'
        have := hs.1 p hp; omega
      have hb : Lit.before (ent (k, t)).1 (ent q).1 = false := by simp [ent, Lit.before]; omega
      have hset : setT (q :: L) k t = q :: setT L k t := by unfold setT; simp [hq]
      rw [hset, List.filter_cons]
      simp only [hq, decide_false, Bool.not_false, if_true, List.map_cons, DataW.insert, hb, Bool.false_eq_true, if_false]
      rw [ih hs.2 hk']

theorem put_old {L : List (Int × Int)} {k t : Int} (hs : L.Pairwise (fun a b => a.1 < b.1)) (hk : ∃ p ∈ L, p.1 = k) : (mapOf L).put (.int .i64 k) (.lit (.int .i64 t)) = mapOf (setT L k t) := by
  have e : (mapOf L).put (.int .i64 k) (.lit (.int .i64 t)) = .map (DataW.insert (ent (k, t)) ((L.filter fun p => !decide (p.1 = k)).map ent)) := by
    simp only [mapOf, DataW.put, List.filter_map, Function.comp_def, ent, sameKey_int]
  rw [e, insert_mid hs hk]; rfl

theorem setT_length (L : List (Int × Int)) (k t : Int) : (setT L k t).length = L.length := by simp [setT]

/-- The time of a hold. -/
def timeOf (L : List (Int × Int)) (k : Int) : Option Int := (L.find? (fun p => decide (p.1 = k))).map (·.2)

theorem atKey_mapOf (L : List (Int × Int)) (k z : Int) : (mapOf L).atKey (.int .i64 k) (.lit (.int .i64 z)) = .lit (.int .i64 ((timeOf L k).getD z)) := by
  have key : ∀ L : List (Int × Int), (L.map ent).find? (fun p => p.1.sameKey (.int .i64 k)) = (L.find? (fun p => decide (p.1 = k))).map ent := by
    intro L
    rw [List.find?_map]
    simp only [Function.comp_def, ent, sameKey_int]
  unfold mapOf timeOf DataW.atKey
  simp only [key]
  cases L.find? (fun p => decide (p.1 = k)) <;> rfl

theorem timeOf_some {L : List (Int × Int)} {k t : Int} (h : timeOf L k = some t) : (k, t) ∈ L := by
  unfold timeOf at h
  rw [Option.map_eq_some_iff] at h
  obtain ⟨p, hp, e⟩ := h
  have h1 := List.mem_of_find?_eq_some hp
  have h2 := List.find?_some hp
  simp at h2
  obtain ⟨a, b⟩ := p
  simp at e h2
  subst h2; subst e; exact h1

theorem any_timeOf (L : List (Int × Int)) (k : Int) : L.any (fun p => decide (p.1 = k)) = (timeOf L k).isSome := by
  unfold timeOf
  rw [Option.isSome_map, Bool.eq_iff_iff]
  simp [List.find?_isSome]

/-! ### frames: blocks of a list alone may have turned -/
structure Fr (S : List Nat) (w w' : World) : Prop where
  os : w'.os = w.os
  tape : w'.tape = w.tape
  output : w'.output = w.output
  size : w.heap.size ≤ w'.heap.size
  block : ∀ k, k < w.heap.size → k ∉ S → w'.heap[k]? = w.heap[k]?

theorem Fr.refl (S : List Nat) (w : World) : Fr S w w := ⟨rfl, rfl, rfl, Nat.le_refl _, fun _ _ _ => rfl⟩
theorem Fr.trans {S : List Nat} {a b c : World} (h : Fr S a b) (k : Fr S b c) : Fr S a c :=
  ⟨k.os.trans h.os, k.tape.trans h.tape, k.output.trans h.output, Nat.le_trans h.size k.size,
    fun i hi hS => (k.block i (Nat.lt_of_lt_of_le hi h.size) hS).trans (h.block i hi hS)⟩
theorem Fr.mono {S T : List Nat} {a b : World} (h : Fr S a b) (hST : ∀ x, x ∈ S → x ∈ T) : Fr T a b :=
  ⟨h.os, h.tape, h.output, h.size, fun i hi hS => h.block i hi (fun hx => hS (hST i hx))⟩
theorem Fr.nil {T : List Nat} {a b : World} (h : Fr [] a b) : Fr T a b := h.mono (by simp)
theorem Fr.grown {a b : World} {row : Option Nat} (h : a.grownBy b row) : Fr row.toList a b :=
  ⟨h.os, h.tape, h.output, h.size, fun i hi hS => h.block i hi (fun e => hS (by simp [← e]))⟩
/-- A block that is newer than the frame's beginning may turn. -/
theorem Fr.fresh {S : List Nat} {a b c : World} {row : Option Nat} (h : Fr S a b) (hg : b.grownBy c row) (hr : ∀ r, row = some r → a.heap.size ≤ r ∨ r ∈ S) : Fr S a c :=
  ⟨hg.os.trans h.os, hg.tape.trans h.tape, hg.output.trans h.output, Nat.le_trans h.size hg.size, fun i hi hS =>
    (hg.block i (Nat.lt_of_lt_of_le hi h.size) (fun e => by rcases hr i e.symm with h1 | h1; omega; exact hS h1)).trans (h.block i hi hS)⟩
theorem Fr.past {S T : List Nat} {a b c : World} (h : Fr S a b) (k : Fr T b c) (hT : ∀ x ∈ T, a.heap.size ≤ x ∨ x ∈ S) : Fr S a c :=
  ⟨k.os.trans h.os, k.tape.trans h.tape, k.output.trans h.output, Nat.le_trans h.size k.size, fun i hi hS =>
    (k.block i (Nat.lt_of_lt_of_le hi h.size) (fun e => by rcases hT i e with h1 | h1; omega; exact hS h1)).trans (h.block i hi hS)⟩
theorem Fr.alloc {S : List Nat} {a b : World} (h : Fr S a b) (o : Obj) : Fr S a (b.alloc o) :=
  h.trans ((Fr.grown (World.grownBy_alloc b o none)).mono (by simp))
theorem Fr.drew {S : List Nat} {a b : World} (h : Fr S a b) : Fr S a b.drew := ⟨h.os, h.tape, h.output, h.size, h.block⟩
theorem Fr.setCell {S : List Nat} {a b : World} (h : Fr S a b) {p : Addr} (hp : p.block ∈ S) (u : Value) : Fr S a (b.setCell p u) :=
  h.trans ⟨rfl, rfl, rfl, by simp [World.setCell], fun k hk hS => Below.heap_setCell _ _ _ _ (fun e => hS (e ▸ hp))⟩
theorem Fr.below {S : List Nat} {B : Nat} {a b : World} (h : Fr S a b) (hB : B ≤ a.heap.size) (hS : ∀ x ∈ S, B ≤ x) : Below B a b :=
  ⟨h.os, h.tape, h.output, h.size, fun k hk => h.block k (by omega) (fun hx => by have := hS k hx; omega)⟩
theorem Fr.heap {S : List Nat} {a b : World} (h : Fr S a b) {k : Nat} {o : Obj} (hk : a.heap[k]? = some o) (hS : k ∉ S) : b.heap[k]? = some o := by
  have hlt : k < a.heap.size := (Array.getElem?_eq_some_iff.1 hk).1
  rw [h.block k hlt hS]; exact hk

end Go.Proofs.Ytdmhiefjmejfpaa
