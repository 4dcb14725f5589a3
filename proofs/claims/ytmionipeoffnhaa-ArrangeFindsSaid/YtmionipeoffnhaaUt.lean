/- What is there at a time, behind Settle and behind Later: the plain part of ZsetTimes. No program in sight. No condition. -/
import Derived.Test.YtmionipeoffnhaaUl
import Derived.Test.YtmionipeoffnhaaGq
namespace Go.Proofs.Ytmionipeoffnhaa
open Go.RowKit srt grp

/-- A number that can be added up without end. -/
def usm (e : upd.El) : upd.El := { e with n := Int.tmod e.n 1000000 }
def usL (l : List upd.El) : List upd.El := (l.take 60).map usm
theorem usL_len (l : List upd.El) : (usL l).length ≤ 60 := by simp [usL]; omega
/-- The updates between two times. -/
def btw (l : List upd.El) (s t : Int) : List upd.El := l.filter fun e => decide (s < e.t ∧ e.t ≤ t)
theorem btw_len (l : List upd.El) (s t : Int) : (btw l s t).length ≤ l.length := List.length_filter_le _ _
theorem btw_snoc (l : List upd.El) (e : upd.El) (s t : Int) : btw (l ++ [e]) s t = btw l s t ++ if s < e.t ∧ e.t ≤ t then [e] else [] := by
  unfold btw
  rw [List.filter_append]
  congr 1
  by_cases h : s < e.t ∧ e.t ≤ t <;> simp [h]

theorem at_push (l : List upd.El) (t : Int) : (atL l t).map pr = push (fun q : Int × List Dt => decide (q.1 ≤ t)) Prod.snd (l.map upd.pr) := by
  unfold atL push
  rw [List.filter_map, List.map_map, List.map_map]
  rfl
theorem at_same {a b : List upd.El} (h : ∀ q, sumK (a.map upd.pr) q = sumK (b.map upd.pr) q) (t : Int) (r : List Dt) : sumK ((atL a t).map pr) r = sumK ((atL b t).map pr) r := by
  rw [at_push, at_push]; exact push_same _ _ h r
theorem at_later (l : List upd.El) {s t : Int} (h : s ≤ t) : atL (l.map (lt1 s)) t = atL l t := by
  unfold atL
  rw [List.filter_map, List.map_map]
  have e1 : (fun e : upd.El => decide (e.t ≤ t)) ∘ lt1 s = fun e => decide (e.t ≤ t) := by
    funext e
    simp only [Function.comp_apply, lt1]
    exact decide_eq_decide.2 (by omega)
  rw [e1]
  rfl
theorem at_btw (l : List upd.El) {s t : Int} (h : s ≤ t) (r : List Dt) : sumK ((atL l t).map pr) r = sumK ((atL l s ++ (btw l s t).map toC).map pr) r := by
  rw [List.map_append, sumK_append]
  induction l with
  | nil => rfl
  | cons e l ih =>
    have k1 : ∀ u, (atL (e :: l) u).map pr = (if e.t ≤ u then [pr (toC e)] else []) ++ (atL l u).map pr := fun u => by
      unfold atL
      by_cases h1 : e.t ≤ u <;> simp [h1]
    have k2 : ((btw (e :: l) s t).map toC).map pr = (if s < e.t ∧ e.t ≤ t then [pr (toC e)] else []) ++ ((btw l s t).map toC).map pr := by
      unfold btw
      by_cases h1 : s < e.t ∧ e.t ≤ t <;> simp [h1]
    rw [k1, k1, k2, sumK_append, sumK_append, sumK_append, ih]
    by_cases h1 : e.t ≤ s
    · rw [if_pos (show e.t ≤ t by omega), if_pos h1, if_neg (show ¬ (s < e.t ∧ e.t ≤ t) by omega), sumK_nil]; omega
    · by_cases h2 : e.t ≤ t
      · rw [if_pos h2, if_neg h1, if_pos (show s < e.t ∧ e.t ≤ t by omega), sumK_nil]; omega
      · rw [if_neg h2, if_neg h1, if_neg (show ¬ (s < e.t ∧ e.t ≤ t) by omega), sumK_nil]; omega

section
variable {κ : Type} [DecidableEq κ] {cmp : κ → κ → Int}
theorem grp.sumK_bound {l : List (κ × Int)} {B : Nat} (h : ∀ p ∈ l, -(B : Int) ≤ p.2 ∧ p.2 ≤ (B : Int)) (r : κ) : -((l.length * B : Nat) : Int) ≤ sumK l r ∧ sumK l r ≤ ((l.length * B : Nat) : Int) := by
  induction l with
  | nil => simp [sumK_nil]
  | cons e l ih =>
    have h1 := ih (fun x hx => h x (by simp [hx]))
    have h2 := h e (by simp)
    rw [sumK_cons, List.length_cons, Nat.add_mul, Nat.one_mul]
    split <;> omega
end

theorem usm_n (l : List upd.El) : ∀ e ∈ usL l, -1000000 ≤ e.n ∧ e.n ≤ 1000000 := fun e he => by
  obtain ⟨e0, -, rfl⟩ := List.mem_map.1 he
  simp only [usm]
  have h3 := Int.tmod_lt_of_pos e0.n (show (0 : Int) < 1000000 by decide)
  have h4 := Int.lt_tmod_of_pos e0.n (show (0 : Int) < 1000000 by decide)
  omega
theorem us_bound {l : List upd.El} (hl : l.length ≤ 60) (hn : ∀ e ∈ l, -1000000 ≤ e.n ∧ e.n ≤ 1000000) (q : Int × List Dt) : -60000000 ≤ sumK (l.map upd.pr) q ∧ sumK (l.map upd.pr) q ≤ 60000000 := by
  have h := sumK_bound (l := l.map upd.pr) (B := 1000000) (fun p hp => by
    obtain ⟨e, he, rfl⟩ := List.mem_map.1 hp
    exact hn e he) q
  rw [List.length_map] at h
  omega
theorem at_bound {l : List upd.El} (hl : l.length ≤ 60) (hn : ∀ e ∈ l, -1000000 ≤ e.n ∧ e.n ≤ 1000000) (t : Int) (r : List Dt) : -60000000 ≤ sumK ((atL l t).map pr) r ∧ sumK ((atL l t).map pr) r ≤ 60000000 := by
  have h := sumK_bound (l := (atL l t).map pr) (B := 1000000) (fun p hp => by
    obtain ⟨e, he, rfl⟩ := List.mem_map.1 hp
    obtain ⟨e0, h0, rfl⟩ := List.mem_map.1 he
    exact hn e0 (List.mem_filter.1 h0).1) r
  have := atL_len l t
  rw [List.length_map] at h
  omega
theorem later_mem {l : List upd.El} {s : Int} (hn : ∀ e ∈ l, -1000000 ≤ e.n ∧ e.n ≤ 1000000) : ∀ e ∈ l.map (lt1 s), -1000000 ≤ e.n ∧ e.n ≤ 1000000 := fun e he => by
  obtain ⟨e0, h0, rfl⟩ := List.mem_map.1 he
  exact hn e0 h0

/-- Behind Later: nothing ahead of the time, and the times rise. -/
theorem later_times {l la : List upd.El} {s : Int} (n2 : Canon upd.cmpU (la.map upd.pr) fun q => 1 * sumK ((l.map (lt1 s)).map upd.pr) q) : ∀ k, k < la.length → s ≤ (upd.nth la k).t ∧ (0 < k → (upd.nth la (k - 1)).t ≤ (upd.nth la k).t) := by
  intro k hk
  constructor
  · have hm := n2.mem upd.cmpUS (List.mem_map_of_mem (f := upd.pr) (upd.nth_mem hk))
    have hz := n2.nz _ (List.mem_map_of_mem (f := upd.pr) (upd.nth_mem hk))
    by_cases hs : s ≤ (upd.nth la k).t
    · exact hs
    · rw [← hm] at hz
      refine absurd ?_ hz
      rw [sumK_none]
      · rfl
      · intro p hp e
        obtain ⟨e1, h1, rfl⟩ := List.mem_map.1 hp
        obtain ⟨e0, h0, rfl⟩ := List.mem_map.1 h1
        have h2 : max e0.t s = (upd.nth la k).t := congrArg Prod.fst e
        omega
  · intro h0
    have hu := n2.up
    rw [List.pairwise_map] at hu
    have h1 := List.pairwise_iff_getElem.1 hu (k - 1) k (by omega) hk (by omega)
    have g : ∀ (i : Nat) (hi : i < la.length), la[i] = upd.nth la i := fun i hi => by
      have := upd.nth_at hi; rw [List.getElem?_eq_getElem hi] at this; exact Option.some.inj this
    rw [g, g] at h1
    unfold upd.cmpU at h1
    simp only [upd.pr, upd.key] at h1
    unfold cmpI at h1
    split at h1 <;> (repeat' split at h1) <;> omega

/-- What the lists are to one another. -/
theorem times_plain {l se la : List upd.El} {a b c d : List El} {ea : List El} {ag : List upd.El} {s t : Int} (hst : s ≤ t)
    (n1 : Canon upd.cmpU (se.map upd.pr) fun q => 1 * sumK (l.map upd.pr) q) (n2 : Canon upd.cmpU (la.map upd.pr) fun q => 1 * sumK ((l.map (lt1 s)).map upd.pr) q)
    (n3 : Canon cmpR (a.map pr) fun r => 1 * sumK ((atL l t).map pr) r) (n4 : Canon cmpR (b.map pr) fun r => 1 * sumK ((atL se t).map pr) r) (n5 : Canon cmpR (c.map pr) fun r => 1 * sumK ((atL la t).map pr) r)
    (n6 : Canon cmpR (ea.map pr) fun r => 1 * sumK ((atL l s).map pr) r) (n7 : Canon cmpR (d.map pr) fun r => 1 * sumK ((ea ++ (btw l s t).map toC).map pr) r) (n8 : Canon upd.cmpU (ag.map upd.pr) fun q => 1 * sumK (se.map upd.pr) q) :
    a.map pr = b.map pr ∧ a.map pr = c.map pr ∧ a.map pr = d.map pr ∧ ag.map upd.pr = se.map upd.pr := by
  refine ⟨n3.uniq cmpRS (n4.of fun r => ?_), n3.uniq cmpRS (n5.of fun r => ?_), n3.uniq cmpRS (n7.of fun r => ?_), n8.uniq upd.cmpUS (n1.of fun q => ?_)⟩
  · rw [at_same (a := se) (b := l) (fun q => by rw [n1.sum]; omega)]
  · rw [at_same (a := la) (b := l.map (lt1 s)) (fun q => by rw [n2.sum]; omega), at_later l hst]
  · rw [List.map_append, sumK_append, n6.sum, at_btw l hst, List.map_append, sumK_append]; omega
  · rw [n1.sum]; omega
end Go.Proofs.Ytmionipeoffnhaa
