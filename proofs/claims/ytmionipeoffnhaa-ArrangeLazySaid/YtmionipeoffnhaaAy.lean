/- The lazy spine of ArrangeLazy: the plain part, and pieces. No condition but the sizes. -/
import Derived.Test.YtmionipeoffnhaaMc
namespace Go.Proofs.Ytmionipeoffnhaa
open Go.RowKit srt grp

/-- How a spine stands behind k calls that may have made two batches each. -/
structure Gl (key : List Int) (k : Nat) (s : Spn) (all : List upd.El) : Prop where
  inv : Inv key (s.bs.map Bt.l) s.since all
  ke : s.key = key
  k16 : key.length ≤ 16
  since : 0 ≤ s.since
  lt : s.since < s.upper
  up : s.upper ≤ 1099511627777
  n : ∀ u ∈ all, -1099511627776 ≤ u.n ∧ u.n ≤ 1099511627776
  c0 : 0 ≤ s.credit
  c1 : s.credit ≤ 1048576 * (k : Int)
  len : all.length ≤ 100 * k
  few : k ≤ 60
theorem Gd.lazy {key : List Int} {k : Nat} {s : Spn} {all : List upd.El} (h : Gd key k s all) : Gl key k s all := ⟨h.inv, h.ke, h.k16, h.since, h.lt, h.up, h.n, h.c0, h.c1, h.len, h.few⟩
theorem Gl.ok {key : List Int} {k : Nat} {s : Spn} {all : List upd.El} (h : Gl key k s all) : SpOk s := by
  have h0 := massU_le h.n
  have h2 := h.len
  have h3 := h.few
  have h1 : all.length * 1099511627776 ≤ 6000 * 1099511627776 := Nat.mul_le_mul_right _ (by omega)
  have h4 := h.inv.len
  have h5 := h.inv.mass
  have h6 := h.c1
  have h7 := h.since
  have h8 := h.lt
  have h9 := h.up
  have hk := h.k16
  refine ⟨fun b hb => h.inv.ne _ (List.mem_map_of_mem hb), ?_, ?_, h.c0, by omega, by omega, by rw [h.ke]; exact hk⟩
  · show (s.bs.map Bt.l).flatten.length ≤ 8000; omega
  · show massU (s.bs.map Bt.l).flatten ≤ _; omega
theorem Gl.mono {key : List Int} {k k' : Nat} {s : Spn} {all : List upd.El} (h : Gl key k s all) (hk : k ≤ k') (h6 : k' ≤ 60) : Gl key k' s all := by
  have h1 := h.c1
  have h2 := h.len
  exact ⟨h.inv, h.ke, h.k16, h.since, h.lt, h.up, h.n, h.c0, by omega, by omega, h6⟩
theorem Gl.compact {key : List Int} {k : Nat} {s : Spn} {all : List upd.El} {t : Int} (h : Gl key k s all) (ha : askE s t = 0) : Gl key k { s with since := t } all := by
  have h1 := ask_ge ha
  have h2 := h.since
  exact ⟨h.inv.since h1.1, h.ke, h.k16, by show 0 ≤ t; omega, h1.2, h.up, h.n, h.c0, h.c1, h.len, h.few⟩
theorem Gl.fuel {key : List Int} {k : Nat} {s : Spn} {all : List upd.El} (h : Gl key k s all) (n : Int) (hk : k + 1 ≤ 60) : Gl key (k + 1) { s with credit := s.credit + fuelE n } all := by
  have hf : 0 ≤ fuelE n ∧ fuelE n ≤ 1048576 := by unfold fuelE; omega
  have h1 := h.c0
  have h2 := h.c1
  have h3 := h.len
  exact ⟨h.inv, h.ke, h.k16, h.since, h.lt, h.up, h.n, by show 0 ≤ s.credit + fuelE n; omega, by show s.credit + fuelE n ≤ _; omega, by omega, hk⟩
theorem Gl.works {key : List Int} {k : Nat} {s s' : Spn} {all : List upd.El} (h : Gl key k s all) (hw : Works s s') : Gl key k s' all := by
  obtain ⟨h1, h2, h3⟩ := hw.same
  have h4 := hw.inv (all := all) (by rw [h.ke]; exact h.inv)
  have h5 := hw.ok h.ok
  have h6 := hw.credit
  have h7 := h.c1
  exact ⟨by rw [h1, h.ke] at h4; exact h4, h1.trans h.ke, h.k16, by rw [h2]; exact h.since, by rw [h2, h3]; exact h.lt, by rw [h3]; exact h.up, h.n, h5.c0, by omega, h.len, h.few⟩
theorem Gl.zero {key : List Int} {k : Nat} {s : Spn} {all : List upd.El} (h : Gl key k s all) : Gl key k { s with credit := 0 } all :=
  ⟨h.inv, h.ke, h.k16, h.since, h.lt, h.up, h.n, Int.le_refl _, by show (0 : Int) ≤ _; omega, h.len, h.few⟩
theorem work_gl {w : World} {p : Nat} {wb : Option Nat} {key : List Int} {k : Nat} {s : Spn} {all : List upd.El} (h : SpAt w p wb s) (g : Gl key k s all) (hk : k + 1 ≤ 60) (n : Int) :
    Calls Try.prog 43 #[.pointer (some ⟨p, 0, none⟩), .int .i64 n] w fun e w' => (∃ lf : Int, e = .returned (.int .i64 lf)) ∧ ∃ (s' : Spn) (wb' : Option Nat), SpAt w' p wb' s' ∧ Gl key (k + 1) s' all ∧ s'.upper = s.upper ∧ Fr [p] w w' ∧ WbNew w wb wb' := by
  have hc : s.credit ≤ 1000000000 := by have := g.c1; have := g.few; omega
  refine (work_any h g.ok hc n).mono fun e w' ⟨s', wb', lf, he, hf, hw, hk9, hold, hx⟩ => ⟨⟨lf, he⟩, ?_⟩
  have hg := (g.fuel n hk).works hk9
  obtain ⟨h1, h2, h3⟩ := hk9.same
  rcases hx with ⟨-, -, hs⟩ | ⟨i, -, -, -, hs⟩
  · exact ⟨_, wb', hs, hg.zero, h3, hf, hw⟩
  · exact ⟨_, wb', hs, hg, h3, hf, hw⟩
theorem compact_gl {w : World} {p : Nat} {wb : Option Nat} {key : List Int} {k : Nat} {s : Spn} {all : List upd.El} (h : SpAt w p wb s) (g : Gl key k s all) (t : Int) :
    Calls Try.prog 48 #[.pointer (some ⟨p, 0, none⟩), .int .i64 t] w fun e w' => e = .returned (.int .i64 (askE s t)) ∧ ∃ s' : Spn, SpAt w' p wb s' ∧ Gl key k s' all ∧ s'.upper = s.upper ∧ Fr [p] w w' :=
  (compact_any h t).mono fun e w' ⟨he, hx⟩ => ⟨he, by
    rcases hx with ⟨h0, hs, hf⟩ | ⟨-, rfl⟩
    · exact ⟨_, hs, g.compact h0, rfl, hf⟩
    · exact ⟨s, h, g, rfl, Fr.refl _ _⟩⟩
theorem addy {w : World} {p : Nat} {wb : Option Nat} {s : Spn} {l : List upd.El} {a : Option Addr} {c : Nat} {t : Int} (h : SpAt w p wb s) (hl : upd.Cts w (.slice a l.length c) l) (hk : s.key.length ≤ 16) (hb : s.bs.length ≤ 100000) (hn : l.length ≤ 100) (ha : addE s t l = 0) :
    Calls Try.prog 76 #[.pointer (some ⟨p, 0, none⟩), .int .i64 t, .slice a l.length c] w fun e w' => e = .returned (.int .i64 0) ∧ ∃ (b : Bt) (wb' : Option Nat) (va : Option Addr) (vc : Nat), Canon upd.cmpU (b.l.map upd.pr) (fun q => 1 * sumK (l.map upd.pr) q) ∧ b.l.length ≤ l.length ∧ SpAt w' p wb' { s with va := va, vc := vc, upper := t, bs := more s.bs b } ∧ Fr (wbL p wb) w w' ∧ (wb' = wb ∨ ∃ g, wb' = some g ∧ w.heap.size ≤ g) ∧ NewB w.heap.size b :=
  (add_any h hl hk hb (by omega) t).mono fun e w' ⟨he, hx⟩ => by
    rw [ha] at he hx
    rcases hx with ⟨-, hx⟩ | ⟨h9, -⟩
    · exact ⟨he, hx⟩
    · exact absurd rfl h9
theorem addn {w : World} {p : Nat} {wb : Option Nat} {s : Spn} {l : List upd.El} {a : Option Addr} {c : Nat} {t : Int} (h : SpAt w p wb s) (hl : upd.Cts w (.slice a l.length c) l) (hk : s.key.length ≤ 16) (hb : s.bs.length ≤ 100000) (hn : l.length ≤ 100) (ha : addE s t l ≠ 0) :
    Calls Try.prog 76 #[.pointer (some ⟨p, 0, none⟩), .int .i64 t, .slice a l.length c] w fun e w' => e = .returned (.int .i64 (addE s t l)) ∧ Fr [] w w' :=
  (add_any h hl hk hb (by omega) t).mono fun e w' ⟨he, hx⟩ => by
    rcases hx with ⟨h9, -⟩ | ⟨-, hf⟩
    · exact absurd h9 ha
    · exact ⟨he, hf⟩

/-! ### a batch in two -/
def erl (m : Int) (l : List upd.El) : List upd.El := l.filter fun u => decide (u.t < m)
def ltl (m : Int) (l : List upd.El) : List upd.El := l.filter fun u => !decide (u.t < m)
theorem erl_snoc (m : Int) (l : List upd.El) (u : upd.El) : erl m (l ++ [u]) = if u.t < m then erl m l ++ [u] else erl m l := by
  unfold erl; rw [List.filter_append]; by_cases h : u.t < m <;> simp [h]
theorem ltl_snoc (m : Int) (l : List upd.El) (u : upd.El) : ltl m (l ++ [u]) = if u.t < m then ltl m l else ltl m l ++ [u] := by
  unfold ltl; rw [List.filter_append]; by_cases h : u.t < m <;> simp [h]
theorem two_len (m : Int) (l : List upd.El) : (erl m l).length + (ltl m l).length = l.length := by
  induction l with
  | nil => rfl
  | cons e l ih =>
    unfold erl ltl at *
    rw [List.filter_cons, List.filter_cons]
    by_cases h : e.t < m
    · simp only [h, decide_true, if_true, Bool.not_true, Bool.false_eq_true, if_false, List.length_cons]; omega
    · simp only [h, decide_false, if_false, Bool.not_false, Bool.false_eq_true, if_true, List.length_cons]; omega
theorem two_mass (m : Int) (l : List upd.El) : massU (erl m l ++ ltl m l) = massU l := by
  rw [massU_append]
  induction l with
  | nil => rfl
  | cons e l ih =>
    unfold erl ltl massU at *
    rw [List.filter_cons, List.filter_cons]
    by_cases h : e.t < m
    · simp only [h, decide_true, if_true, Bool.not_true, Bool.false_eq_true, if_false, List.map_cons, mass_cons]; omega
    · simp only [h, decide_false, if_false, Bool.not_false, Bool.false_eq_true, if_true, List.map_cons, mass_cons]; omega
theorem two_eqs (m : Int) (l : List upd.El) : Eqs (erl m l ++ ltl m l) l := by
  intro q
  rw [List.map_append, sumK_append]
  induction l with
  | nil => rfl
  | cons e l ih =>
    unfold erl ltl at *
    rw [List.filter_cons, List.filter_cons]
    by_cases h : e.t < m
    · simp only [h, decide_true, if_true, Bool.not_true, Bool.false_eq_true, if_false, List.map_cons, sumK_cons]; omega
    · simp only [h, decide_false, if_false, Bool.not_false, Bool.false_eq_true, if_true, List.map_cons, sumK_cons]; omega
theorem Inv.like {key : List Int} {bs : List (List upd.El)} {since : Int} {a b : List upd.El} (h : Inv key bs since a) (he : Eqs a b) (hm : massU a = massU b) (hl : a.length = b.length) : Inv key bs since b :=
  ⟨h.same.trans (he.same _), h.ne, h.wide, by rw [← hm]; exact h.mass, by rw [← hl]; exact h.len⟩
theorem mayE_mono {key : List Int} {a b a' b' : Int} {u : upd.El} (h : mayE key a b u = 0) (h1 : a' ≤ u.t) (h2 : u.t < b') : mayE key a' b' u = 0 := by
  unfold mayE at *
  split at h
  · cases h
  · rw [if_neg (by omega)]
    exact h
theorem addE_all {s : Spn} {t : Int} {l : List upd.El} (h : addE s t l = 0) : ∀ u ∈ l, mayE s.key s.upper t u = 0 := by
  unfold addE at h
  split at h
  · cases h
  · split at h
    · cases h
    · exact fun u hu => firstE_zero.1 h u hu
theorem addE_mk {s : Spn} {t : Int} {l : List upd.El} (h1 : t ≤ 1099511627777) (h2 : s.upper < t) (h : ∀ u ∈ l, mayE s.key s.upper t u = 0) : addE s t l = 0 := by
  unfold addE
  rw [if_neg (by omega), if_neg (by omega)]
  exact firstE_zero.2 h
theorem addE_early {s : Spn} {t m : Int} {l : List upd.El} (h : addE s t l = 0) (h1 : s.upper < m) (h2 : m ≤ t) : addE s m (erl m l) = 0 := by
  obtain ⟨h3, h4, h5⟩ := addE_ok h
  refine addE_mk (by omega) h1 fun u hu => ?_
  obtain ⟨h6, h7⟩ := List.mem_filter.1 hu
  exact mayE_mono (addE_all h u h6) (h5 u h6).1 (by simpa using h7)
theorem addE_late {s s' : Spn} {t m : Int} {l : List upd.El} (h : addE s t l = 0) (hk : s'.key = s.key) (hu : s'.upper = m) (h2 : m < t) : addE s' t (ltl m l) = 0 := by
  obtain ⟨h3, h4, h5⟩ := addE_ok h
  refine addE_mk h3 (by omega) fun u hu9 => ?_
  obtain ⟨h6, h7⟩ := List.mem_filter.1 hu9
  rw [hk, hu]
  exact mayE_mono (addE_all h u h6) (by simpa using h7) (h5 u h6).2.1
/-- Both pieces, one behind the other. -/
theorem Gl.both {key : List Int} {k : Nat} {s : Spn} {all l : List upd.El} {t m : Int} {b b2 : Bt} {va : Option Addr} {vc : Nat} {bs1 : List Bt} (h : Gl key k s all) (ha : addE s t l = 0) (hl : l.length ≤ 100) (hk : k + 1 ≤ 60)
    (h1 : (bs1 = more s.bs b ∧ Canon upd.cmpU (b.l.map upd.pr) (fun q => 1 * sumK ((erl m l).map upd.pr) q) ∧ b.l.length ≤ (erl m l).length) ∨ (bs1 = s.bs ∧ erl m l = []))
    (hc2 : Canon upd.cmpU (b2.l.map upd.pr) (fun q => 1 * sumK ((ltl m l).map upd.pr) q)) (hb2 : b2.l.length ≤ (ltl m l).length) : Gl key (k + 1) { s with va := va, vc := vc, upper := t, bs := more bs1 b2 } (all ++ l) := by
  obtain ⟨g1, g2, g3⟩ := addE_ok ha
  have h4 := h.lt
  have h5 := h.c1
  have h6 := h.len
  have hw1 : ∀ e ∈ erl m l, ∀ x ∈ key, x < (e.rd.length : Int) := fun e he x hx => by rw [← h.ke] at hx; exact (g3 e (List.mem_filter.1 he).1).2.2.2.2 x hx
  have hw2 : ∀ e ∈ ltl m l, ∀ x ∈ key, x < (e.rd.length : Int) := fun e he x hx => by rw [← h.ke] at hx; exact (g3 e (List.mem_filter.1 he).1).2.2.2.2 x hx
  have hi1 : Inv key (bs1.map Bt.l) s.since (all ++ erl m l) := by
    rcases h1 with ⟨rfl, hc, hb⟩ | ⟨rfl, he⟩
    · rw [more_lists]; exact h.inv.add hc hw1 hb
    · rw [he, List.append_nil]; exact h.inv
  have hi2 : Inv key ((more bs1 b2).map Bt.l) s.since ((all ++ erl m l) ++ ltl m l) := by
    rw [more_lists]; exact hi1.add hc2 hw2 hb2
  have hi3 : Inv key ((more bs1 b2).map Bt.l) s.since (all ++ l) := by
    rw [List.append_assoc] at hi2
    exact hi2.like ((Eqs.refl _).app (two_eqs m l)) (by rw [massU_append, two_mass, massU_append]) (by have := two_len m l; simp only [List.length_append]; omega)
  refine ⟨hi3, h.ke, h.k16, h.since, by show s.since < t; omega, g1, fun u hu => ?_, h.c0, by show s.credit ≤ _; omega, by rw [List.length_append]; omega, hk⟩
  rcases List.mem_append.1 hu with hu | hu
  · exact h.n u hu
  · have := g3 u hu; omega
theorem erl_none {s : Spn} {t m : Int} {l : List upd.El} (h : addE s t l = 0) (h1 : m ≤ s.upper) : erl m l = [] := by
  obtain ⟨-, -, g3⟩ := addE_ok h
  unfold erl
  rw [List.filter_eq_nil_iff]
  intro u hu h9
  have := (g3 u hu).1
  simp at h9
  omega

theorem apart_own {w w' : World} {b1 n e1 s1 : Nat} {v x : Value} {xs : List Value} (h : w.ownsRow b1 e1 s1 v n xs) (hg : w.grownBy w' x.ownBlock) (hd : ∀ r, v.ownBlock = some r → x.ownBlock ≠ some r) : w'.ownsRow b1 e1 s1 v n xs := by
  obtain ⟨h1, h2⟩ := h
  refine ⟨h1, ?_⟩
  rcases h2 with h2 | ⟨g, cap, cur, hv, hb, hh, r⟩
  · exact Or.inl h2
  · have hlt : g < w.heap.size := (Array.getElem?_eq_some_iff.1 hh).1
    refine Or.inr ⟨g, cap, cur, hv, hb, ?_, r⟩
    have hvb : v.ownBlock = some g := by rw [hv]; rfl
    rw [hg.block g hlt (fun e => hd g hvb (by first | exact e | exact e.symm))]
    exact hh
theorem more_len (bs : List Bt) (b : Bt) : (more bs b).length ≤ bs.length + 1 := by unfold more; split <;> simp
def PcR (w3 : World) (l : List upd.El) (m : Int) (a b x : Value) (wr : World) : Prop :=
  ∃ k : Nat, x = .int .i64 (k : Int) ∧ k ≤ l.length ∧ Fr [] w3 wr ∧ wr.ownsRow w3.heap.size 41 3 a (erl m (l.take k)).length (upd.elsC (erl m (l.take k))) ∧ wr.ownsRow w3.heap.size 41 3 b (ltl m (l.take k)).length (upd.elsC (ltl m (l.take k))) ∧ (∀ r, a.ownBlock = some r → b.ownBlock ≠ some r)
def PcPost (w0 w : World) (p : Nat) (wb : Option Nat) (key : List Int) (k : Nat) (s : Spn) (all : List upd.El) (o : OpE) (e : Ending) (w' : World) : Prop :=
  e = .returned (.bool true) ∧ ∃ (s' : Spn) (wb' : Option Nat) (all' : List upd.El), SpAt w' p wb' s' ∧ (∀ g, wb' = some g → w0.heap.size ≤ g) ∧ Fr (wbL p wb) w w' ∧ Gl key (k + 1) s' all' ∧
    Hid ((addE s o.upper o.l = 0 ∧ s'.upper = o.upper ∧ all' = all ++ o.l) ∨ (addE s o.upper o.l ≠ 0 ∧ s'.upper = s.upper ∧ all' = all))
end Go.Proofs.Ytmionipeoffnhaa
