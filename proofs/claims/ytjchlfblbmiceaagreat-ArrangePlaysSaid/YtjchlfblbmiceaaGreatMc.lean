/- What calls make of a spine. No condition but the sizes. -/
import Derived.Test.YtjchlfblbmiceaaGreatMb
namespace Go.Proofs.YtjchlfblbmiceaaGreat
open Go.RowKit srt grp

theorem ownsRow_frT {w w' : World} {S : List Nat} {base e size n : Nat} {v : Value} {xs : List Value} (h : w.ownsRow base e size v n xs) (f : Fr S w w') (hS : TyB w S) (h1 : e ≠ 73) (h2 : e ≠ 27) : w'.ownsRow base e size v n xs := by
  obtain ⟨h3, h4⟩ := h
  refine ⟨h3, ?_⟩
  rcases h4 with h4 | ⟨g, cap, cur, hv, hg, hh, r⟩
  · exact Or.inl h4
  · exact Or.inr ⟨g, cap, cur, hv, hg, f.heap hh (hS.not hh h1 h2), r⟩

/-- How a spine stands behind k calls. -/
structure Gd (key : List Int) (k : Nat) (s : Spn) (all : List upd.El) : Prop where
  inv : Inv key (s.bs.map Bt.l) s.since all
  ke : s.key = key
  k16 : key.length ≤ 16
  kpos : ∀ x ∈ key, 0 ≤ x
  since : 0 ≤ s.since
  lt : s.since < s.upper
  up : s.upper ≤ 1099511627777
  n : ∀ u ∈ all, -1099511627776 ≤ u.n ∧ u.n ≤ 1099511627776
  c0 : 0 ≤ s.credit
  c1 : s.credit ≤ 1048576 * (k : Int)
  len : all.length ≤ 100 * k
  few : k ≤ 60
  bl : s.bs.length ≤ k

theorem massU_le {l : List upd.El} (h : ∀ u ∈ l, -1099511627776 ≤ u.n ∧ u.n ≤ 1099511627776) : massU l ≤ l.length * 1099511627776 := by
  unfold massU
  have := mass_le (l := l.map upd.pr) (B := 1099511627776) (fun p hp => by
    obtain ⟨e, he, rfl⟩ := List.mem_map.1 hp
    have := h e he
    show e.n.natAbs ≤ _
    omega)
  rwa [List.length_map] at this
theorem Gd.mass {key : List Int} {k : Nat} {s : Spn} {all : List upd.El} (h : Gd key k s all) : massU all ≤ 6597069766656000 := by
  have h1 := massU_le h.n
  have h2 := h.len
  have h3 := h.few
  have h4 : all.length * 1099511627776 ≤ 6000 * 1099511627776 := Nat.mul_le_mul_right _ (by omega)
  omega
theorem Gd.ok {key : List Int} {k : Nat} {s : Spn} {all : List upd.El} (h : Gd key k s all) : SpOk s := by
  have h1 := h.mass
  have h2 := h.len
  have h3 := h.few
  have h4 := h.inv.len
  have h5 := h.inv.mass
  have h6 := h.c1
  have h7 := h.since
  have h8 := h.lt
  have h9 := h.up
  have hk := h.k16
  refine ⟨fun b hb => h.inv.ne _ (List.mem_map_of_mem hb), ?_, ?_, h.c0, by omega, by omega, by rw [h.ke]; exact hk⟩
  · show (s.bs.map Bt.l).flatten.length ≤ 8000; omega
  · show massU (s.bs.map Bt.l).flatten ≤ _; omega
theorem Gd.wide {key : List Int} {k : Nat} {s : Spn} {all : List upd.El} (h : Gd key k s all) : ∀ e ∈ s.fl, ∀ x ∈ s.key, 0 ≤ x ∧ x < (e.rd.length : Int) := fun e he x hx => by
  rw [h.ke] at hx
  exact ⟨h.kpos x hx, h.inv.wide e he x hx⟩
theorem Gd.mono {key : List Int} {k k' : Nat} {s : Spn} {all : List upd.El} (h : Gd key k s all) (hk : k ≤ k') (h6 : k' ≤ 60) : Gd key k' s all := by
  have h1 := h.c1
  have h2 := h.len
  exact ⟨h.inv, h.ke, h.k16, h.kpos, h.since, h.lt, h.up, h.n, h.c0, by omega, by omega, h6, Nat.le_trans h.bl hk⟩
theorem keyOk_of {key : List Int} (h : keyOk key = true) : key.length ≤ 16 ∧ ∀ x ∈ key, 0 ≤ x ∧ x ≤ 999 := by
  unfold keyOk at h
  simp only [Bool.and_eq_true, decide_eq_true_eq, Bool.not_eq_true', List.any_eq_false] at h
  refine ⟨h.1, fun x hx => ?_⟩
  have := h.2 x hx
  simp [keyBad] at this
  omega
theorem Gd.start {key : List Int} (h : keyOk key = true) (a : Option Addr) (c : Nat) : Gd key 0 (spn0 a c key) [] := by
  obtain ⟨h1, h2⟩ := keyOk_of h
  exact ⟨Inv.start key, rfl, h1, fun x hx => (h2 x hx).1, by simp [spn0], by simp [spn0], by simp [spn0], by simp, by simp [spn0], by simp [spn0], by simp, by omega, by simp [spn0]⟩
theorem more_lists (bs : List Bt) (b : Bt) : (more bs b).map Bt.l = if b.l = [] then bs.map Bt.l else bs.map Bt.l ++ [b.l] := by
  unfold more; split <;> simp
theorem addE_ok {s : Spn} {t : Int} {l : List upd.El} (h : addE s t l = 0) : t ≤ 1099511627777 ∧ s.upper < t ∧ ∀ u ∈ l, s.upper ≤ u.t ∧ u.t < t ∧ -1099511627776 ≤ u.n ∧ u.n ≤ 1099511627776 ∧ ∀ k ∈ s.key, k < (u.rd.length : Int) := by
  unfold addE at h
  split at h
  · cases h
  · split at h
    · cases h
    · exact ⟨by omega, by omega, fun u hu => mayE_zero (firstE_zero.1 h u hu)⟩
theorem Gd.add {key : List Int} {k : Nat} {s : Spn} {all l : List upd.El} {t : Int} {b : Bt} {va : Option Addr} {vc : Nat} (h : Gd key k s all) (ha : addE s t l = 0) (hl : l.length ≤ 100) (hk : k + 1 ≤ 60)
    (hc : Canon upd.cmpU (b.l.map upd.pr) (fun q => 1 * sumK (l.map upd.pr) q)) (hb : b.l.length ≤ l.length) : Gd key (k + 1) { s with va := va, vc := vc, upper := t, bs := more s.bs b } (all ++ l) := by
  obtain ⟨h1, h2, h3⟩ := addE_ok ha
  have h4 := h.lt
  have h5 := h.c1
  have h6 := h.len
  refine ⟨?_, h.ke, h.k16, h.kpos, h.since, by show s.since < t; omega, h1, fun u hu => ?_, h.c0, by show s.credit ≤ _; omega, by rw [List.length_append]; omega, hk, ?_⟩
  · show Inv key ((more s.bs b).map Bt.l) s.since _
    rw [more_lists]
    exact h.inv.add hc (fun e he x hx => by rw [← h.ke] at hx; exact (h3 e he).2.2.2.2 x hx) hb
  · rcases List.mem_append.1 hu with hu | hu
    · exact h.n u hu
    · have := h3 u hu; omega
  · show (more s.bs b).length ≤ k + 1
    have h7 := h.bl
    unfold more
    split
    · omega
    · rw [List.length_append]; simp; omega
theorem Gd.compact {key : List Int} {k : Nat} {s : Spn} {all : List upd.El} {t : Int} (h : Gd key k s all) (ha : askE s t = 0) (hk : k + 1 ≤ 60) : Gd key (k + 1) { s with since := t } all := by
  have h1 : s.since ≤ t ∧ t < s.upper := by
    unfold askE at ha
    split at ha
    · cases ha
    · split at ha
      · cases ha
      · omega
  have h2 := h.since
  have h5 := h.c1
  have h6 := h.len
  exact ⟨h.inv.since h1.1, h.ke, h.k16, h.kpos, by show 0 ≤ t; omega, h1.2, h.up, h.n, h.c0, by show s.credit ≤ _; omega, by omega, hk, Nat.le_trans h.bl (by omega)⟩
theorem Works.credit {s0 s : Spn} (h : Works s0 s) : s.credit ≤ s0.credit := by
  induction h with
  | refl => exact Int.le_refl _
  | step _ hm ih =>
    obtain ⟨i, o, -, h1, h2, -⟩ := hm.how
    omega
theorem Gd.fuel {key : List Int} {k : Nat} {s : Spn} {all : List upd.El} (h : Gd key k s all) (n : Int) (hk : k + 1 ≤ 60) : Gd key (k + 1) { s with credit := s.credit + fuelE n } all := by
  have hf : 0 ≤ fuelE n ∧ fuelE n ≤ 1048576 := by unfold fuelE; omega
  have h1 := h.c0
  have h2 := h.c1
  have h3 := h.len
  exact ⟨h.inv, h.ke, h.k16, h.kpos, h.since, h.lt, h.up, h.n, by show 0 ≤ s.credit + fuelE n; omega, by show s.credit + fuelE n ≤ _; omega, by omega, hk, Nat.le_trans h.bl (by omega)⟩
theorem Gd.works {key : List Int} {k : Nat} {s s' : Spn} {all : List upd.El} (h : Gd key k s all) (hw : Works s s') : Gd key k s' all := by
  obtain ⟨h1, h2, h3⟩ := hw.same
  have h4 := hw.inv (all := all) (by rw [h.ke]; exact h.inv)
  have h5 := hw.ok h.ok
  have h6 := hw.credit
  have h7 := h.c1
  refine ⟨by rw [h1, h.ke] at h4; exact h4, h1.trans h.ke, h.k16, h.kpos, by rw [h2]; exact h.since, by rw [h2, h3]; exact h.lt, by rw [h3]; exact h.up, h.n, h5.c0, by omega, h.len, h.few, Nat.le_trans hw.len h.bl⟩
theorem Gd.zero {key : List Int} {k : Nat} {s : Spn} {all : List upd.El} (h : Gd key k s all) : Gd key k { s with credit := 0 } all :=
  ⟨h.inv, h.ke, h.k16, h.kpos, h.since, h.lt, h.up, h.n, Int.le_refl _, by show (0 : Int) ≤ _; omega, h.len, h.few, h.bl⟩

/-- The upper bound and the updates behind calls. -/
def plStep (key : List Int) (st : Int × List upd.El) (o : OpE) : Int × List upd.El :=
  if fewB o = true ∧ o.kind = 1 ∧ addE { spn0 none 0 key with upper := st.1 } o.upper o.l = 0 then (o.upper, st.2 ++ o.l) else st
def plAll (key : List Int) (ops : List OpE) : Int × List upd.El := ops.foldl (plStep key) (1, [])
theorem plAll_snoc (key : List Int) (ops : List OpE) (o : OpE) : plAll key (ops ++ [o]) = plStep key (plAll key ops) o := by unfold plAll; rw [List.foldl_append]; rfl
theorem addE_same {s : Spn} {key : List Int} (hk : s.key = key) (u : Int) (l : List upd.El) : addE { spn0 none 0 key with upper := s.upper } u l = addE s u l := by
  unfold addE
  rw [← hk]
  rfl
theorem plStep_add {key : List Int} {s : Spn} {all : List upd.El} {o : OpE} (hk : s.key = key) (hf : fewB o = true) (h1 : o.kind = 1) (ha : addE s o.upper o.l = 0) : plStep key (s.upper, all) o = (o.upper, all ++ o.l) := by
  unfold plStep
  rw [if_pos ⟨hf, h1, by rw [addE_same hk]; exact ha⟩]
theorem plStep_no {key : List Int} {s : Spn} {all : List upd.El} {o : OpE} (hk : s.key = key) (h : fewB o = false ∨ o.kind ≠ 1 ∨ addE s o.upper o.l ≠ 0) : plStep key (s.upper, all) o = (s.upper, all) := by
  unfold plStep
  rw [if_neg]
  rintro ⟨h1, h2, h3⟩
  rw [addE_same hk] at h3
  rcases h with h | h | h
  · rw [h1] at h; cases h
  · exact h h2
  · exact h h3
end Go.Proofs.YtjchlfblbmiceaaGreat
namespace Go.Proofs.YtjchlfblbmiceaaGreat
open Go.RowKit srt grp

theorem add_yes {w : World} {p : Nat} {wb : Option Nat} {key : List Int} {k : Nat} {s : Spn} {all l : List upd.El} {a : Option Addr} {c : Nat} {t : Int} (h : SpAt w p wb s) (hl : upd.Cts w (.slice a l.length c) l) (g : Gd key k s all) (hn : l.length ≤ 100) (ha : addE s t l = 0) :
    Calls Tryz.prog 26 #[.pointer (some ⟨p, 0, none⟩), .int .i64 t, .slice a l.length c] w fun e w' => e = .returned (.int .i64 0) ∧ ∃ (b : Bt) (wb' : Option Nat) (va : Option Addr) (vc : Nat), Canon upd.cmpU (b.l.map upd.pr) (fun q => 1 * sumK (l.map upd.pr) q) ∧ b.l.length ≤ l.length ∧ SpAt w' p wb' { s with va := va, vc := vc, upper := t, bs := more s.bs b } ∧ Fr (wbL p wb) w w' ∧ (wb' = wb ∨ ∃ g, wb' = some g ∧ w.heap.size ≤ g) ∧ NewB w.heap.size b :=
  (add_any h hl g.ok.key (by have := g.ok.few; omega) (by omega) t).mono fun e w' ⟨he, hx⟩ => by
    rw [ha] at he hx
    rcases hx with ⟨-, hx⟩ | ⟨h9, -⟩
    · exact ⟨he, hx⟩
    · exact absurd rfl h9
theorem add_no {w : World} {p : Nat} {wb : Option Nat} {key : List Int} {k : Nat} {s : Spn} {all l : List upd.El} {a : Option Addr} {c : Nat} {t : Int} (h : SpAt w p wb s) (hl : upd.Cts w (.slice a l.length c) l) (g : Gd key k s all) (hn : l.length ≤ 100) (ha : addE s t l ≠ 0) :
    Calls Tryz.prog 26 #[.pointer (some ⟨p, 0, none⟩), .int .i64 t, .slice a l.length c] w fun e w' => e = .returned (.int .i64 (addE s t l)) ∧ Fr [] w w' :=
  (add_any h hl g.ok.key (by have := g.ok.few; omega) (by omega) t).mono fun e w' ⟨he, hx⟩ => by
    rcases hx with ⟨h9, -⟩ | ⟨-, hf⟩
    · exact absurd h9 ha
    · exact ⟨he, hf⟩
/-- What Compact leaves, whatever it says. -/
theorem compact_gd {w : World} {p : Nat} {wb : Option Nat} {key : List Int} {k : Nat} {s : Spn} {all : List upd.El} (h : SpAt w p wb s) (g : Gd key k s all) (hk : k + 1 ≤ 60) (t : Int) :
    Calls Tryz.prog 30 #[.pointer (some ⟨p, 0, none⟩), .int .i64 t] w fun e w' => e = .returned (.int .i64 (askE s t)) ∧ ∃ s' : Spn, SpAt w' p wb s' ∧ Gd key (k + 1) s' all ∧ s'.upper = s.upper ∧ (s'.since = s.since ∨ s'.since = t) ∧ Fr [p] w w' ∧ s'.bs = s.bs :=
  (compact_any h t).mono fun e w' ⟨he, hx⟩ => ⟨he, by
    rcases hx with ⟨h0, hs, hf⟩ | ⟨-, rfl⟩
    · exact ⟨_, hs, g.compact h0 hk, rfl, Or.inr rfl, hf, rfl⟩
    · exact ⟨s, h, g.mono (by omega) hk, rfl, Or.inl rfl, Fr.refl _ _, rfl⟩⟩
theorem work_gd {w : World} {p : Nat} {wb : Option Nat} {key : List Int} {k : Nat} {s : Spn} {all : List upd.El} (h : SpAt w p wb s) (g : Gd key k s all) (hk : k + 1 ≤ 60) (n : Int) :
    Calls Tryz.prog 29 #[.pointer (some ⟨p, 0, none⟩), .int .i64 n] w fun e w' => (∃ lf : Int, e = .returned (.int .i64 lf)) ∧ ∃ (s' : Spn) (wb' : Option Nat), SpAt w' p wb' s' ∧ Gd key (k + 1) s' all ∧ s'.upper = s.upper ∧ s'.since = s.since ∧ Fr [p] w w' ∧ WbNew w wb wb' ∧ Hid (∀ b ∈ s'.bs, b ∈ s.bs ∨ NewB w.heap.size b) := by
  have hc : s.credit ≤ 1000000000 := by have := g.c1; have := g.few; omega
  refine (work_any h g.ok hc n).mono fun e w' ⟨s', wb', lf, he, hf, hw, hk9, hold, hx⟩ => ⟨⟨lf, he⟩, ?_⟩
  have hg := (g.fuel n hk).works hk9
  obtain ⟨h1, h2, h3⟩ := hk9.same
  rcases hx with ⟨-, -, hs⟩ | ⟨i, -, -, -, hs⟩
  · exact ⟨_, wb', hs, hg.zero, h3, h2, hf, hw, hold⟩
  · exact ⟨_, wb', hs, hg, h3, h2, hf, hw, hold⟩

/-- No batch lies in the block of a row. -/
def FarB (v : Value) (bs : List Bt) : Prop := ∀ b ∈ bs, ∀ g, v.ownBlock = some g → b.ba ≠ some ⟨g, 0, none⟩
theorem own_ty {w : World} {base e size n : Nat} {v : Value} {xs : List Value} (h : w.ownsRow base e size v n xs) {g : Nat} (hg : v.ownBlock = some g) : ∃ cur, w.heap[g]? = some (.cells cur e) := by
  rcases h.2 with ⟨rfl, -⟩ | ⟨g', cap, cur, rfl, -, hh, -⟩
  · cases hg
  · simp only [Value.ownBlock, Option.some.injEq] at hg
    subst hg
    exact ⟨cur, hh⟩
theorem own_not {w : World} {base e size n : Nat} {v : Value} {xs : List Value} (h : w.ownsRow base e size v n xs) {b t : Nat} {cur : Array Value} (hb : w.heap[b]? = some (.cells cur t)) (ht : t ≠ e) : b ∉ v.ownBlock.toList := by
  intro hx
  obtain ⟨c, hc⟩ := own_ty h (g := b) (by simpa using hx)
  rw [hb] at hc
  simp only [Option.some.injEq, Obj.cells.injEq] at hc
  exact ht hc.2.1
theorem upd.ListIn.far {w w' : World} {base b2 n m : Nat} {v : Value} {xs : List Value} {a : Option Addr} {c : Nat} {l : List upd.El} (h : upd.ListIn base w (.slice a m c) l) (ho : w.ownsRow b2 65 3 v n xs) (hg : w.grownBy w' v.ownBlock) (hf : ∀ g, v.ownBlock = some g → a ≠ some ⟨g, 0, none⟩) : upd.ListIn base w' (.slice a m c) l := by
  refine ⟨?_, fun e he => ⟨(h.2 e he).1.grownU ho hg, (h.2 e he).2⟩⟩
  rcases h.1 with h9 | ⟨g, c9, cur, hb, hv, hc, hh, htk⟩
  · exact Or.inl h9
  · simp only [Value.slice.injEq] at hv
    refine Or.inr ⟨g, c9, cur, hb, by rw [hv.1, hv.2.1, hv.2.2], hc, (Fr.grown hg).heap hh (fun hx => ?_), htk⟩
    exact hf g (by simpa using hx) hv.1
/-- A spine is not touched by what is appended to a list of updates. -/
theorem spine_far {w w' : World} {p base n : Nat} {wb : Option Nat} {s : Spn} {v : Value} {xs : List Value} (h : SpAt w p wb s) (ho : w.ownsRow base 65 3 v n xs) (hg : w.grownBy w' v.ownBlock) (hf : FarB v s.bs) : SpAt w' p wb s := by
  have f := Fr.grown hg
  refine ⟨f.heap h.blk (own_not ho h.blk (by decide)), ?_, h.own.frS f fun g hg9 => ?_, fun b hb => (h.bts b hb).far ho hg (hf b hb)⟩
  · rcases h.key with h9 | ⟨b, c, cur, hv, hc, hh, htk⟩
    · exact Or.inl h9
    · exact Or.inr ⟨b, c, cur, hv, hc, f.heap hh (own_not ho hh (by decide)), htk⟩
  · obtain ⟨cur, hc⟩ := h.own.ty hg9
    exact own_not ho hc (by decide)
theorem FarB.more {v : Value} {bs : List Bt} {b : Bt} {n : Nat} (h : FarB v bs) (hb : NewB n b) (hv : ∀ g, v.ownBlock = some g → g < n) : FarB v (more bs b) := by
  intro x hx g hg
  unfold Go.Proofs.YtjchlfblbmiceaaGreat.more at hx
  split at hx
  · exact h x hx g hg
  · rename_i hne
    rcases List.mem_append.1 hx with hx | hx
    · exact h x hx g hg
    · rw [List.mem_singleton.1 hx]
      obtain ⟨g', e, hn⟩ := hb hne
      rw [e]
      intro h9
      simp only [Option.some.injEq, Addr.mk.injEq, and_true] at h9
      have := hv g hg
      omega
theorem FarB.works {v : Value} {bs bs' : List Bt} {n : Nat} (h : FarB v bs) (hb : ∀ b ∈ bs', b ∈ bs ∨ NewB n b) (hne : ∀ b ∈ bs', b.l ≠ []) (hv : ∀ g, v.ownBlock = some g → g < n) : FarB v bs' := by
  intro x hx g hg
  rcases hb x hx with h9 | h9
  · exact h x h9 g hg
  · obtain ⟨g', e, hn⟩ := h9 (hne x hx)
    rw [e]
    intro h8
    simp only [Option.some.injEq, Addr.mk.injEq, and_true] at h8
    have := hv g hg
    omega
theorem FarB.grew {w : World} {p : Nat} {wb : Option Nat} {s : Spn} {v v' : Value} (h : FarB v s.bs) (hs : SpAt w p wb s) (hne : ∀ b ∈ s.bs, b.l ≠ []) (hv : v'.ownBlock = v.ownBlock ∨ v'.ownBlock = some w.heap.size) : FarB v' s.bs := by
  intro x hx g hg
  rcases hv with h9 | h9
  · exact h x hx g (h9.symm.trans hg)
  · have e9 := Option.some.inj (h9.symm.trans hg)
    rcases (hs.bts x hx).1 with ⟨-, -, -, -, h8⟩ | ⟨g', c9, cur, -, hv9, -, hh, -⟩
    · exact absurd h8 (hne x hx)
    · unfold Bt.v at hv9
      simp only [Value.slice.injEq] at hv9
      rw [hv9.1]
      intro h8
      simp only [Option.some.injEq, Addr.mk.injEq, and_true] at h8
      have := (Array.getElem?_eq_some_iff.1 hh).1
      omega

def PlR (w : World) (p : Nat) (key : List Int) (ops : List OpE) (calm : Bool) (v x : Value) (wr : World) : Prop :=
  ∃ (k : Nat) (s : Spn) (wb : Option Nat) (all : List upd.El), x = .int .i64 k ∧ k ≤ ops.length ∧ Fr [] w wr ∧ SpAt wr p wb s ∧ (∀ g, wb = some g → w.heap.size ≤ g) ∧ Gd key k s all ∧ (s.upper, all) = plAll key (ops.take k) ∧ (calm = true → s.since = 0) ∧
    wr.ownsRow w.heap.size 65 3 v all.length (upd.elsC all) ∧ (∀ u ∈ all, RowAt w u.rv u.rd ∧ upd.ElOk u) ∧ FarB v s.bs
def PlayedPost (w : World) (key : List Int) (ops : List OpE) (calm : Bool) (e : Ending) (w' : World) : Prop :=
  Fr [] w w' ∧ ((keyOk key = false ∧ e = .returned (.tuple #[.pointer none, .slice none 0 0])) ∨ (keyOk key = true ∧ ∃ (p : Nat) (wb : Option Nat) (s : Spn) (all : List upd.El) (a : Option Addr) (c : Nat), e = .returned (.tuple #[.pointer (some ⟨p, 0, none⟩), .slice a all.length c]) ∧ w.heap.size ≤ p ∧ SpAt w' p wb s ∧
    (∀ g, wb = some g → w.heap.size ≤ g) ∧ Gd key 40 s all ∧ (s.upper, all) = plAll key (ops.take 40) ∧ (calm = true → s.since = 0) ∧ upd.Cts w' (.slice a all.length c) all))
theorem pl_next {w wr : World} {p k : Nat} {wb : Option Nat} {key : List Int} {ops : List OpE} {calm : Bool} {s : Spn} {all : List upd.El} {v : Value} (hk : k < ops.length) (f : Fr [] w wr) (hs : SpAt wr p wb s) (hw : ∀ g, wb = some g → w.heap.size ≤ g) (g : Gd key (k + 1) s all)
    (hp : (s.upper, all) = plStep key (plAll key (ops.take k)) (nop ops k)) (hc : calm = true → s.since = 0) (ho : wr.ownsRow w.heap.size 65 3 v all.length (upd.elsC all)) (hr : ∀ u ∈ all, RowAt w u.rv u.rd ∧ upd.ElOk u) (hfar : FarB v s.bs) : PlR w p key ops calm v (.int .i64 ((k + 1 : Nat) : Int)) wr := by
  refine ⟨k + 1, s, wb, all, rfl, by omega, f, hs, hw, g, ?_, hc, ho, hr, hfar⟩
  have hts : ops.take (k + 1) = ops.take k ++ [nop ops k] := by rw [List.take_add_one, nop_at hk]; rfl
  rw [hts, plAll_snoc]
  exact hp

set_option maxRecDepth 100000
set_option maxHeartbeats 12800000 in
theorem played_any {w : World} {a0 a1 : Option Addr} {c0 c1 : Nat} {key : List Int} {ops : List OpE} (calm : Bool) (hk : Src w 1 (.slice a0 key.length c0) key.length (kiC key)) (hkl : key.length ≤ 17592186043904) (ho : OpsAt w (.slice a1 ops.length c1) ops) (hoc : ops.length ≤ c1) (hoa : a1 = none → c1 = 0) :
    Calls Tryz.prog 7 #[.slice a0 key.length c0, .slice a1 ops.length c1, .bool calm] w (PlayedPost w key ops calm) := by
  obtain ⟨i0, hi, hz0, hz1, hz2⟩ := info_parts upd.infoU
  have hnew := new_any hk hkl
  have hcut := fun wi => cut13_any (w := wi) ops.length 40 (by omega) hoc hoa
  obtain ⟨sx, hsl, hst, hsn⟩ : ∃ sx : List OpE, sx.length = min ops.length 40 ∧ OpsAt w (.slice a1 sx.length c1) sx ∧ sx = ops.take 40 := by
    have ht := ho.take (k := min ops.length 40) (by omega)
    have hl : (ops.take (min ops.length 40)).length = min ops.length 40 := by rw [List.length_take]; omega
    exact ⟨_, hl, by rw [hl]; exact ht, by rw [List.take_eq_take_iff]; omega⟩
  rw [← hsl] at hcut
  have h40 : sx.length ≤ 40 := by omega
  have HO := Lib.hid hst
  have HTk := Lib.hid hsn
  have HCut := Lib.hid hcut
  clear hk ho hoc hoa hcut hsl hst hsn
  by_cases hko : keyOk key = true
  · have hn2 : Calls Tryz.prog 17 #[.slice a0 key.length c0] w fun e w' => ∃ p a c, e = .returned (.tuple #[.pointer (some ⟨p, 0, none⟩), .int .i64 0]) ∧ w.heap.size ≤ p ∧ SpAt w' p none (spn0 a c key) ∧ Fr [] w w' := hnew.mono fun e w' ⟨f, hx⟩ => by
      rcases hx with ⟨-, p, a, c, he, hp, hs⟩ | ⟨h9, -⟩
      · exact ⟨p, a, c, he, hp, hs, f⟩
      · rw [hko] at h9; cases h9
    have HN := Lib.hid hn2
    have HKo := Lib.hid hko
    clear hnew hn2 hko
    go_enter Tryz.func7, Tryz.ntmps7
    go_upto_region 5 with (go_at_call 17; refine HN.out.mono ?_; rintro e w1 ⟨p, ka, kc, rfl, hp1, hs1, f1⟩)
    have HP := Lib.hid hp1
    have H1 := Lib.hid hs1
    have F1 := Lib.hid f1
    clear hp1 hs1 f1 HN
    go_wp2_with (go_at_call 19; refine (HCut.out _).mono ?_; rintro e w' ⟨rfl, rfl⟩)
    go_loopw [10, 27] (fun v x wr => PlR w p key sx calm v x wr) (fun _ x _ => sx.length - (intOf x).toNat)
    case atStart => exact ⟨0, _, none, [], rfl, Nat.zero_le _, F1.out, H1.out, by simp, Gd.start HKo.out _ _, rfl, fun _ => rfl, World.ownsRow_nil _ _ _ _, by simp, fun b hb => by simp [spn0] at hb⟩
    case round =>
      clear H1 F1
      obtain ⟨k, s, wb, all, rfl, hk, hf, hs, hw, hg, hp, hc, ho, hr, hfar⟩ := hrel
      have HFar := Lib.hid hfar
      clear hfar
      obtain ⟨va, vc, rfl⟩ := ownsRow_shape ho
      have hlA : all.length ≤ 6000 := by have := hg.len; have := hg.few; omega
      have HF := Lib.hid hf
      have HS := Lib.hid hs
      have HW := Lib.hid hw
      have HG := Lib.hid hg
      have HPl := Lib.hid hp
      have HC := Lib.hid hc
      have HOw := Lib.hid ho
      have HR := Lib.hid hr
      by_cases hlt : k < sx.length
      · as_aux_lemma =>
        obtain ⟨b, off, e1, y0, y1, y2, y3, y4, y5, y6⟩ := (HO.out.fr hf).cell hlt
        subst e1
        have hOi := HO.out.row _ (nop_mem hlt)
        have hp2 := hp
        clear hf hs hw hg hp hc ho hr
        generalize hoo : nop sx k = o at *
        have HOo := Lib.hid hoo
        have HOi := Lib.hid hOi
        clear hoo hOi hp2
        go_upto_region 8 with fail
        have fa : Fr [] wr (wr.alloc (.cells #[.int .i64 o.kind, .int .i64 o.on, .int .i64 o.fuel, .int .i64 o.upper, .int .i64 o.time, .slice o.ka o.kr.length o.kc, .slice o.la o.l.length o.lc] 54)) := (Fr.refl [] wr).alloc _
        have hb1 := heap_alloc_new wr (.cells #[.int .i64 o.kind, .int .i64 o.on, .int .i64 o.fuel, .int .i64 o.upper, .int .i64 o.time, .slice o.ka o.kr.length o.kc, .slice o.la o.l.length o.lc] 54)
        have HSA := Lib.hid (HS.out.fr fa)
        have HOA := Lib.hid (ownsRow_fr HOw.out fa (by simp))
        have HFA := Lib.hid (HF.out.trans fa)
        clear fa HS HOw HF y0 y1 y2 y3 y4 y5 y6
        generalize wr.heap.size = bx at *
        generalize wr.alloc (.cells #[.int .i64 o.kind, .int .i64 o.on, .int .i64 o.fuel, .int .i64 o.upper, .int .i64 o.time, .slice o.ka o.kr.length o.kc, .slice o.la o.l.length o.lc] 54) = wa at *
        have x0 := cell_blk hb1 0 (.int .i64 o.kind) rfl
        have x1 := cell_blk hb1 1 (.int .i64 o.on) rfl
        have x2 := cell_blk hb1 2 (.int .i64 o.fuel) rfl
        have x3 := cell_blk hb1 3 (.int .i64 o.upper) rfl
        have x4 := cell_blk hb1 4 (.int .i64 o.time) rfl
        have x5 := cell_blk hb1 5 (.slice o.ka o.kr.length o.kc) rfl
        have x6 := cell_blk hb1 6 (.slice o.la o.l.length o.lc) rfl
        have HB1 := Lib.hid hb1
        clear hb1
        have hfe := few_any (HOi.out.fr HFA.out)
        by_cases hfew : fewB o = true
        · have HFew := Lib.hid hfew
          rw [hfew] at hfe
          have HFe := Lib.hid hfe
          have hol := (few_len hfew).1
          clear hfe hfew
          go_upto_region 9 with (go_at_call 20; refine HFe.out.mono ?_; rintro e w5 ⟨rfl, f5⟩)
          have z0 := f5.cell x0 (by simp)
          have z2 := f5.cell x2 (by simp)
          have z3 := f5.cell x3 (by simp)
          have z4 := f5.cell x4 (by simp)
          have z6 := f5.cell x6 (by simp)
          have HB5 := Lib.hid (f5.heap HB1.out (by simp))
          have HS5 := Lib.hid (HSA.out.fr f5)
          have HOw5 := Lib.hid (ownsRow_fr HOA.out f5 (by simp))
          have HF5 := Lib.hid (HFA.out.trans f5)
          clear f5 x0 x1 x2 x3 x4 x5 x6 HB1 HSA HOA HFA HFe
          by_cases h1 : o.kind = 1
          · have HK1 := Lib.hid h1
            have hk1 : (o.kind == 1) = true := by simpa using h1
            clear h1
            by_cases haz : addE s o.upper o.l = 0
            · have HAz := Lib.hid haz
              have hay := add_yes HS5.out (HOi.out.up.fr HF5.out) HG.out hol haz
              have HAy := Lib.hid hay
              clear haz hay
              go_upto_region 11 with (go_at_call 26; refine HAy.out.mono ?_; rintro e w6 ⟨rfl, bt, wb6, va6, vc6, hc6, hl6, hs6, f6, hw6, hnb6⟩)
              have fp : Fr [] w w6 := HF5.out.past f6 (fun x hx => Or.inl (by
                rcases List.mem_cons.1 hx with rfl | hx
                · exact HP.out
                · exact HW.out x (by simpa using hx)))
              have u6 := cell_blk (f6.heap HB5.out (HS5.out.tyB.not HB5.out (by decide) (by decide))) 6 (.slice o.la o.l.length o.lc) rfl
              have HOw6 := Lib.hid (ownsRow_frT HOw5.out f6 HS5.out.tyB (by decide) (by decide))
              have HSrc := Lib.hid ((HOi.out.up.fr fp).src)
              have hsz6 := fp.size
              have HW6 : Hid (∀ g, wb6 = some g → w.heap.size ≤ g) := Lib.hid (fun g hg => by
                rcases hw6 with h9 | ⟨g', h9, h8⟩
                · exact HW.out g (h9.symm.trans hg)
                · rw [h9] at hg
                  rw [← Option.some.inj hg]
                  exact Nat.le_trans HF5.out.size h8)
              have HFar6 := Lib.hid (HFar.out.more hnb6 (fun g hg => (HOw5.out.lt g hg).2))
              have HG6 := Lib.hid (HG.out.add (va := va6) (vc := vc6) HAz.out hol (by omega) hc6 hl6)
              have HS6 := Lib.hid hs6
              have HFp := Lib.hid fp
              clear hc6 hl6 hs6 f6 hw6 hnb6 fp z0 z2 z3 z4 z6 HB5 HS5 HOw5 HF5 HAy
              go_wp2_with (at_builtin; refine wpList_append_src _ rfl (.tmp 45) (.tmp 47) 27 rfl w.heap.size 65 i0 _ 3 40 Tryz.underlying27 hi hz0 hz1 hz2 rfl (by decide) (.slice va all.length vc) all.length _ rfl HOw6.out (.slice o.la o.l.length o.lc) o.l.length _ rfl HSrc.out (by unfold maxLen; omega) (by omega) (by omega) ?_; intro v7 w7 hown7 hgrow7 hblk7)
              have f7 : Fr (Value.slice va all.length vc).ownBlock.toList w6 w7 := Fr.grown hgrow7
              have HF7 := Lib.hid (HFp.out.fresh hgrow7 (fun r e => Or.inl (HOw6.out.lt r e).1))
              have HS7 := Lib.hid (spine_far HS6.out HOw6.out hgrow7 HFar6.out)
              have HFar7 := Lib.hid (HFar6.out.grew HS6.out HG6.out.ok.ne hblk7)
              have HOw7 := Lib.hid hown7
              clear hown7 hgrow7 f7 hblk7
              go_roundw
              case rel => exact pl_next hlt HF7.out HS7.out HW6.out HG6.out (by rw [← HPl.out, HOo.out]; exact (plStep_add HG.out.ke HFew.out HK1.out HAz.out).symm) HC.out (by rw [List.length_append, upd.elsC_append]; exact HOw7.out) (fun u hu => by
                rcases List.mem_append.1 hu with hu | hu
                · exact HR.out u hu
                · exact HOi.out.up.row u hu) HFar7.out
              case measure => simp [intOf] <;> omega
            · have HAz := Lib.hid haz
              have han := add_no HS5.out (HOi.out.up.fr HF5.out) HG.out hol haz
              generalize hae : addE s o.upper o.l = av at *
              have HAv := Lib.hid (show addE s o.upper o.l ≠ 0 by rw [hae]; exact haz)
              have hav : (av == 0) = false := by simpa using haz
              clear hae
              have HAn := Lib.hid han
              clear haz han
              go_wp2_with (go_at_call 26; refine HAn.out.mono ?_; rintro e w6 ⟨rfl, f6⟩; have HF6 := Lib.hid (HF5.out.trans f6); have HS6 := Lib.hid (HS5.out.fr f6); have HOw6 := Lib.hid (ownsRow_fr HOw5.out f6 (by simp)); clear f6)
              go_roundw
              case rel => exact pl_next hlt HF6.out HS6.out HW.out (HG.out.mono (by omega) (by omega)) (by rw [← HPl.out, HOo.out]; exact (plStep_no HG.out.ke (Or.inr (Or.inr HAv.out))).symm) HC.out HOw6.out HR.out HFar.out
              case measure => simp [intOf] <;> omega
          · have HNk := Lib.hid h1
            have hk1 : (o.kind == 1) = false := by simpa using h1
            clear h1
            cases calm with
            | true =>
              by_cases h2 : o.kind = 2
              · have hk2 : (o.kind == 2) = true := by simpa using h2
                have hk3 : (o.kind == 3) = false := by simp [h2]
                clear h2
                go_wp2_with fail
                go_roundw
                case rel => exact pl_next hlt HF5.out HS5.out HW.out (HG.out.mono (by omega) (by omega)) (by rw [← HPl.out, HOo.out]; exact (plStep_no HG.out.ke (Or.inr (Or.inl HNk.out))).symm) HC.out HOw5.out HR.out HFar.out
                case measure => simp [intOf] <;> omega
              · have hk2 : (o.kind == 2) = false := by simpa using h2
                clear h2
                by_cases h3 : o.kind = 3
                · have hk3 : (o.kind == 3) = true := by simpa using h3
                  clear h3
                  go_wp2_with fail
                  go_roundw
                  case rel => exact pl_next hlt HF5.out HS5.out HW.out (HG.out.mono (by omega) (by omega)) (by rw [← HPl.out, HOo.out]; exact (plStep_no HG.out.ke (Or.inr (Or.inl HNk.out))).symm) HC.out HOw5.out HR.out HFar.out
                  case measure => simp [intOf] <;> omega
                · have hk3 : (o.kind == 3) = false := by simpa using h3
                  clear h3
                  go_wp2_with fail
                  go_roundw
                  case rel => exact pl_next hlt HF5.out HS5.out HW.out (HG.out.mono (by omega) (by omega)) (by rw [← HPl.out, HOo.out]; exact (plStep_no HG.out.ke (Or.inr (Or.inl HNk.out))).symm) HC.out HOw5.out HR.out HFar.out
                  case measure => simp [intOf] <;> omega
            | false =>
              by_cases h2 : o.kind = 2
              · have hk2 : (o.kind == 2) = true := by simpa using h2
                have hk3 : (o.kind == 3) = false := by simp [h2]
                have hco := compact_gd HS5.out HG.out (by omega) o.time
                generalize askE s o.time = av at *
                have HCo := Lib.hid hco
                clear h2 hco
                go_wp2_with (go_at_call 30; refine HCo.out.mono ?_; rintro e w6 ⟨rfl, s6, hs6, hg6, hu6, -, f6, hb6⟩; have HF6 := Lib.hid (HF5.out.past f6 (fun x hx => Or.inl (by rw [List.mem_singleton.1 hx]; exact HP.out))); have HOw6 := Lib.hid (ownsRow_frT HOw5.out f6 HS5.out.tyP (by decide) (by decide)); have HS6 := Lib.hid hs6; have HG6 := Lib.hid hg6; have HU6 := Lib.hid hu6; have HB6 := Lib.hid hb6; clear hs6 hg6 hu6 f6 hb6)
                go_roundw
                case rel => exact pl_next hlt HF6.out HS6.out HW.out HG6.out (by rw [← HPl.out, HOo.out, HU6.out]; exact (plStep_no HG.out.ke (Or.inr (Or.inl HNk.out))).symm) (fun h9 => by cases h9) HOw6.out HR.out (by rw [HB6.out]; exact HFar.out)
                case measure => simp [intOf] <;> omega
              · have hk2 : (o.kind == 2) = false := by simpa using h2
                clear h2
                by_cases h3 : o.kind = 3
                · have hk3 : (o.kind == 3) = true := by simpa using h3
                  have hwo := work_gd HS5.out HG.out (by omega) o.fuel
                  have HWo := Lib.hid hwo
                  clear h3 hwo
                  go_wp2_with (go_at_call 29; refine HWo.out.mono ?_; rintro e w6 ⟨⟨lf, rfl⟩, s6, wb6, hs6, hg6, hu6, -, f6, hn6, HOld6⟩; have HF6 := Lib.hid (HF5.out.past f6 (fun x hx => Or.inl (by rw [List.mem_singleton.1 hx]; exact HP.out))); have HOw6 := Lib.hid (ownsRow_frT HOw5.out f6 HS5.out.tyP (by decide) (by decide)); have HS6 := Lib.hid hs6; have HG6 := Lib.hid hg6; have HU6 := Lib.hid hu6; have HN6 := Lib.hid hn6; clear hs6 hg6 hu6 f6 hn6)
                  go_roundw
                  case rel => exact pl_next hlt HF6.out HS6.out (fun g hg => by
                    rcases HN6.out with h9 | h9
                    · exact HW.out g (h9.symm.trans hg)
                    · exact Nat.le_trans HF5.out.size (h9 g hg)) HG6.out (by rw [← HPl.out, HOo.out, HU6.out]; exact (plStep_no HG.out.ke (Or.inr (Or.inl HNk.out))).symm) (fun h9 => by cases h9) HOw6.out HR.out (HFar.out.works HOld6.out HG6.out.ok.ne (fun g hg => (HOw5.out.lt g hg).2))
                  case measure => simp [intOf] <;> omega
                · have hk3 : (o.kind == 3) = false := by simpa using h3
                  clear h3
                  go_wp2_with fail
                  go_roundw
                  case rel => exact pl_next hlt HF5.out HS5.out HW.out (HG.out.mono (by omega) (by omega)) (by rw [← HPl.out, HOo.out]; exact (plStep_no HG.out.ke (Or.inr (Or.inl HNk.out))).symm) HC.out HOw5.out HR.out HFar.out
                  case measure => simp [intOf] <;> omega
        · have HFew : Hid (fewB o = false) := Lib.hid (by simpa using hfew)
          rw [HFew.out] at hfe
          have HFe := Lib.hid hfe
          clear hfe hfew
          go_wp2_with (go_at_call 20; refine HFe.out.mono ?_; rintro e w5 ⟨rfl, f5⟩; have HS5 := Lib.hid (HSA.out.fr f5); have HOw5 := Lib.hid (ownsRow_fr HOA.out f5 (by simp)); have HF5 := Lib.hid (HFA.out.trans f5); clear f5)
          go_roundw
          case rel => exact pl_next hlt HF5.out HS5.out HW.out (HG.out.mono (by omega) (by omega)) (by rw [← HPl.out, HOo.out]; exact (plStep_no HG.out.ke (Or.inl HFew.out)).symm) HC.out HOw5.out HR.out HFar.out
          case measure => simp [intOf] <;> omega
      · as_aux_lemma =>
        have hkk : k = sx.length := by omega
        have HKK := Lib.hid hkk
        clear hf hs hw hg hp hc ho hr
        go_wp2_with fail
        go_ret2
        refine ⟨HF.out, Or.inr ⟨HKo.out, p, wb, s, all, va, vc, rfl, HP.out, HS.out, HW.out, HG.out.mono (by omega) (by omega), ?_, HC.out, upd.own_cts HOw.out fun u hu => ⟨(HR.out u hu).1.fr HF.out, (HR.out u hu).2⟩⟩⟩
        rw [HPl.out, HKK.out, List.take_length, HTk.out]
  · have hk2 : keyOk key = false := by simpa using hko
    have hn2 : Calls Tryz.prog 17 #[.slice a0 key.length c0] w fun e w' => e = .returned (.tuple #[.pointer none, .int .i64 132]) ∧ Fr [] w w' := hnew.mono fun e w' ⟨f, hx⟩ => by
      rcases hx with ⟨h9, -⟩ | ⟨-, he⟩
      · rw [hk2] at h9; cases h9
      · exact ⟨he, f⟩
    have HN := Lib.hid hn2
    have HKo := Lib.hid hk2
    clear hnew hn2 hko hk2
    go_enter Tryz.func7, Tryz.ntmps7
    go_wp2_with (go_at_call 17; refine HN.out.mono ?_; rintro e w1 ⟨rfl, f1⟩)
    go_ret2
    exact ⟨f1, Or.inl ⟨HKo.out, rfl⟩⟩
end Go.Proofs.YtjchlfblbmiceaaGreat
namespace Go.Proofs.YtjchlfblbmiceaaGreat
open Go.RowKit srt grp

/-- At's answer, an error or not. -/
def AtSays (s : Spn) (t : Int) (er : Int) (outs : List El) : Prop :=
  (askE s t ≠ 0 ∧ er = askE s t ∧ outs = []) ∨ (askE s t = 0 ∧ er = 0 ∧ Canon cmpR (outs.map pr) (fun r => 1 * sumK ((atL s.fl t).map pr) r) ∧ outs.length ≤ 8000)
def AtAns (w : World) (s : Spn) (t : Int) (e : Ending) (w' : World) : Prop :=
  ∃ (outs : List El) (a : Option Addr) (c : Nat) (er : Int), e = .returned (.tuple #[.slice a outs.length c, .int .i64 er]) ∧ Fr [] w w' ∧ ListIn w.heap.size w' (.slice a outs.length c) outs ∧ Hid (AtSays s t er outs)
theorem atAns_any {w : World} {p : Nat} {wb : Option Nat} {s : Spn} (h : SpAt w p wb s) (hk : SpOk s) (t : Int) : Calls Tryz.prog 9 #[.pointer (some ⟨p, 0, none⟩), .int .i64 t] w (AtAns w s t) :=
  (spAt_any h hk t).mono fun e w' ⟨f, hx⟩ => by
    rcases hx with ⟨h1, he⟩ | ⟨h1, outs, a, c, he, hl, hc, hn⟩
    · exact ⟨[], none, 0, askE s t, he, f, ⟨Or.inl ⟨none, 0, rfl, fun _ => rfl, rfl⟩, by simp⟩, Lib.hid (Or.inl ⟨h1, rfl, rfl⟩)⟩
    · exact ⟨outs, a, c, 0, he, f, hl, Lib.hid (Or.inr ⟨h1, rfl, hc, Nat.le_trans hn (Nat.le_trans (atL_len _ _) hk.len)⟩)⟩
def FromSays (s : Spn) (t : Int) (er : Int) (outs : List upd.El) : Prop :=
  (fromE s t ≠ 0 ∧ er = fromE s t ∧ outs = []) ∨ (fromE s t = 0 ∧ er = 0 ∧ Canon upd.cmpU (outs.map upd.pr) (fun q => 1 * sumK ((frL s.fl t).map upd.pr) q) ∧ outs.length ≤ 8000)
def FromAns (w : World) (s : Spn) (t : Int) (e : Ending) (w' : World) : Prop :=
  ∃ (outs : List upd.El) (a : Option Addr) (c : Nat) (er : Int), e = .returned (.tuple #[.slice a outs.length c, .int .i64 er]) ∧ Fr [] w w' ∧ upd.ListIn w.heap.size w' (.slice a outs.length c) outs ∧ Hid (FromSays s t er outs)
theorem fromAns_any {w : World} {p : Nat} {wb : Option Nat} {s : Spn} (h : SpAt w p wb s) (hk : SpOk s) (t : Int) : Calls Tryz.prog 13 #[.pointer (some ⟨p, 0, none⟩), .int .i64 t] w (FromAns w s t) :=
  (spFrom_any h hk t).mono fun e w' ⟨f, hx⟩ => by
    rcases hx with ⟨h1, he⟩ | ⟨h1, outs, a, c, he, hl, hc, hn⟩
    · exact ⟨[], none, 0, fromE s t, he, f, ⟨Or.inl ⟨none, 0, rfl, fun _ => rfl, rfl⟩, by simp⟩, Lib.hid (Or.inl ⟨h1, rfl, rfl⟩)⟩
    · exact ⟨outs, a, c, 0, he, f, hl, Lib.hid (Or.inr ⟨h1, rfl, hc, Nat.le_trans hn (Nat.le_trans (List.length_filter_le _ _) hk.len)⟩)⟩

theorem ask_ge {s : Spn} {t : Int} (h : askE s t = 0) : s.since ≤ t ∧ t < s.upper := by
  unfold askE at h
  split at h
  · cases h
  · split at h
    · cases h
    · omega
theorem from_gt {s : Spn} {t : Int} (h : fromE s t = 0) : s.since < t ∧ t ≤ s.upper := by
  unfold fromE at h
  split at h
  · cases h
  · split at h
    · cases h
    · omega
theorem ask_same {s s2 : Spn} {t : Int} (h1 : s2.since = s.since) (h2 : s2.upper = s.upper) : askE s2 t = askE s t := by unfold askE; rw [h1, h2]
theorem from_same {s s2 : Spn} {t : Int} (h1 : s2.since = s.since) (h2 : s2.upper = s.upper) : fromE s2 t = fromE s t := by unfold fromE; rw [h1, h2]
/-- Two spines of the same updates say the same at a time that both may be asked for. -/
theorem at_two {key : List Int} {k k2 : Nat} {s s2 : Spn} {all : List upd.El} {t : Int} {o o2 : List El} (g : Gd key k s all) (g2 : Gd key k2 s2 all) (h : s.since ≤ t) (h2 : s2.since ≤ t) (c : Canon cmpR (o.map pr) (fun r => 1 * sumK ((atL s.fl t).map pr) r)) (c2 : Canon cmpR (o2.map pr) (fun r => 1 * sumK ((atL s2.fl t).map pr) r)) : o.map pr = o2.map pr := by
  refine c.uniq cmpRS (c2.of fun r => ?_)
  have e1 : sumK ((atL s.fl t).map pr) r = _ := (g.inv.same).at h r
  have e2 : sumK ((atL s2.fl t).map pr) r = _ := (g2.inv.same).at h2 r
  rw [e1, e2]
theorem from_two {key : List Int} {k k2 : Nat} {s s2 : Spn} {all : List upd.El} {t : Int} {o o2 : List upd.El} (g : Gd key k s all) (g2 : Gd key k2 s2 all) (h : s.since < t) (h2 : s2.since < t) (c : Canon upd.cmpU (o.map upd.pr) (fun q => 1 * sumK ((frL s.fl t).map upd.pr) q)) (c2 : Canon upd.cmpU (o2.map upd.pr) (fun q => 1 * sumK ((frL s2.fl t).map upd.pr) q)) : o.map upd.pr = o2.map upd.pr := by
  refine c.uniq upd.cmpUS (c2.of fun q => ?_)
  have e1 : sumK ((frL s.fl t).map upd.pr) q = _ := (g.inv.same).fr h q
  have e2 : sumK ((frL s2.fl t).map upd.pr) q = _ := (g2.inv.same).fr h2 q
  rw [e1, e2]
theorem AtSays.two {key : List Int} {k k2 : Nat} {s s2 : Spn} {all : List upd.El} {t e e2 : Int} {o o2 : List El} (g : Gd key k s all) (g2 : Gd key k2 s2 all) (h1 : s2.since = s.since) (h2 : s2.upper = s.upper) (h : AtSays s t e o) (h' : AtSays s2 t e2 o2) : e2 = e ∧ o.map pr = o2.map pr ∧ o.length ≤ 8000 := by
  have ha := ask_same (t := t) h1 h2
  rcases h with ⟨a1, rfl, rfl⟩ | ⟨a1, rfl, c, hn⟩
  · rcases h' with ⟨-, rfl, rfl⟩ | ⟨b1, -⟩
    · exact ⟨ha, rfl, by simp⟩
    · rw [ha] at b1; exact absurd b1 a1
  · rcases h' with ⟨b1, -⟩ | ⟨b1, rfl, c2, -⟩
    · rw [ha] at b1; exact absurd a1 b1
    · exact ⟨rfl, at_two g g2 (ask_ge a1).1 (ask_ge b1).1 c c2, hn⟩
theorem FromSays.two {key : List Int} {k k2 : Nat} {s s2 : Spn} {all : List upd.El} {t e e2 : Int} {o o2 : List upd.El} (g : Gd key k s all) (g2 : Gd key k2 s2 all) (h1 : s2.since = s.since) (h2 : s2.upper = s.upper) (h : FromSays s t e o) (h' : FromSays s2 t e2 o2) : e2 = e ∧ o.map upd.pr = o2.map upd.pr ∧ o.length ≤ 8000 := by
  have ha := from_same (t := t) h1 h2
  rcases h with ⟨a1, rfl, rfl⟩ | ⟨a1, rfl, c, hn⟩
  · rcases h' with ⟨-, rfl, rfl⟩ | ⟨b1, -⟩
    · exact ⟨ha, rfl, by simp⟩
    · rw [ha] at b1; exact absurd b1 a1
  · rcases h' with ⟨b1, -⟩ | ⟨b1, rfl, c2, -⟩
    · rw [ha] at b1; exact absurd a1 b1
    · exact ⟨rfl, from_two g g2 (from_gt a1).1 (from_gt b1).1 c c2, hn⟩

theorem Gd.clone {key : List Int} {k : Nat} {s : Spn} {all : List upd.El} (h : Gd key k s all) (va : Option Addr) (vc : Nat) : Gd key k { s with va := va, vc := vc } all := ⟨h.inv, h.ke, h.k16, h.kpos, h.since, h.lt, h.up, h.n, h.c0, h.c1, h.len, h.few, h.bl⟩
/-- What played makes where the key may be. -/
def PlayedOk (w : World) (key : List Int) (ops : List OpE) (calm : Bool) (e : Ending) (w' : World) : Prop :=
  ∃ (p : Nat) (wb : Option Nat) (s : Spn) (all : List upd.El) (a : Option Addr) (c : Nat), e = .returned (.tuple #[.pointer (some ⟨p, 0, none⟩), .slice a all.length c]) ∧ Fr [] w w' ∧ w.heap.size ≤ p ∧ SpAt w' p wb s ∧ (∀ g, wb = some g → w.heap.size ≤ g) ∧ Gd key 40 s all ∧ Hid ((s.upper, all) = plAll key (ops.take 40)) ∧ Hid (calm = true → s.since = 0)
theorem PlayedPost.ok {w w' : World} {key : List Int} {ops : List OpE} {calm : Bool} {e : Ending} (h : PlayedPost w key ops calm e w') (hk : keyOk key = true) : PlayedOk w key ops calm e w' := by
  obtain ⟨f, ⟨h9, -⟩ | ⟨-, p, wb, s, all, a, c, he, hp, hs, hw, hg, hpl, hc, -⟩⟩ := h
  · rw [hk] at h9; cases h9
  · exact ⟨p, wb, s, all, a, c, he, f, hp, hs, hw, hg, Lib.hid hpl, Lib.hid hc⟩
end Go.Proofs.YtjchlfblbmiceaaGreat
