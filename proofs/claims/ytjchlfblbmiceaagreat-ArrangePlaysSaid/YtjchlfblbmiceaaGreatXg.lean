/- ArrangePlays: a spine and the reference's, side by side. No program in sight but the readings. No condition. -/
import Derived.Test.YtjchlfblbmiceaaGreatXc
import Derived.Test.YtjchlfblbmiceaaGreatXf
namespace Go.Proofs.YtjchlfblbmiceaaGreat
open Go.RowKit srt grp

/-! ### two spines that tell the same -/
def ps (bs : List Bt) : List (List ((Int × List Dt) × Int)) := bs.map fun b => b.l.map upd.pr
structure Twin (s r : Spn) : Prop where
  key : r.key = s.key
  since : r.since = s.since
  upper : r.upper = s.upper
  credit : r.credit = s.credit
  bs : ps r.bs = ps s.bs
theorem szs_ps (bs : List Bt) : szs bs = (ps bs).map List.length := by
  unfold szs ps
  rw [List.map_map]
  exact List.map_congr_left fun b _ => by simp
theorem Twin.szs {s r : Spn} (h : Twin s r) : szs r.bs = szs s.bs := by rw [szs_ps, szs_ps, h.bs]
theorem ps_at {bs : List Bt} {i : Nat} (h : i < bs.length) : (ps bs)[i]? = some ((nbt bs i).l.map upd.pr) := by
  unfold ps
  rw [List.getElem?_map, nbt_at h]; rfl
theorem Twin.len {s r : Spn} (h : Twin s r) : r.bs.length = s.bs.length := by
  have := congrArg List.length h.bs
  simpa [ps] using this
theorem Twin.at {s r : Spn} (h : Twin s r) {i : Nat} (hi : i < s.bs.length) : (nbt r.bs i).l.map upd.pr = (nbt s.bs i).l.map upd.pr := by
  have h1 := ps_at hi
  have h2 := ps_at (bs := r.bs) (by rw [h.len]; exact hi)
  rw [h.bs, h1] at h2
  exact (Option.some.inj h2).symm
theorem Twin.cost {s r : Spn} (h : Twin s r) {i : Nat} (hi : i < s.bs.length) : (nbt r.bs i).l.length = (nbt s.bs i).l.length := by
  have := congrArg List.length (h.at hi)
  simpa using this
def ltP (t : Int) (p : (Int × List Dt) × Int) : (Int × List Dt) × Int := ((max p.1.1 t, p.1.2), p.2)
theorem pr_lt1 (t : Int) (l : List upd.El) : (l.map (lt1 t)).map upd.pr = (l.map upd.pr).map (ltP t) := by
  rw [List.map_map, List.map_map]
  exact List.map_congr_left fun e _ => rfl
/-- No pair can be made one. -/
def Stuck (s : Spn) : Prop := ∀ i, dueI (szs s.bs) = some i → s.credit < ((nbt s.bs i).l.length + (nbt s.bs (i + 1)).l.length : Int)
theorem Twin.stuck {s r : Spn} (h : Twin s r) (k : Stuck s) : Stuck r := fun i hi => by
  rw [h.szs] at hi
  obtain ⟨h1, -⟩ := due_split hi
  rw [h.credit, h.cost (show i < s.bs.length by omega), h.cost h1]
  exact k i hi
theorem Twin.symm {s r : Spn} (h : Twin s r) : Twin r s := ⟨h.key.symm, h.since.symm, h.upper.symm, h.credit.symm, h.bs.symm⟩
theorem Merged.free {s s1 : Spn} (h : Merged s s1) : ¬ Stuck s := fun k => by
  obtain ⟨i, o, hd, h1, -⟩ := h.how
  have := k i hd
  omega
theorem Twin.merge {s r s1 r1 : Spn} (h : Twin s r) (a : Merged s s1) (b : Merged r r1) : Twin s1 r1 := by
  obtain ⟨i, o, hd, h1, h2, h3, -, h5⟩ := a.how
  obtain ⟨j, o', hd', h1', h2', h3', -, h5'⟩ := b.how
  obtain ⟨a1, a2, a3⟩ := a.same
  obtain ⟨b1, b2, b3⟩ := b.same
  rw [h.szs, hd] at hd'
  obtain rfl := Option.some.inj hd'
  obtain ⟨g1, -⟩ := due_split hd
  have e0 := h.at (show i < s.bs.length by omega)
  have e1 := h.at g1
  have c0 := h.cost (show i < s.bs.length by omega)
  have c1 := h.cost g1
  have ho : o'.l.map upd.pr = o.l.map upd.pr := by
    refine h3'.uniq upd.cmpUS (h3.of fun q => ?_)
    simp only [pr_lt1, h.since, List.map_append, e0, e1]
  have hnil : o'.l = [] ↔ o.l = [] := by
    constructor <;> intro h9
    · rw [h9] at ho; simpa using ho.symm
    · rw [h9] at ho; simpa using ho
  refine ⟨by rw [a1, b1, h.key], by rw [a2, b2, h.since], by rw [a3, b3, h.upper], by rw [h2, h2', h.credit, c0, c1], ?_⟩
  rw [h5, h5']
  have hb := h.bs
  unfold ps at *
  have ht : ∀ k, (r.bs.take k).map (fun b => b.l.map upd.pr) = (s.bs.take k).map (fun b => b.l.map upd.pr) := fun k => by rw [List.map_take, List.map_take, hb]
  have hdr : ∀ k, (r.bs.drop k).map (fun b => b.l.map upd.pr) = (s.bs.drop k).map (fun b => b.l.map upd.pr) := fun k => by rw [List.map_drop, List.map_drop, hb]
  rw [List.map_append, List.map_append, hdr]
  by_cases h9 : o.l = []
  · rw [if_pos h9, if_pos (hnil.2 h9), ht]
  · rw [if_neg h9, if_neg (fun h8 => h9 (hnil.1 h8)), List.map_append, List.map_append, ht]
    simp [ho]
theorem Works.head {s s' : Spn} (h : Works s s') : s' = s ∨ ∃ s1, Merged s s1 ∧ Works s1 s' := by
  induction h with
  | refl => exact Or.inl rfl
  | step _ hm ih =>
    rcases ih with rfl | ⟨s1, h1, h2⟩
    · exact Or.inr ⟨_, hm, .refl _⟩
    · exact Or.inr ⟨s1, h1, .step h2 hm⟩
theorem works_same : ∀ (n : Nat) {s0 r0 s r : Spn}, s0.bs.length ≤ n → Twin s0 r0 → Works s0 s → Works r0 r → Stuck s → Stuck r → Twin s r
  | n, s0, r0, s, r, hn, ht, hs, hr, ks, kr => by
    rcases hs.head with rfl | ⟨s1, h1, h2⟩
    · rcases hr.head with rfl | ⟨r1, g1, -⟩
      · exact ht
      · exact absurd (ht.stuck ks) g1.free
    · rcases hr.head with rfl | ⟨r1, g1, g2⟩
      · exact absurd (ht.symm.stuck kr) h1.free
      · have hl := h1.len
        match n, hn with
        | 0, hn => omega
        | n + 1, hn => exact works_same n (by omega) (ht.merge h1 g1) h2 g2 ks kr
theorem ps_more (bs : List Bt) (b : Bt) : ps (more bs b) = ps bs ++ (if b.l.map upd.pr = [] then [] else [b.l.map upd.pr]) := by
  unfold more ps
  by_cases h : b.l = []
  · rw [if_pos h, h]; simp
  · rw [if_neg h, if_neg (by simpa using h)]; simp
theorem Twin.add {s r : Spn} (h : Twin s r) {b b' : Bt} {l : List upd.El} {va va' : Option Addr} {vc vc' : Nat} {t : Int} (c : Canon upd.cmpU (b.l.map upd.pr) (fun q => 1 * sumK (l.map upd.pr) q)) (c' : Canon upd.cmpU (b'.l.map upd.pr) (fun q => 1 * sumK (l.map upd.pr) q)) :
    Twin { s with va := va, vc := vc, upper := t, bs := more s.bs b } { r with va := va', vc := vc', upper := t, bs := more r.bs b' } := by
  refine ⟨h.key, h.since, rfl, h.credit, ?_⟩
  show ps (more r.bs b') = ps (more s.bs b)
  rw [ps_more, ps_more, h.bs, c'.uniq upd.cmpUS c]
theorem Twin.addE {s r : Spn} (h : Twin s r) (t : Int) (l : List upd.El) : addE r t l = addE s t l := by
  unfold Go.Proofs.YtjchlfblbmiceaaGreat.addE
  rw [h.key, h.upper]
theorem Twin.askE {s r : Spn} (h : Twin s r) (t : Int) : askE r t = askE s t := ask_same h.since h.upper
theorem Twin.compact {s r : Spn} (h : Twin s r) (t : Int) : Twin { s with since := t } { r with since := t } := ⟨h.key, rfl, h.upper, h.credit, h.bs⟩
theorem Twin.fuel {s r : Spn} (h : Twin s r) (n : Int) : Twin { s with credit := s.credit + n } { r with credit := r.credit + n } := ⟨h.key, h.since, h.upper, by show r.credit + n = s.credit + n; rw [h.credit], h.bs⟩
theorem Twin.zero {s r : Spn} (h : Twin s r) : Twin { s with credit := 0 } { r with credit := 0 } := ⟨h.key, h.since, h.upper, rfl, h.bs⟩
theorem Twin.clone {s r : Spn} (h : Twin s r) (va va' : Option Addr) (vc vc' : Nat) : Twin { s with va := va, vc := vc } { r with va := va', vc := vc' } := ⟨h.key, h.since, h.upper, h.credit, h.bs⟩
/-- What Works comes to at the end. -/
def WorkEnd (s : Spn) (lf : Int) (s' : Spn) : Prop := (dueI (szs s.bs) = none ∧ lf = s.credit ∧ s' = { s with credit := 0 }) ∨ (∃ i, dueI (szs s.bs) = some i ∧ s.credit < ((nbt s.bs i).l.length + (nbt s.bs (i + 1)).l.length : Int) ∧ lf = 0 ∧ s' = s)
theorem WorkEnd.stuck {s s' : Spn} {lf : Int} (h : WorkEnd s lf s') : Stuck s := fun i hi => by
  rcases h with ⟨h1, -⟩ | ⟨j, h1, h2, -⟩
  · rw [hi] at h1; cases h1
  · rw [hi] at h1
    obtain rfl := Option.some.inj h1
    exact h2
theorem WorkEnd.same {s r s' r' : Spn} {a b : Int} (t : Twin s r) (h : WorkEnd s a s') (k : WorkEnd r b r') : a = b ∧ Twin s' r' := by
  rcases h with ⟨h1, rfl, rfl⟩ | ⟨i, h1, h2, rfl, rfl⟩
  · rcases k with ⟨k1, rfl, rfl⟩ | ⟨j, k1, -⟩
    · exact ⟨t.credit.symm, t.zero⟩
    · rw [t.szs, h1] at k1; cases k1
  · rcases k with ⟨k1, -⟩ | ⟨j, k1, k2, rfl, rfl⟩
    · rw [t.szs, h1] at k1; cases k1
    · exact ⟨rfl, t⟩
theorem works_end {s0 r0 s r s' r' : Spn} {a b : Int} (t : Twin s0 r0) (hs : Works s0 s) (hr : Works r0 r) (h : WorkEnd s a s') (k : WorkEnd r b r') : a = b ∧ Twin s' r' :=
  WorkEnd.same (works_same _ (Nat.le_refl _) t hs hr h.stuck k.stuck) h k
theorem Gd.works_end {key : List Int} {k : Nat} {s s1 s' : Spn} {all : List upd.El} {lf : Int} (g : Gd key k s all) (hw : Works s s1) (h : WorkEnd s1 lf s') : Gd key k s' all := by
  rcases h with ⟨-, -, rfl⟩ | ⟨i, -, -, -, rfl⟩
  · exact (g.works hw).zero
  · exact g.works hw

/-! ### a spine and the reference's in memory -/
structure Duo where
  p : Nat
  wb : Option Nat
  s : Spn
  q : Nat
  qb : Option Nat
  r : Spn
instance : Inhabited Duo := ⟨⟨0, none, ⟨none, 0, [], none, 0, [], 0, 0, 0⟩, 0, none, ⟨none, 0, [], none, 0, [], 0, 0, 0⟩⟩⟩
/-- Its blocks that are written. -/
def Duo.own (d : Duo) : List Nat := wbL d.p d.wb ++ wbL d.q d.qb
theorem Duo.mem (d : Duo) (x : Nat) : x ∈ d.own ↔ x = d.p ∨ d.wb = some x ∨ x = d.q ∨ d.qb = some x := by
  unfold Duo.own wbL
  simp only [List.cons_append, List.mem_cons, List.mem_append, Option.mem_toList]
structure DuoAt (w : World) (d : Duo) : Prop where
  sp : SpAt w d.p d.wb d.s
  rf : RfAt w d.q d.qb d.r
  sep : ∀ g, d.wb = some g → d.qb ≠ some g
structure DuoOk (key : List Int) (k : Nat) (d : Duo) (all : List upd.El) : Prop where
  s : Gd key k d.s all
  r : Gd key k d.r all
  t : Twin d.s d.r
theorem DuoOk.mono {key : List Int} {k k' : Nat} {d : Duo} {all : List upd.El} (h : DuoOk key k d all) (hk : k ≤ k') (h6 : k' ≤ 60) : DuoOk key k' d all := ⟨h.s.mono hk h6, h.r.mono hk h6, h.t⟩
theorem SpAt.lt {w : World} {p : Nat} {wb : Option Nat} {s : Spn} (h : SpAt w p wb s) : p < w.heap.size ∧ ∀ g, wb = some g → g < w.heap.size :=
  ⟨(Array.getElem?_eq_some_iff.1 h.blk).1, fun g hg => by obtain ⟨c, hc⟩ := h.own.ty hg; exact (Array.getElem?_eq_some_iff.1 hc).1⟩
theorem RfAt.lt {w : World} {p : Nat} {wb : Option Nat} {s : Spn} (h : RfAt w p wb s) : p < w.heap.size ∧ ∀ g, wb = some g → g < w.heap.size :=
  ⟨(Array.getElem?_eq_some_iff.1 h.blk).1, fun g hg => by obtain ⟨c, hc⟩ := h.own.ty hg; exact (Array.getElem?_eq_some_iff.1 hc).1⟩
theorem DuoAt.lt {w : World} {d : Duo} (h : DuoAt w d) : ∀ x ∈ d.own, x < w.heap.size := fun x hx => by
  rcases (d.mem x).1 hx with rfl | hx | rfl | hx
  · exact h.sp.lt.1
  · exact h.sp.lt.2 x hx
  · exact h.rf.lt.1
  · exact h.rf.lt.2 x hx
theorem DuoAt.ty {w : World} {d : Duo} (h : DuoAt w d) : TyC w d.own := h.sp.tyB.c.app h.rf.tyB
theorem DuoAt.frC {w w' : World} {S : List Nat} {d : Duo} (h : DuoAt w d) (f : Fr S w w') (hS : TyC w S) (hn : ∀ x ∈ d.own, x ∉ S) : DuoAt w' d :=
  ⟨h.sp.frC f hS (hn _ ((d.mem _).2 (Or.inl rfl))) (fun g hg => hn g ((d.mem g).2 (Or.inr (Or.inl hg)))), h.rf.frC f hS (hn _ ((d.mem _).2 (Or.inr (Or.inr (Or.inl rfl))))) (fun g hg => hn g ((d.mem g).2 (Or.inr (Or.inr (Or.inr hg))))), h.sep⟩
theorem DuoAt.fr {w w' : World} {d : Duo} (h : DuoAt w d) (f : Fr [] w w') : DuoAt w' d := h.frC f (TyC.nil _) (by simp)
/-- The blocks of the reference's spine are none of the program's. -/
theorem DuoAt.far {w : World} {d : Duo} (h : DuoAt w d) : (∀ x ∈ wbL d.p d.wb, x ∉ wbL d.q d.qb) := by
  intro x hx hy
  unfold wbL at hx hy
  simp only [List.mem_cons, Option.mem_toList] at hx hy
  rcases hx with rfl | hx
  · rcases hy with e | hy
    · have h1 := h.sp.blk
      rw [e, h.rf.blk] at h1; simp at h1
    · obtain ⟨c, hc⟩ := h.rf.own.ty hy
      rw [h.sp.blk] at hc; simp at hc
  · rcases hy with e | hy
    · obtain ⟨c, hc⟩ := h.sp.own.ty hx
      rw [e, h.rf.blk] at hc; simp at hc
    · exact h.sep x hx hy
/-- A block is the same, or new. -/
def Nw (n : Nat) (a b : Option Nat) : Prop := b = a ∨ ∀ g, b = some g → n ≤ g
/-- What a call makes of a pair. -/
structure DuoTo (w : World) (d d' : Duo) : Prop where
  p : d'.p = d.p
  q : d'.q = d.q
  wb : Nw w.heap.size d.wb d'.wb
  qb : Nw w.heap.size d.qb d'.qb
theorem DuoTo.refl (w : World) (d : Duo) : DuoTo w d d := ⟨rfl, rfl, Or.inl rfl, Or.inl rfl⟩
theorem DuoTo.own {w : World} {d d' : Duo} (h : DuoTo w d d') : ∀ x ∈ d'.own, x ∈ d.own ∨ w.heap.size ≤ x := fun x hx => by
  rcases (d'.mem x).1 hx with e | e | e | e
  · exact Or.inl ((d.mem x).2 (Or.inl (e.trans h.p)))
  · rcases h.wb with h9 | h9
    · exact Or.inl ((d.mem x).2 (Or.inr (Or.inl (h9 ▸ e))))
    · exact Or.inr (h9 x e)
  · exact Or.inl ((d.mem x).2 (Or.inr (Or.inr (Or.inl (e.trans h.q)))))
  · rcases h.qb with h9 | h9
    · exact Or.inl ((d.mem x).2 (Or.inr (Or.inr (Or.inr (h9 ▸ e)))))
    · exact Or.inr (h9 x e)
/-- The program's spine was called, then the reference's. -/
theorem duo_sr {w w5 w6 : World} {d : Duo} {s2 r2 : Spn} {wb2 qb2 : Option Nat} (h : DuoAt w d) (f5 : Fr (wbL d.p d.wb) w w5) (hs : SpAt w5 d.p wb2 s2) (hw : Nw w.heap.size d.wb wb2) (f6 : Fr (wbL d.q d.qb) w5 w6) (hr : RfAt w6 d.q qb2 r2) (hq : Nw w5.heap.size d.qb qb2) :
    DuoAt w6 ⟨d.p, wb2, s2, d.q, qb2, r2⟩ ∧ Fr d.own w w6 ∧ DuoTo w d ⟨d.p, wb2, s2, d.q, qb2, r2⟩ := by
  have hr5 := h.rf.frC f5 h.sp.tyB.c (fun hx => h.far _ hx (wbL_p _ _)) (fun g hg hx => h.far _ hx (by unfold wbL; rw [hg]; simp))
  have hsz := f5.size
  have hsw : ∀ g, wb2 = some g → g ∉ wbL d.q d.qb := fun g hg hx => by
    rcases hw with h9 | h9
    · exact h.far g (by unfold wbL; rw [← h9, hg]; simp) hx
    · have := h9 g hg
      have := h.lt g (List.mem_append_right _ hx)
      omega
  refine ⟨⟨hs.frC f6 hr5.tyB (fun hx => h.far _ (wbL_p _ _) hx) hsw, hr, fun g hg hg2 => ?_⟩, (f5.mono fun x hx => List.mem_append_left _ hx).trans (f6.mono fun x hx => List.mem_append_right _ hx), ⟨rfl, rfl, hw, ?_⟩⟩
  · have hg1 : wb2 = some g := hg
    have hq1 : qb2 = some g := hg2
    rcases hq with h9 | h9
    · exact hsw g hg1 (by unfold wbL; rw [← h9, hq1]; simp)
    · have := h9 g hq1
      have := hs.lt.2 g hg1
      omega
  · rcases hq with h9 | h9
    · exact Or.inl h9
    · exact Or.inr fun g hg => Nat.le_trans hsz (h9 g hg)
/-- The reference's spine was called, then the program's. -/
theorem duo_rs {w w5 w6 : World} {d : Duo} {s2 r2 : Spn} {wb2 qb2 : Option Nat} (h : DuoAt w d) (f5 : Fr (wbL d.q d.qb) w w5) (hr : RfAt w5 d.q qb2 r2) (hq : Nw w.heap.size d.qb qb2) (f6 : Fr (wbL d.p d.wb) w5 w6) (hs : SpAt w6 d.p wb2 s2) (hw : Nw w5.heap.size d.wb wb2) :
    DuoAt w6 ⟨d.p, wb2, s2, d.q, qb2, r2⟩ ∧ Fr d.own w w6 ∧ DuoTo w d ⟨d.p, wb2, s2, d.q, qb2, r2⟩ := by
  have hs5 := h.sp.frC f5 h.rf.tyB (fun hx => h.far _ (wbL_p _ _) hx) (fun g hg hx => h.far g (by unfold wbL; rw [hg]; simp) hx)
  have hsz := f5.size
  have hsw : ∀ g, qb2 = some g → g ∉ wbL d.p d.wb := fun g hg hx => by
    rcases hq with h9 | h9
    · exact h.far g hx (by unfold wbL; rw [← h9, hg]; simp)
    · have := h9 g hg
      have := h.lt g (List.mem_append_left _ hx)
      omega
  refine ⟨⟨hs, hr.frC f6 hs5.tyB.c (fun hx => h.far _ hx (wbL_p _ _)) hsw, fun g hg hg2 => ?_⟩, (f5.mono fun x hx => List.mem_append_right _ hx).trans (f6.mono fun x hx => List.mem_append_left _ hx), ⟨rfl, rfl, ?_, hq⟩⟩
  · have hg1 : wb2 = some g := hg
    have hq1 : qb2 = some g := hg2
    rcases hw with h9 | h9
    · exact hsw g hq1 (by unfold wbL; rw [← h9, hg1]; simp)
    · have := h9 g hg1
      have := hr.lt.2 g hq1
      omega
  · rcases hw with h9 | h9
    · exact Or.inl h9
    · exact Or.inr fun g hg => Nat.le_trans hsz (h9 g hg)
def nduo (l : List Duo) (k : Nat) : Duo := (l[k]?).getD default
theorem nduo_at {l : List Duo} {k : Nat} (h : k < l.length) : l[k]? = some (nduo l k) := by unfold nduo; rw [List.getElem?_eq_getElem h]; rfl
/-- Pairs that have no block in common. -/
structure Duos (w : World) (key : List Int) (k : Nat) (ds : List Duo) : Prop where
  here : ∀ i, i < ds.length → DuoAt w (nduo ds i)
  ok : ∀ i, i < ds.length → ∃ all, DuoOk key k (nduo ds i) all
  far : ∀ i j, i < ds.length → j < ds.length → i ≠ j → ∀ x ∈ (nduo ds i).own, x ∉ (nduo ds j).own
theorem Duos.fr {w w' : World} {key : List Int} {k : Nat} {ds : List Duo} (h : Duos w key k ds) (f : Fr [] w w') : Duos w' key k ds := ⟨fun i hi => (h.here i hi).fr f, h.ok, h.far⟩
theorem Duos.frC {w w' : World} {S : List Nat} {key : List Int} {k : Nat} {ds : List Duo} (h : Duos w key k ds) (f : Fr S w w') (hS : TyC w S) (hn : ∀ i, i < ds.length → ∀ x ∈ (nduo ds i).own, x ∉ S) : Duos w' key k ds := ⟨fun i hi => (h.here i hi).frC f hS (hn i hi), h.ok, h.far⟩
theorem Duos.mono {w : World} {key : List Int} {k k' : Nat} {ds : List Duo} (h : Duos w key k ds) (hk : k ≤ k') (h6 : k' ≤ 60) : Duos w key k' ds := ⟨h.here, fun i hi => by obtain ⟨all, ho⟩ := h.ok i hi; exact ⟨all, ho.mono hk h6⟩, h.far⟩
theorem nduo_set {l : List Duo} {i j : Nat} {d : Duo} (hi : i < l.length) : nduo (l.set i d) j = if j = i then d else nduo l j := by
  unfold nduo
  rw [List.getElem?_set]
  by_cases h : i = j
  · rw [if_pos h, if_pos h.symm, if_pos (by omega)]; rfl
  · rw [if_neg h, if_neg (fun e => h e.symm)]
/-- A call on one of them. -/
theorem Duos.step {w w' : World} {key : List Int} {k i : Nat} {ds : List Duo} {d' : Duo} {all : List upd.El} (h : Duos w key k ds) (hi : i < ds.length) (f : Fr (nduo ds i).own w w') (ha : DuoAt w' d') (ho : DuoOk key (k + 1) d' all) (ht : DuoTo w (nduo ds i) d') : Duos w' key (k + 1) (ds.set i d') := by
  have hk := ho.s.few
  refine ⟨fun j hj => ?_, fun j hj => ?_, fun a b h1 h2 hab x hx => ?_⟩
  · rw [List.length_set] at hj
    rw [nduo_set hi]
    split
    · exact ha
    · rename_i hne
      exact (h.here j hj).frC f (h.here i hi).ty (h.far j i hj hi hne)
  · rw [List.length_set] at hj
    rw [nduo_set hi]
    split
    · exact ⟨all, ho⟩
    · obtain ⟨all', h9⟩ := h.ok j hj
      exact ⟨all', h9.mono (by omega) hk⟩
  · rw [List.length_set] at h1 h2
    rw [nduo_set hi] at hx ⊢
    by_cases e1 : a = i
    · rw [if_pos e1] at hx
      rw [if_neg (by omega)]
      intro hy
      rcases ht.own x hx with h9 | h9
      · exact h.far i b hi h2 (by omega) x h9 hy
      · have := (h.here b h2).lt x hy
        omega
    · rw [if_neg e1] at hx
      by_cases e2 : b = i
      · rw [if_pos e2]
        intro hy
        rcases ht.own x hy with h9 | h9
        · exact h.far a i h1 hi (by omega) x hx h9
        · have := (h.here a h1).lt x hx
          omega
      · rw [if_neg e2]
        exact h.far a b h1 h2 hab x hx
/-- One more. -/
theorem Duos.more {w w' : World} {key : List Int} {k : Nat} {ds : List Duo} {d' : Duo} {all : List upd.El} (h : Duos w key k ds) (hk : k + 1 ≤ 60) (f : Fr [] w w') (ha : DuoAt w' d') (ho : DuoOk key (k + 1) d' all) (hn : ∀ x ∈ d'.own, w.heap.size ≤ x) : Duos w' key (k + 1) (ds ++ [d']) := by
  have e1 : ∀ j, j < ds.length → nduo (ds ++ [d']) j = nduo ds j := fun j hj => by unfold nduo; rw [List.getElem?_append_left hj]
  have e2 : nduo (ds ++ [d']) ds.length = d' := by unfold nduo; simp
  refine ⟨fun j hj => ?_, fun j hj => ?_, fun a b h1 h2 hab x hx => ?_⟩
  · rw [List.length_append] at hj
    by_cases e : j < ds.length
    · rw [e1 j e]; exact (h.here j e).fr f
    · obtain rfl : j = ds.length := by simp at hj; omega
      rw [e2]; exact ha
  · rw [List.length_append] at hj
    by_cases e : j < ds.length
    · rw [e1 j e]
      obtain ⟨all', h9⟩ := h.ok j e
      exact ⟨all', h9.mono (by omega) hk⟩
    · obtain rfl : j = ds.length := by simp at hj; omega
      rw [e2]; exact ⟨all, ho⟩
  · rw [List.length_append] at h1 h2
    simp only [List.length_cons, List.length_nil] at h1 h2
    by_cases c1 : a < ds.length
    · rw [e1 a c1] at hx
      by_cases c2 : b < ds.length
      · rw [e1 b c2]; exact h.far a b c1 c2 hab x hx
      · obtain rfl : b = ds.length := by omega
        rw [e2]
        intro hy
        have := hn x hy
        have := (h.here a c1).lt x hx
        omega
    · obtain rfl : a = ds.length := by omega
      rw [e2] at hx
      rw [e1 b (by omega)]
      intro hy
      have := hn x hx
      have := (h.here b (by omega)).lt x hy
      omega
theorem DuoOk.clone {key : List Int} {k : Nat} {d : Duo} {all : List upd.El} (h : DuoOk key k d all) (hk : k + 1 ≤ 60) (p q : Nat) (wb qb : Option Nat) (va va' : Option Addr) (vc vc' : Nat) : DuoOk key (k + 1) ⟨p, wb, { d.s with va := va, vc := vc }, q, qb, { d.r with va := va', vc := vc' }⟩ all :=
  ⟨(h.s.clone va vc).mono (by omega) hk, (h.r.clone va' vc').mono (by omega) hk, h.t.clone va va' vc vc'⟩
end Go.Proofs.YtjchlfblbmiceaaGreat
