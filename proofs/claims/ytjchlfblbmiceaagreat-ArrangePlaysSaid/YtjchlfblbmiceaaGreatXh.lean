/- ArrangePlays: the law's step. No condition but the sizes. -/
import Derived.Test.YtjchlfblbmiceaaGreatXb
import Derived.Test.YtjchlfblbmiceaaGreatXg
import Derived.Deep.RegionWith
namespace Go.Proofs.YtjchlfblbmiceaaGreat
open Go.RowKit srt grp

/-- A spine is not touched by what is written into a list of updates that none of its batches is. -/
theorem spine_farF {w w' : World} {S : List Nat} {p : Nat} {wb : Option Nat} {s : Spn} (h : SpAt w p wb s) (f : Fr S w w') (hty : ∀ x ∈ S, ∃ cur, w.heap[x]? = some (.cells cur 65)) (hf : ∀ b ∈ s.bs, ∀ x ∈ S, b.ba ≠ some ⟨x, 0, none⟩) : SpAt w' p wb s := by
  have hn : ∀ {b : Nat} {cur : Array Value} {t : Nat}, w.heap[b]? = some (.cells cur t) → t ≠ 65 → b ∉ S := fun hb ht hx => by
    obtain ⟨c, hc⟩ := hty _ hx
    rw [hb] at hc
    simp only [Option.some.injEq, Obj.cells.injEq] at hc
    exact ht hc.2.1
  refine ⟨f.heap h.blk (hn h.blk (by decide)), ?_, h.own.frS f fun g hg => ?_, fun b hb => ⟨?_, fun e he => ⟨?_, ((h.bts b hb).2 e he).2⟩⟩⟩
  · rcases h.key with h9 | ⟨b, c, cur, hv, hc, hh, htk⟩
    · exact Or.inl h9
    · exact Or.inr ⟨b, c, cur, hv, hc, f.heap hh (hn hh (by decide)), htk⟩
  · obtain ⟨c, hc⟩ := h.own.ty hg
    exact hn hc (by decide)
  · rcases (h.bts b hb).1 with h9 | ⟨g, c, cur, h1, hv, hc, hh, htk⟩
    · exact Or.inl h9
    · refine Or.inr ⟨g, c, cur, h1, hv, hc, f.heap hh (fun hx => ?_), htk⟩
      unfold Bt.v at hv
      simp only [Value.slice.injEq] at hv
      exact hf b hb g hx hv.1
  · rcases ((h.bts b hb).2 e he).1 with h9 | ⟨g, cap, cur, h1, hv, hc, hh, htk⟩
    · exact Or.inl h9
    · exact Or.inr ⟨g, cap, cur, h1, hv, hc, f.heap hh (hn hh (by decide)), htk⟩
/-- A list of updates that may be written. -/
def UpW (lo : Nat) (w : World) (a : Option Addr) (n : Nat) : Prop := n = 0 ∨ ∃ g cur, lo ≤ g ∧ a = some ⟨g, 0, none⟩ ∧ w.heap[g]? = some (.cells cur 65) ∧ n * 3 ≤ cur.size
theorem own_upW {w : World} {base n : Nat} {a : Option Addr} {c : Nat} {xs : List Value} (ho : w.ownsRow base 65 3 (.slice a n c) n xs) : UpW base w a n := by
  rcases ho.2 with ⟨-, h2⟩ | ⟨g, cap, cur, hv, hb, hg, hcl, -, hsz, -⟩
  · exact Or.inl h2
  · simp only [Value.slice.injEq] at hv
    exact Or.inr ⟨g, cur, hb, hv.1, hg, by rw [hsz]; exact Nat.mul_le_mul_right 3 (by omega)⟩
theorem UpW.at {lo n : Nat} {w : World} {a : Option Addr} (h : UpW lo w a n) {k : Nat} (hk : k < n) : ∃ g u0 u1 u2, lo ≤ g ∧ a = some ⟨g, 0, none⟩ ∧ w.cell? ⟨g, k * 3, none⟩ = some u0 ∧ w.cell? ⟨g, k * 3 + 1, none⟩ = some u1 ∧ w.cell? ⟨g, k * 3 + 2, none⟩ = some u2 ∧ (∀ o, w.frozen? ⟨g, o, none⟩ = false) ∧ ∀ v0 v1 v2, UpW lo (((w.setCell ⟨g, k * 3, none⟩ v0).setCell ⟨g, k * 3 + 1, none⟩ v1).setCell ⟨g, k * 3 + 2, none⟩ v2) a n := by
  rcases h with h | ⟨g, cur, h1, h2, h3, h4⟩
  · omega
  · exact ⟨g, cur[k * 3], cur[k * 3 + 1], cur[k * 3 + 2], h1, h2, by simp [World.cell?, h3], by simp [World.cell?, h3], by simp [World.cell?, h3], fun o => by simp [World.frozen?, h3], fun v0 v1 v2 => Or.inr ⟨g, _, h1, h2, heap_set (heap_set (heap_set h3)), by simpa using h4⟩⟩
theorem UpW.fr {lo n : Nat} {w w' : World} {a : Option Addr} (h : UpW lo w a n) (f : Fr [] w w') : UpW lo w' a n := by
  rcases h with h | ⟨g, cur, h1, h2, h3, h4⟩
  · exact Or.inl h
  · exact Or.inr ⟨g, cur, h1, h2, f.heap h3 (by simp), h4⟩
/-- The block of such a list. -/
def bkL (a : Option Addr) (n : Nat) : List Nat := if n = 0 then [] else (a.map Addr.block).toList
theorem UpW.ty {lo n : Nat} {w : World} {a : Option Addr} (h : UpW lo w a n) : ∀ x ∈ bkL a n, lo ≤ x ∧ ∃ cur, w.heap[x]? = some (.cells cur 65) := by
  intro x hx
  unfold bkL at hx
  rcases h with h | ⟨g, cur, h1, h2, h3, h4⟩
  · rw [if_pos h] at hx; simp at hx
  · split at hx
    · simp at hx
    · rw [h2] at hx
      simp only [Option.map_some, Option.toList_some, List.mem_singleton] at hx
      subst hx
      exact ⟨h1, cur, h3⟩
theorem bkL_mem {g n k : Nat} (hk : k < n) : g ∈ bkL (some ⟨g, 0, none⟩) n := by
  unfold bkL
  rw [if_neg (by omega)]
  simp

/-! ### what is told -/
def findEr (s : Spn) (kr : List Dt) (t : Int) : Int := if kr.length = s.key.length then askE s t else 132
def FindSays (s : Spn) (kr : List Dt) (t er : Int) (outs : List El) : Prop :=
  er = findEr s kr t ∧ (findEr s kr t ≠ 0 → outs = []) ∧ (findEr s kr t = 0 → Canon cmpR (outs.map pr) (fun r => 1 * sumK ((atL (s.fl.filter (findB s.key kr t)) t).map pr) r))
def FindSaysR (s : Spn) (kr : List Dt) (t er : Int) (outs : List El) : Prop :=
  er = findEr s kr t ∧ (findEr s kr t ≠ 0 → outs = []) ∧ (findEr s kr t = 0 → ∃ o : List El, outs = o.filter (fun c => keyedR s.key kr c.rd) ∧ Canon cmpR (o.map pr) (fun r => 1 * sumK ((atL s.fl t).map pr) r)) ∧ outs.length ≤ 8000
theorem nil_in (n : Nat) (w : World) : ListIn n w (.slice none ([] : List El).length 0) [] := ⟨Or.inl ⟨none, 0, rfl, fun _ => rfl, rfl⟩, by simp⟩
theorem findAns_any {w : World} {p : Nat} {wb : Option Nat} {s : Spn} {ka : Option Addr} {kc : Nat} {kr : List Dt} (h : SpAt w p wb s) (hk : SpOk s) (hw : ∀ e ∈ s.fl, ∀ k ∈ s.key, 0 ≤ k ∧ k < (e.rd.length : Int)) (hr : RowAt w (.slice ka kr.length kc) kr) (hkc : kr.length ≤ kc) (hkl : kr.length ≤ 4398046511103) (t : Int) :
    Calls Tryz.prog 50 #[.pointer (some ⟨p, 0, none⟩), .slice ka kr.length kc, .int .i64 t] w fun e w' => ∃ (outs : List El) (a : Option Addr) (c : Nat) (er : Int), e = .returned (.tuple #[.slice a outs.length c, .int .i64 er]) ∧ Fr [] w w' ∧ ListIn w.heap.size w' (.slice a outs.length c) outs ∧ Hid (FindSays s kr t er outs) :=
  (spFind_any h hk hw hr hkc hkl t).mono fun e w' ⟨f, hx⟩ => by
    rcases hx with ⟨h1, he⟩ | ⟨h1, h2, he⟩ | ⟨h1, h2, outs, a, c, he, hl, hc⟩
    · have e1 : findEr s kr t = 132 := by unfold findEr; rw [if_neg h1]
      exact ⟨[], none, 0, 132, he, f, nil_in _ _, Lib.hid ⟨e1.symm, fun _ => rfl, fun h9 => by rw [e1] at h9; cases h9⟩⟩
    · have e1 : findEr s kr t = askE s t := by unfold findEr; rw [if_pos h1]
      exact ⟨[], none, 0, askE s t, he, f, nil_in _ _, Lib.hid ⟨e1.symm, fun _ => rfl, fun h9 => by rw [e1] at h9; exact absurd h9 h2⟩⟩
    · have e1 : findEr s kr t = askE s t := by unfold findEr; rw [if_pos h1]
      exact ⟨outs, a, c, 0, he, f, hl, Lib.hid ⟨by rw [e1, h2], fun h9 => by rw [e1] at h9; exact absurd h2 h9, fun _ => hc⟩⟩
theorem rfFindAns_any {w : World} {p : Nat} {wb : Option Nat} {s : Spn} {ka : Option Addr} {kc : Nat} {kr : List Dt} (h : RfAt w p wb s) (hk : SpOk s) (hw : ∀ e ∈ s.fl, ∀ k ∈ s.key, 0 ≤ k ∧ k < (e.rd.length : Int)) (hr : RowAt w (.slice ka kr.length kc) kr) (t : Int) :
    Calls Tryz.prog 51 #[.pointer (some ⟨p, 0, none⟩), .slice ka kr.length kc, .int .i64 t] w fun e w' => ∃ (outs : List El) (a : Option Addr) (c : Nat) (er : Int), e = .returned (.tuple #[.slice a outs.length c, .int .i64 er]) ∧ Fr [] w w' ∧ Cts w' (.slice a outs.length c) outs ∧ Hid (FindSaysR s kr t er outs) :=
  (rfFind_any h hk hw hr t).mono fun e w' ⟨f, hx⟩ => by
    rcases hx with ⟨h1, he⟩ | ⟨h1, h2, he⟩ | ⟨h1, h2, o, a, c, he, hl, hc, hn⟩
    · have e1 : findEr s kr t = 132 := by unfold findEr; rw [if_neg h1]
      exact ⟨[], none, 0, 132, he, f, (nil_in 0 _).cts, Lib.hid ⟨e1.symm, fun _ => rfl, fun h9 => (by rw [e1] at h9; cases h9), by simp⟩⟩
    · have e1 : findEr s kr t = askE s t := by unfold findEr; rw [if_pos h1]
      exact ⟨[], none, 0, askE s t, he, f, (nil_in 0 _).cts, Lib.hid ⟨e1.symm, fun _ => rfl, fun h9 => (by rw [e1] at h9; exact absurd h9 h2), by simp⟩⟩
    · have e1 : findEr s kr t = askE s t := by unfold findEr; rw [if_pos h1]
      exact ⟨_, a, c, 0, he, f, hl, Lib.hid ⟨by rw [e1, h2], fun h9 => (by rw [e1] at h9; exact absurd h2 h9), fun _ => ⟨o, rfl, hc⟩, Nat.le_trans (List.length_filter_le _ _) hn⟩⟩
theorem FindSays.two {key : List Int} {k : Nat} {d : Duo} {all : List upd.El} {kr : List Dt} {t e e2 : Int} {o o2 : List El} (g : DuoOk key k d all) (h : FindSays d.s kr t e o) (h' : FindSaysR d.r kr t e2 o2) : e2 = e ∧ o.map pr = o2.map pr ∧ o.length ≤ 8000 := by
  obtain ⟨a1, a2, a3⟩ := h
  obtain ⟨b1, b2, b3, b4⟩ := h'
  have he : findEr d.r kr t = findEr d.s kr t := by unfold findEr; rw [g.t.key, g.t.askE]
  rw [he] at b1 b2 b3
  refine ⟨b1.trans a1.symm, ?_⟩
  by_cases h0 : findEr d.s kr t = 0
  · obtain ⟨m, rfl, hm⟩ := b3 h0
    have ha : askE d.s t = 0 := by
      unfold findEr at h0
      split at h0
      · exact h0
      · cases h0
    have hs : ∀ r, sumK ((atL d.s.fl t).map pr) r = sumK ((atL d.r.fl t).map pr) r := fun r => by
      have e1 : sumK ((atL d.s.fl t).map pr) r = _ := (g.s.inv.same).at (ask_ge ha).1 r
      have e2 : sumK ((atL d.r.fl t).map pr) r = _ := (g.r.inv.same).at (by rw [g.t.since]; exact (ask_ge ha).1) r
      rw [e1, e2]
    have hq := found_same hs (a3 h0) hm
    rw [g.t.key] at b4 ⊢
    refine ⟨hq, ?_⟩
    have hl := congrArg List.length hq
    rw [List.length_map, List.length_map] at hl
    omega
  · rw [a2 h0, b2 h0]; simp

/-- An answered list of updates, written from its front. -/
def TaleU (lo hi i : Nat) (w : World) (a : Option Addr) (l : List upd.El) : Prop :=
  l = [] ∨ ∃ g cur, lo ≤ g ∧ g < hi ∧ a = some ⟨g, 0, none⟩ ∧ w.heap[g]? = some (.cells cur 65) ∧ (∀ k, k < l.length → k * 3 + 2 < cur.size ∧ (i ≤ k → cur[k * 3]? = some (upd.nth l k).rv)) ∧ ∀ e ∈ l, e.rl ≤ 4398046511103 ∧ RowW lo hi w e.ra e.rl e.rc
theorem RowIn.rlU {lo : Nat} {w : World} {e : upd.El} (h : RowIn lo w e.rv e.rd) : e.rd.length = e.rl := by
  obtain ⟨a, c, hv, -⟩ := h.row.shape
  unfold upd.El.rv at hv
  simp only [Value.slice.injEq] at hv
  exact hv.2.1.symm
theorem upd.ListIn.tale {lo : Nat} {w : World} {a : Option Addr} {n c : Nat} {l : List upd.El} (h : upd.ListIn lo w (.slice a n c) l) : TaleU lo w.heap.size 0 w a l := by
  obtain ⟨h, hr⟩ := h
  rcases h with ⟨-, -, -, -, hl⟩ | ⟨g, c, cur, hb, hv, hc, hg, htk⟩
  · exact Or.inl hl
  · simp only [Value.slice.injEq] at hv
    refine Or.inr ⟨g, cur, hb, (Array.getElem?_eq_some_iff.1 hg).1, hv.1, hg, fun k hk => ?_, fun e he => ⟨by rw [← (hr e he).1.rlU]; exact (hr e he).2.len, (hr e he).1.rw⟩⟩
    obtain ⟨e0, e1, e2⟩ := upd.elsC_at l k _ (upd.nth_at hk)
    constructor
    · rw [← htk, List.getElem?_take_of_lt (by omega)] at e2
      have := (List.getElem?_eq_some_iff.1 e2).1
      simpa using this
    · intro _
      rw [← htk, List.getElem?_take_of_lt (by omega)] at e0
      simpa [upd.El.rv] using e0
theorem TaleU.spo {lo hi i : Nat} {w w' : World} {a : Option Addr} {l : List upd.El} (h : TaleU lo hi i w a l) (k : Spo w w') : TaleU lo hi i w' a l := by
  rcases h with h | ⟨g, cur, h1, h2, h3, h4, h5, h6⟩
  · exact Or.inl h
  · obtain ⟨c1, k1, -, k3⟩ := k g cur _ h4
    rw [k3 (by decide)] at k1
    exact Or.inr ⟨g, cur, h1, h2, h3, k1, h5, fun e he => ⟨(h6 e he).1, (h6 e he).2.spo k⟩⟩
theorem TaleU.cell {lo hi i : Nat} {w : World} {a : Option Addr} {l : List upd.El} (h : TaleU lo hi i w a l) (hk : i < l.length) :
    ∃ g u u2, lo ≤ g ∧ g < hi ∧ a = some ⟨g, 0, none⟩ ∧ w.cell? ⟨g, i * 3, none⟩ = some (.slice (upd.nth l i).ra (upd.nth l i).rl (upd.nth l i).rc) ∧ w.cell? ⟨g, i * 3 + 1, none⟩ = some u ∧ w.cell? ⟨g, i * 3 + 2, none⟩ = some u2 ∧ w.frozen? ⟨g, i * 3, none⟩ = false ∧ w.frozen? ⟨g, i * 3 + 1, none⟩ = false ∧ w.frozen? ⟨g, i * 3 + 2, none⟩ = false ∧ (upd.nth l i).rl ≤ 4398046511103 ∧ RowW lo hi w (upd.nth l i).ra (upd.nth l i).rl (upd.nth l i).rc := by
  rcases h with h | ⟨g, cur, h1, h2, h3, h4, h5, h6⟩
  · rw [h] at hk; simp at hk
  · obtain ⟨a1, a2⟩ := h5 i hk
    obtain ⟨r1, r2⟩ := h6 _ (upd.nth_mem hk)
    exact ⟨g, cur[i * 3 + 1], cur[i * 3 + 2], h1, h2, h3, by simp [World.cell?, h4]; exact a2 (Nat.le_refl _), by simp [World.cell?, h4, show i * 3 + 1 < cur.size by omega], by simp [World.cell?, h4, a1], by simp [World.frozen?, h4], by simp [World.frozen?, h4], by simp [World.frozen?, h4], r1, r2⟩
theorem TaleU.next {lo hi i g : Nat} {w : World} {l : List upd.El} (h : TaleU lo hi i w (some ⟨g, 0, none⟩) l) (v v' v'' : Value) : TaleU lo hi (i + 1) (((w.setCell ⟨g, i * 3, none⟩ v).setCell ⟨g, i * 3 + 1, none⟩ v').setCell ⟨g, i * 3 + 2, none⟩ v'') (some ⟨g, 0, none⟩) l := by
  rcases h with h | ⟨g', cur, h1, h2, h3, h4, h5, h6⟩
  · exact Or.inl h
  · simp only [Option.some.injEq, Addr.mk.injEq, and_true] at h3
    subst h3
    refine Or.inr ⟨g, _, h1, h2, rfl, heap_set (heap_set (heap_set h4)), fun j hj => ?_, fun e he => ⟨(h6 e he).1, (((h6 e he).2.set h4 (by decide) v).set (heap_set h4) (by decide) v').set (heap_set (heap_set h4)) (by decide) v''⟩⟩
    obtain ⟨a1, a2⟩ := h5 j hj
    refine ⟨by simpa using a1, fun hij => ?_⟩
    rw [Array.getElem?_setIfInBounds_ne (by omega), Array.getElem?_setIfInBounds_ne (by omega), Array.getElem?_setIfInBounds_ne (by omega)]
    exact a2 (by omega)

/-! ### Compact and Work on a pair -/
/-- What Compact leaves. -/
def cs (s : Spn) (t : Int) : Spn := if askE s t = 0 then { s with since := t } else s
theorem compact_cs {w : World} {p : Nat} {wb : Option Nat} {s : Spn} (h : SpAt w p wb s) (t : Int) : Calls Tryz.prog 30 #[.pointer (some ⟨p, 0, none⟩), .int .i64 t] w fun e w' => e = .returned (.int .i64 (askE s t)) ∧ SpAt w' p wb (cs s t) ∧ Fr (wbL p wb) w w' :=
  (compact_any h t).mono fun e w' ⟨he, hx⟩ => by
    rcases hx with ⟨h0, hs, hf⟩ | ⟨h0, rfl⟩
    · exact ⟨he, by unfold cs; rw [if_pos h0]; exact hs, hf.mono (wbL_one p wb)⟩
    · exact ⟨he, by unfold cs; rw [if_neg h0]; exact h, Fr.refl _ _⟩
theorem rcompact_cs {w : World} {p : Nat} {wb : Option Nat} {s : Spn} (h : RfAt w p wb s) (t : Int) : Calls Tryz.prog 46 #[.pointer (some ⟨p, 0, none⟩), .int .i64 t] w fun e w' => e = .returned (.int .i64 (askE s t)) ∧ RfAt w' p wb (cs s t) ∧ Fr (wbL p wb) w w' :=
  (rcompact_any h t).mono fun e w' ⟨he, hx⟩ => by
    rcases hx with ⟨h0, hs, hf⟩ | ⟨h0, rfl⟩
    · exact ⟨he, by unfold cs; rw [if_pos h0]; exact hs, hf.mono (wbL_one p wb)⟩
    · exact ⟨he, by unfold cs; rw [if_neg h0]; exact h, Fr.refl _ _⟩
theorem DuoOk.cs {key : List Int} {k : Nat} {d : Duo} {all : List upd.El} (g : DuoOk key k d all) (hk : k + 1 ≤ 60) (t : Int) : DuoOk key (k + 1) ⟨d.p, d.wb, cs d.s t, d.q, d.qb, cs d.r t⟩ all := by
  have he := g.t.askE t
  unfold Go.Proofs.YtjchlfblbmiceaaGreat.cs
  rw [he]
  by_cases h : askE d.s t = 0
  · rw [if_pos h, if_pos h]
    exact ⟨g.s.compact h hk, g.r.compact (he.trans h) hk, g.t.compact t⟩
  · rw [if_neg h, if_neg h]
    exact ⟨g.s.mono (by omega) hk, g.r.mono (by omega) hk, g.t⟩
theorem work_end {w : World} {p : Nat} {wb : Option Nat} {s : Spn} (h : SpAt w p wb s) (hk : SpOk s) (hc : s.credit ≤ 1000000000) (n : Int) :
    Calls Tryz.prog 29 #[.pointer (some ⟨p, 0, none⟩), .int .i64 n] w fun e w' => ∃ (lf : Int) (s1 s2 : Spn) (wb' : Option Nat), e = .returned (.int .i64 lf) ∧ Fr (wbL p wb) w w' ∧ Nw w.heap.size wb wb' ∧ SpAt w' p wb' s2 ∧ Hid (Works { s with credit := s.credit + fuelE n } s1 ∧ WorkEnd s1 lf s2) :=
  (work_any h hk hc n).mono fun e w' ⟨s', wb', lf, he, hf, hw, hk9, _, hx⟩ => by
    rcases hx with ⟨h1, h2, hs⟩ | ⟨i, h1, h2, h3, hs⟩
    · exact ⟨lf, s', _, wb', he, hf.mono (wbL_one p wb), hw, hs, Lib.hid ⟨hk9, Or.inl ⟨h1, h2, rfl⟩⟩⟩
    · exact ⟨lf, s', _, wb', he, hf.mono (wbL_one p wb), hw, hs, Lib.hid ⟨hk9, Or.inr ⟨i, h1, h2, h3, rfl⟩⟩⟩
theorem rwork_end {w : World} {p : Nat} {wb : Option Nat} {s : Spn} (h : RfAt w p wb s) (hk : SpOk s) (hc : s.credit ≤ 1000000000) (n : Int) :
    Calls Tryz.prog 47 #[.pointer (some ⟨p, 0, none⟩), .int .i64 n] w fun e w' => ∃ (lf : Int) (s1 s2 : Spn) (wb' : Option Nat), e = .returned (.int .i64 lf) ∧ Fr (wbL p wb) w w' ∧ Nw w.heap.size wb wb' ∧ RfAt w' p wb' s2 ∧ Hid (Works { s with credit := s.credit + fuelE n } s1 ∧ WorkEnd s1 lf s2) :=
  (rwork_any h hk hc n).mono fun e w' ⟨s', wb', lf, he, hf, hw, hk9, _, hx⟩ => by
    rcases hx with ⟨h1, h2, hs⟩ | ⟨i, h1, h2, h3, hs⟩
    · exact ⟨lf, s', _, wb', he, hf.mono (wbL_one p wb), hw, hs, Lib.hid ⟨hk9, Or.inl ⟨h1, h2, rfl⟩⟩⟩
    · exact ⟨lf, s', _, wb', he, hf.mono (wbL_one p wb), hw, hs, Lib.hid ⟨hk9, Or.inr ⟨i, h1, h2, h3, rfl⟩⟩⟩
theorem DuoOk.work {key : List Int} {k : Nat} {d : Duo} {all : List upd.El} (g : DuoOk key k d all) (hk : k + 1 ≤ 60) {n a b : Int} {s1 s2 r1 r2 : Spn} {wb qb : Option Nat} (h : Works { d.s with credit := d.s.credit + fuelE n } s1 ∧ WorkEnd s1 a s2) (h' : Works { d.r with credit := d.r.credit + fuelE n } r1 ∧ WorkEnd r1 b r2) : a = b ∧ DuoOk key (k + 1) ⟨d.p, wb, s2, d.q, qb, r2⟩ all := by
  obtain ⟨e, t⟩ := works_end (g.t.fuel (fuelE n)) h.1 h'.1 h.2 h'.2
  exact ⟨e, (g.s.fuel n hk).works_end h.1 h.2, (g.r.fuel n hk).works_end h'.1 h'.2, t⟩

def StepPost (w : World) (key : List Int) (k : Nat) (d : Duo) (e : Ending) (w' : World) : Prop :=
  e = .returned (.bool true) ∧ Fr d.own w w' ∧ ∃ (d' : Duo) (all' : List upd.El), DuoAt w' d' ∧ DuoOk key (k + 1) d' all' ∧ DuoTo w d d'
/-- Nothing was done. -/
theorem StepPost.none {w w' : World} {key : List Int} {k : Nat} {d : Duo} {all : List upd.El} (h : DuoAt w d) (g : DuoOk key k d all) (hk : k + 1 ≤ 60) (f : Fr [] w w') : StepPost w key k d (.returned (.bool true)) w' :=
  ⟨rfl, f.nil, d, all, h.fr f, g.mono (by omega) hk, DuoTo.refl w d⟩

set_option maxRecDepth 100000
set_option maxHeartbeats 12800000 in
theorem step_any {w0 w : World} {d : Duo} {key : List Int} {k : Nat} {all : List upd.El} {o : OpE} (f0 : Fr [] w0 w) (hn : ∀ x ∈ d.own, w0.heap.size ≤ x) (h : DuoAt w d) (g : DuoOk key k d all) (ho : OpIn w0 o) (hf : fewB o = true) (hk : k + 1 ≤ 60) :
    Calls Tryz.prog 24 #[.pointer (some ⟨d.p, 0, none⟩), .pointer (some ⟨d.q, 0, none⟩), .agg #[.int .i64 o.kind, .int .i64 o.on, .int .i64 o.fuel, .int .i64 o.upper, .int .i64 o.time, .slice o.ka o.kr.length o.kc, .slice o.la o.l.length o.lc]] w (StepPost w key k d) := by
  obtain ⟨j0, hj, hy0, hy1, hy2⟩ := info_parts upd.infoU
  have hol := (few_len hf).1
  have F0 := Lib.hid f0
  have HN := Lib.hid hn
  have HD := Lib.hid h
  have HG := Lib.hid g
  have HO := Lib.hid ho
  clear f0 hn h g ho hf
  go_enter Tryz.func24, Tryz.ntmps24
  go_upto_region 1 with fail
  have fa : Fr [] w (w.alloc (.cells #[.int .i64 o.kind, .int .i64 o.on, .int .i64 o.fuel, .int .i64 o.upper, .int .i64 o.time, .slice o.ka o.kr.length o.kc, .slice o.la o.l.length o.lc] 54)) := (Fr.refl [] w).alloc _
  have hb := heap_alloc_new w (.cells #[.int .i64 o.kind, .int .i64 o.on, .int .i64 o.fuel, .int .i64 o.upper, .int .i64 o.time, .slice o.ka o.kr.length o.kc, .slice o.la o.l.length o.lc] 54)
  have FA := Lib.hid fa
  have HB := Lib.hid hb
  have HUb : Hid (w.heap.size = w.heap.size) := Lib.hid rfl
  clear fa hb
  generalize hub : w.heap.size = ub at HB ⊢
  generalize hwa : w.alloc (.cells #[.int .i64 o.kind, .int .i64 o.on, .int .i64 o.fuel, .int .i64 o.upper, .int .i64 o.time, .slice o.ka o.kr.length o.kc, .slice o.la o.l.length o.lc] 54) = wa at *
  clear hwa
  have x0 := cell_blk HB.out 0 (.int .i64 o.kind) rfl
  have FWA := Lib.hid (F0.out.trans FA.out)
  by_cases h1 : o.kind = 1
  · as_aux_lemma =>
    have hk1 : (o.kind == 1) = true := by simp [h1]
    clear h1
    have y3 := cell_blk HB.out 3 (.int .i64 o.upper) rfl
    have y6 := cell_blk HB.out 6 (.slice o.la o.l.length o.lc) rfl
    have HUp := Lib.hid (fun wi (f : Fr [] w0 wi) => HO.out.up.fr f)
    have he0 : Fr [] wa (wa.alloc (.cells #[] 65)) := (Fr.refl [] wa).alloc _
    have HE0 := Lib.hid he0
    have y7 := he0.cell y6 (by simp)
    clear he0
    go_upto_region 4 with (at_builtin; refine wpList_append_src _ rfl (.tmp 29) (.tmp 31) 27 rfl wa.heap.size 65 j0 _ 3 40 Tryz.underlying27 hj hy0 hy1 hy2 rfl (by decide) (.slice (some ⟨wa.heap.size, 0, none⟩) 0 0) 0 [] rfl (World.ownsRow_made wa #[] 0 (Nat.le_refl _) (by decide) rfl) (.slice o.la o.l.length o.lc) o.l.length _ rfl ((HUp.out _ (FWA.out.trans HE0.out)).src) (by unfold maxLen; omega) (by omega) (by simp) ?_; intro v3 w3 hown3 hgrow3 hblk3; simp only [Nat.zero_add, List.nil_append] at hown3; have F3 : Hid (Fr [] wa w3) := Lib.hid (HE0.out.fresh hgrow3 (fun r e => Or.inl (by simp [Value.ownBlock] at e; omega))); have O3 := Lib.hid hown3; clear hown3 hgrow3 hblk3; have ho3 := O3.out; obtain ⟨oa, oc, rfl⟩ := ownsRow_shape ho3; clear ho3)
    have FW3 := Lib.hid (FWA.out.trans F3.out)
    have hrow : ∀ u ∈ o.l, ∀ wi, Fr [] w0 wi → RowAt wi u.rv u.rd ∧ upd.ElOk u := fun u hu wi f => ⟨(HO.out.up.row u hu).1.fr f, (HO.out.up.row u hu).2⟩
    have HRow := Lib.hid hrow
    have K3 := Lib.hid (upd.own_cts O3.out (fun u hu => HRow.out u hu _ FW3.out))
    have FD3 := Lib.hid (FA.out.trans F3.out)
    have HD3 := Lib.hid (HD.out.fr FD3.out)
    have z3 := F3.out.cell y3 (by simp)
    have z6 := F3.out.cell y6 (by simp)
    have HB3 := Lib.hid (F3.out.heap HB.out (by simp))
    have HUW := Lib.hid (own_upW O3.out)
    have hsz3 : w.heap.size ≤ wa.heap.size := FA.out.size
    clear hrow y3 y6 y7 x0 HE0 F3 HB
    have hown : ∀ x ∈ wbL d.p d.wb, x ∈ d.own := fun x hx => List.mem_append_left _ hx
    have hownq : ∀ x ∈ wbL d.q d.qb, x ∈ d.own := fun x hx => List.mem_append_right _ hx
    have HOwn := Lib.hid hown
    have HOwnq := Lib.hid hownq
    clear hown hownq
    by_cases haz : addE d.s o.upper o.l = 0
    · have HAz := Lib.hid haz
      have hay := add_yes HD3.out.sp K3.out HG.out.s hol haz
      have HAy := Lib.hid hay
      clear haz hay
      go_upto_region 5 with (go_at_call 26; refine HAy.out.mono ?_; rintro e w4 ⟨rfl, bt, wb4, va4, vc4, hc4, hl4, hs4, f4, hw4, hnb4⟩)
      have FP4 := Lib.hid (FW3.out.past f4 (fun x hx => Or.inl (HN.out x (HOwn.out x hx))))
      have hnB : ub ∉ wbL d.p d.wb := HD3.out.sp.tyB.not HB3.out (by decide) (by decide)
      have z34 := f4.cell z3 hnB
      have z64 := f4.cell z6 hnB
      have O4 := Lib.hid (ownsRow_frT O3.out f4 HD3.out.sp.tyB (by decide) (by decide))
      have K4 := Lib.hid (upd.own_cts O4.out (fun u hu => HRow.out u hu _ FP4.out))
      have F4 := Lib.hid f4
      have HS4 := Lib.hid hs4
      have HC4 := Lib.hid hc4
      have HW4 := Lib.hid hw4
      have HNB := Lib.hid hnb4
      have L5 := Lib.hid (fun wi (fi : Fr [] w4 wi) => likeU_true (K4.out.fr fi) (HUp.out _ (FP4.out.trans fi)) rfl (by omega))
      clear z3 z6 hnB f4 hs4 hc4 hw4 hnb4 HAy K3 K4
      go_upto_region 6 with (go_at_call 16; refine (L5.out _ (Fr.refl _ _)).mono ?_; rintro e w5 ⟨rfl, f5⟩; have F5 := Lib.hid f5; clear f5)
      have z35 := F5.out.cell z34 (by simp)
      have z65 := F5.out.cell z64 (by simp)
      have O5 := Lib.hid (ownsRow_fr O4.out F5.out (by simp))
      have HS5 := Lib.hid (HS4.out.fr F5.out)
      have U5 := Lib.hid (own_upW O5.out)
      have HU5 := Lib.hid (U5.out.ty)
      have HB5 := Lib.hid (F5.out.heap (F4.out.heap HB3.out (HD3.out.sp.tyB.not HB3.out (by decide) (by decide))) (by simp))
      clear z34 z64 L5 O4 HS4
      go_wp2_with fail
      go_loopw [44] (fun x wr => ∃ i : Nat, x = .int .i64 i ∧ i ≤ o.l.length ∧ Fr (bkL oa o.l.length) w5 wr ∧ UpW wa.heap.size wr oa o.l.length) (fun x _ => o.l.length - (intOf x).toNat)
      case atStart => exact ⟨0, rfl, Nat.zero_le _, Fr.refl _ _, U5.out⟩
      case round =>
        obtain ⟨i, rfl, hi, hf, hu⟩ := hrel
        have HF := Lib.hid hf
        by_cases hlt : i < o.l.length
        · obtain ⟨og, u0, u1, u2, hog, e1, v0, v1, v2, q0, hset⟩ := hu.at hlt
          subst e1
          have q1 := q0 (i * 3)
          have q2 := q0 (i * 3 + 1)
          have q3 := q0 (i * 3 + 2)
          have HSet := Lib.hid hset
          have hmem : og ∈ bkL (some ⟨og, 0, none⟩) o.l.length := bkL_mem hlt
          have HMem := Lib.hid hmem
          clear hf hu hset hmem q0 z35 z65
          go_wp2_with fail
          go_roundw
          case rel => exact ⟨i + 1, by go_num, by omega, ((HF.out.setCell (p := ⟨og, _, none⟩) HMem.out _).setCell (p := ⟨og, _, none⟩) HMem.out _).setCell (p := ⟨og, _, none⟩) HMem.out _, HSet.out _ _ _⟩
          case measure => simp [intOf] <;> omega
        · have hbk : ∀ x ∈ bkL oa o.l.length, w.heap.size ≤ x := fun x hx => Nat.le_trans hsz3 (HU5.out x hx).1
          have hnew : ub ∉ bkL oa o.l.length := fun hx => by
            obtain ⟨-, c, hc⟩ := HU5.out _ hx
            rw [HB5.out] at hc
            simp at hc
          have z36 := hf.cell z35 hnew
          have z66 := hf.cell z65 hnew
          have fw6 : Fr (wbL d.p d.wb) w wr := (((FD3.out.nil).trans F4.out).trans F5.out.nil).past hf (fun x hx => Or.inl (hbk x hx))
          have FW6 := Lib.hid fw6
          have FW06 := Lib.hid (F0.out.past fw6 (fun x hx => Or.inl (HN.out x (HOwn.out x hx))))
          have hr6 := HD.out.rf.frC fw6 HD.out.sp.tyB.c (fun hx => HD.out.far _ hx (wbL_p _ _)) (fun g hg hx => HD.out.far _ hx (by unfold wbL; rw [hg]; simp))
          have HR6 := Lib.hid hr6
          have hs6 := spine_farF HS5.out hf (fun x hx => (HU5.out x hx).2) (fun b hb x hx e9 => by
            have hx1 := (HU5.out x hx).1
            have hx2 : x < w3.heap.size := by
              unfold bkL at hx
              split at hx
              · simp at hx
              · rcases HUW.out with h9 | ⟨g9, c9, -, h8, h7, -⟩
                · rename_i hz; exact absurd h9 hz
                · rw [h8] at hx
                  simp only [Option.map_some, Option.toList_some, List.mem_singleton] at hx
                  rw [hx]
                  exact (Array.getElem?_eq_some_iff.1 h7).1
            have hb9 : b ∈ more d.s.bs bt := hb
            unfold more at hb9
            have hold : b ∈ d.s.bs → False := fun hm => by
              have h9 := (HD.out.sp.bts b hm).1
              have hne := HG.out.s.ok.ne b hm
              rcases h9 with ⟨-, -, -, -, h8⟩ | ⟨g9, c9, cur9, -, hv9, -, hh9, -⟩
              · exact hne h8
              · unfold Bt.v at hv9
                simp only [Value.slice.injEq] at hv9
                rw [e9] at hv9
                have h7 := hv9.1
                simp only [Option.some.injEq, Addr.mk.injEq, and_true] at h7
                have := (Array.getElem?_eq_some_iff.1 hh9).1
                omega
            split at hb9
            · exact hold hb9
            · rename_i hbl
              rcases List.mem_append.1 hb9 with hb9 | hb9
              · exact hold hb9
              · rw [List.mem_singleton.1 hb9] at e9
                obtain ⟨g9, h8, h7⟩ := HNB.out hbl
                rw [e9] at h8
                simp only [Option.some.injEq, Addr.mk.injEq, and_true] at h8
                omega)
          have HS6 := Lib.hid hs6
          have hra := radd_any hr6 (HUp.out _ FW06.out) HG.out.r.ok.key (by have := HG.out.r.ok.few; omega) (by omega) o.upper
          have HRa : Hid (Calls Tryz.prog 45 #[.pointer (some ⟨d.q, 0, none⟩), .int .i64 o.upper, .slice o.la o.l.length o.lc] wr fun e w' => e = .returned (.int .i64 0) ∧ ∃ (b : Bt) (wb' : Option Nat) (va : Option Addr) (vc : Nat), Canon upd.cmpU (b.l.map upd.pr) (fun q => 1 * sumK (o.l.map upd.pr) q) ∧ b.l.length ≤ o.l.length ∧ RfAt w' d.q wb' { d.r with va := va, vc := vc, upper := o.upper, bs := more d.r.bs b } ∧ Fr (wbL d.q d.qb) wr w' ∧ (wb' = d.qb ∨ ∃ g, wb' = some g ∧ wr.heap.size ≤ g) ∧ NewB wr.heap.size b) := Lib.hid (hra.mono fun e w' ⟨he, hx⟩ => by
            rw [HG.out.t.addE, HAz.out] at he hx
            rcases hx with ⟨-, hx⟩ | ⟨h9, -⟩
            · exact ⟨he, hx⟩
            · exact absurd rfl h9)
          clear hf hu hs6 hr6 hra fw6 hbk hnew z35 z65
          go_wp2_with (go_at_call 45; refine HRa.out.mono ?_; rintro e w7 ⟨rfl, bt7, qb7, ra7, rc7, hc7, hl7, hr7, f7, hq7, hnb7⟩; have HC7 := Lib.hid hc7; have HR7 := Lib.hid hr7; have F7 := Lib.hid f7; have HQ7 := Lib.hid hq7; clear hc7 hr7 f7 hq7 hnb7)
          go_ret
          have hsw : ∀ g, wb4 = some g → g ∉ wbL d.q d.qb := fun g hg hx => by
            rcases HW4.out with h9 | ⟨g', h9, h8⟩
            · exact HD.out.far g (by unfold wbL; rw [← h9, hg]; simp) hx
            · rw [h9] at hg
              have e9 := Option.some.inj hg
              have := HD.out.lt g (HOwnq.out g hx)
              have := FD3.out.size
              omega
          refine ⟨rfl, (FW6.out.mono HOwn.out).trans (F7.out.mono HOwnq.out), ⟨d.p, wb4, { d.s with va := va4, vc := vc4, upper := o.upper, bs := more d.s.bs bt }, d.q, qb7, { d.r with va := ra7, vc := rc7, upper := o.upper, bs := more d.r.bs bt7 }⟩, all ++ o.l, ⟨HS6.out.frC F7.out HR6.out.tyB (fun hx => HD.out.far _ (wbL_p _ _) hx) hsw, HR7.out, fun g hg hq => ?_⟩, ⟨HG.out.s.add HAz.out hol hk HC4.out hl4, HG.out.r.add (by rw [HG.out.t.addE]; exact HAz.out) hol hk HC7.out hl7, HG.out.t.add HC4.out HC7.out⟩, ⟨rfl, rfl, ?_, ?_⟩⟩
          · have hg1 : wb4 = some g := hg
            have hq1 : qb7 = some g := hq
            rcases HQ7.out with h9 | ⟨g', h9, h8⟩
            · exact hsw g hg1 (by unfold wbL; rw [← h9, hq1]; simp)
            · rw [h9] at hq1
              have e9 := Option.some.inj hq1
              have := HS6.out.lt.2 g hg1
              omega
          · rcases HW4.out with h9 | ⟨g', h9, h8⟩
            · exact Or.inl h9
            · exact Or.inr fun g hg => by
                have hg1 : wb4 = some g := hg
                rw [h9] at hg1
                have e9 := Option.some.inj hg1
                have := FD3.out.size
                omega
          · rcases HQ7.out with h9 | ⟨g', h9, h8⟩
            · exact Or.inl h9
            · exact Or.inr fun g hg => by
                have hg1 : qb7 = some g := hg
                rw [h9] at hg1
                have e9 := Option.some.inj hg1
                have := FW6.out.size
                omega
    · have HAz := Lib.hid haz
      have han := add_no HD3.out.sp K3.out HG.out.s hol haz
      have hrr : ∀ wi, Fr [] w wi → Calls Tryz.prog 45 #[.pointer (some ⟨d.q, 0, none⟩), .int .i64 o.upper, .slice o.la o.l.length o.lc] wi fun e w' => e = .returned (.int .i64 (addE d.s o.upper o.l)) ∧ Fr [] wi w' := fun wi f => (radd_any (HD.out.rf.fr f) (HUp.out _ (F0.out.trans f)) HG.out.r.ok.key (by have := HG.out.r.ok.few; omega) (by omega) o.upper).mono fun e w' ⟨he, hx⟩ => by
        rw [HG.out.t.addE] at he hx
        rcases hx with ⟨h9, -⟩ | ⟨-, hx⟩
        · exact absurd h9 haz
        · exact ⟨he, hx⟩
      generalize addE d.s o.upper o.l = av at *
      have hav : (av == av) = true := by simp
      have HAn := Lib.hid han
      have HRr := Lib.hid hrr
      clear haz han hrr
      go_upto_region 5 with (go_at_call 26; refine HAn.out.mono ?_; rintro e w4 ⟨rfl, f4⟩; have F4 := Lib.hid f4; clear f4)
      have FP4 := Lib.hid (FW3.out.trans F4.out)
      have z34 := F4.out.cell z3 (by simp)
      have z64 := F4.out.cell z6 (by simp)
      have K4 := Lib.hid (K3.out.fr F4.out)
      have L5 := Lib.hid (fun wi (fi : Fr [] w4 wi) => likeU_true (K4.out.fr fi) (HUp.out _ (FP4.out.trans fi)) rfl (by omega))
      clear z3 z6 HAn K3 K4
      go_upto_region 6 with (go_at_call 16; refine (L5.out _ (Fr.refl _ _)).mono ?_; rintro e w5 ⟨rfl, f5⟩; have F5 := Lib.hid f5; clear f5)
      have z35 := F5.out.cell z34 (by simp)
      have z65 := F5.out.cell z64 (by simp)
      have U5 := Lib.hid ((HUW.out.fr F4.out).fr F5.out)
      have HU5 := Lib.hid (U5.out.ty)
      have HB5 := Lib.hid (F5.out.heap (F4.out.heap HB3.out (by simp)) (by simp))
      clear z34 z64 L5
      go_wp2_with fail
      go_loopw [44] (fun x wr => ∃ i : Nat, x = .int .i64 i ∧ i ≤ o.l.length ∧ Fr (bkL oa o.l.length) w5 wr ∧ UpW wa.heap.size wr oa o.l.length) (fun x _ => o.l.length - (intOf x).toNat)
      case atStart => exact ⟨0, rfl, Nat.zero_le _, Fr.refl _ _, U5.out⟩
      case round =>
        obtain ⟨i, rfl, hi, hf, hu⟩ := hrel
        have HF := Lib.hid hf
        by_cases hlt : i < o.l.length
        · obtain ⟨og, u0, u1, u2, hog, e1, v0, v1, v2, q0, hset⟩ := hu.at hlt
          subst e1
          have q1 := q0 (i * 3)
          have q2 := q0 (i * 3 + 1)
          have q3 := q0 (i * 3 + 2)
          have HSet := Lib.hid hset
          have hmem : og ∈ bkL (some ⟨og, 0, none⟩) o.l.length := bkL_mem hlt
          have HMem := Lib.hid hmem
          clear hf hu hset hmem q0 z35 z65
          go_wp2_with fail
          go_roundw
          case rel => exact ⟨i + 1, by go_num, by omega, ((HF.out.setCell (p := ⟨og, _, none⟩) HMem.out _).setCell (p := ⟨og, _, none⟩) HMem.out _).setCell (p := ⟨og, _, none⟩) HMem.out _, HSet.out _ _ _⟩
          case measure => simp [intOf] <;> omega
        · have hbk : ∀ x ∈ bkL oa o.l.length, w.heap.size ≤ x := fun x hx => Nat.le_trans hsz3 (HU5.out x hx).1
          have hnew : ub ∉ bkL oa o.l.length := fun hx => by
            obtain ⟨-, c, hc⟩ := HU5.out _ hx
            rw [HB5.out] at hc
            simp at hc
          have z36 := hf.cell z35 hnew
          have z66 := hf.cell z65 hnew
          have fw6 : Fr [] w wr := ((FD3.out.trans F4.out).trans F5.out).past hf (fun x hx => Or.inl (hbk x hx))
          have FW6 := Lib.hid fw6
          have HRa := Lib.hid (HRr.out _ fw6)
          clear hf hu fw6 hbk hnew z35 z65
          go_wp2_with (go_at_call 45; refine HRa.out.mono ?_; rintro e w7 ⟨rfl, f7⟩; have F7 := Lib.hid f7; clear f7)
          go_ret
          exact StepPost.none HD.out HG.out hk (FW6.out.trans F7.out)
  · have hk1 : (o.kind == 1) = false := by simp [h1]
    clear h1
    have HDA := Lib.hid (HD.out.fr FA.out)
    have y4 := cell_blk HB.out 4 (.int .i64 o.time) rfl
    have hsza : w.heap.size ≤ wa.heap.size := FA.out.size
    by_cases h4 : o.kind = 4
    · as_aux_lemma =>
      have hk2 : (o.kind == 2) = false := by simp [h4]
      have hk3 : (o.kind == 3) = false := by simp [h4]
      have hk4 : (o.kind == 4) = true := by simp [h4]
      clear h4
      go_upto_region 18 with (go_at_call 9; refine (atAns_any HDA.out.sp HG.out.s.ok o.time).mono ?_; rintro e w4 ⟨o1, x1, y1, r1, rfl, f4, k4, A1⟩; have F4 := Lib.hid f4; have K4 := Lib.hid k4; clear f4 k4)
      have z4 := F4.out.cell y4 (by simp)
      have HR4 := Lib.hid (HDA.out.rf.fr F4.out)
      clear x0 y4
      go_upto_region 19 with (go_at_call 48; refine (rfAt_any HR4.out HG.out.r.ok o.time).mono ?_; rintro e w5 ⟨o2, x2, y2, r2, rfl, f5, k5, A2⟩; have F5 := Lib.hid f5; have K5 := Lib.hid k5.cts; clear f5 k5)
      obtain ⟨e2, q2, n2⟩ := AtSays.two HG.out.s HG.out.r HG.out.t.since HG.out.t.upper A1.out A2.out
      subst e2
      have hr2 : (r2 == r2) = true := by simp
      have HT := Lib.hid (told_any (K4.out.fr F5.out (by simp)) K5.out q2 (by omega))
      clear A1 A2 q2 z4
      go_wp2_with (go_at_call 49; refine HT.out.mono ?_; rintro e w6 ⟨rfl, f6⟩; have F6 := Lib.hid f6; clear f6)
      go_ret
      exact StepPost.none HD.out HG.out hk (((FA.out.trans F4.out).trans F5.out).past F6.out (fun x hx => Or.inl (by have := (mem_st.1 hx).1; omega)))
    · by_cases h5 : o.kind = 5
      · as_aux_lemma =>
        have hk2 : (o.kind == 2) = false := by simp [h5]
        have hk3 : (o.kind == 3) = false := by simp [h5]
        have hk4 : (o.kind == 4) = false := by simp [h5]
        have hk5 : (o.kind == 5) = true := by simp [h5]
        clear h4 h5
        have y5 := cell_blk HB.out 5 (.slice o.ka o.kr.length o.kc) rfl
        have HRw := Lib.hid (fun wi (f : Fr [] w0 wi) => HO.out.row.fr f)
        have HKc := Lib.hid HO.out.kcap
        have HKl := Lib.hid HO.out.klen
        go_upto_region 22 with (go_at_call 50; refine (findAns_any HDA.out.sp HG.out.s.ok HG.out.s.wide (HRw.out _ FWA.out) HKc.out HKl.out o.time).mono ?_; rintro e w4 ⟨o1, x1, y1, r1, rfl, f4, k4, A1⟩; have F4 := Lib.hid f4; have K4 := Lib.hid k4; clear f4 k4)
        have z4 := F4.out.cell y4 (by simp)
        have z5 := F4.out.cell y5 (by simp)
        have HR4 := Lib.hid (HDA.out.rf.fr F4.out)
        clear x0 y4 y5
        go_upto_region 23 with (go_at_call 51; refine (rfFindAns_any HR4.out HG.out.r.ok HG.out.r.wide (HRw.out _ (FWA.out.trans F4.out)) o.time).mono ?_; rintro e w5 ⟨o2, x2, y2, r2, rfl, f5, k5, A2⟩; have F5 := Lib.hid f5; have K5 := Lib.hid k5; clear f5 k5)
        obtain ⟨e2, q2, n2⟩ := FindSays.two HG.out A1.out A2.out
        subst e2
        have hr2 : (r2 == r2) = true := by simp
        have HT := Lib.hid (told_any (K4.out.fr F5.out (by simp)) K5.out q2 (by omega))
        clear A1 A2 q2 z4 z5
        go_wp2_with (go_at_call 49; refine HT.out.mono ?_; rintro e w6 ⟨rfl, f6⟩; have F6 := Lib.hid f6; clear f6)
        go_ret
        exact StepPost.none HD.out HG.out hk (((FA.out.trans F4.out).trans F5.out).past F6.out (fun x hx => Or.inl (by have := (mem_st.1 hx).1; omega)))
      · by_cases h6 : o.kind = 6
        · as_aux_lemma =>
          have hk2 : (o.kind == 2) = false := by simp [h6]
          have hk3 : (o.kind == 3) = false := by simp [h6]
          have hk4 : (o.kind == 4) = false := by simp [h6]
          have hk5 : (o.kind == 5) = false := by simp [h6]
          have hk6 : (o.kind == 6) = true := by simp [h6]
          clear h4 h5 h6
          go_upto_region 26 with (go_at_call 13; refine (fromAns_any HDA.out.sp HG.out.s.ok o.time).mono ?_; rintro e w4 ⟨o1, x1, y1, r1, rfl, f4, k4, A1⟩; have F4 := Lib.hid f4; have K4 := Lib.hid k4; clear f4 k4)
          have z4 := F4.out.cell y4 (by simp)
          have HR4 := Lib.hid (HDA.out.rf.fr F4.out)
          clear x0 y4
          go_upto_region 27 with (go_at_call 52; refine (rfFrom_any HR4.out HG.out.r.ok o.time).mono ?_; rintro e w5 ⟨o2, x2, y2, r2, rfl, f5, k5, A2⟩; have F5 := Lib.hid f5; have K5 := Lib.hid k5.cts; clear f5 k5)
          obtain ⟨e2, q2, n2⟩ := FromSays.two HG.out.s HG.out.r HG.out.t.since HG.out.t.upper A1.out A2.out
          subst e2
          have hr2 : (r2 == r2) = true := by simp
          have hl5 := K4.out.frC F5.out (TyC.nil _)
          have HL := Lib.hid (likeU_true hl5.cts K5.out q2 (by omega))
          have HT5 := Lib.hid hl5.tale
          have FA5 := Lib.hid ((FA.out.trans F4.out).trans F5.out)
          clear A1 A2 q2 z4 hl5 K4 K5 HR4 F4 F5
          generalize w5.heap.size = hi5 at *
          go_upto_region 28 with (go_at_call 16; refine HL.out.mono ?_; rintro e w6 ⟨rfl, f6⟩; have F6 := Lib.hid (FA5.out.trans f6); have T6 := Lib.hid (HT5.out.spo (Spo.fr f6)); clear f6)
          clear HT5 HL FA5
          go_wp2_with fail
          go_loopw [158] (fun x wr => ∃ i : Nat, x = .int .i64 i ∧ i ≤ o1.length ∧ Fr (st wa.heap.size hi5) w6 wr ∧ TaleU wa.heap.size hi5 i wr x1 o1) (fun x _ => o1.length - (intOf x).toNat)
          case atStart => exact ⟨0, rfl, Nat.zero_le _, Fr.refl _ _, T6.out⟩
          case round =>
            obtain ⟨i, rfl, hi, hf, ht⟩ := hrel
            have HF := Lib.hid hf
            by_cases hlt : i < o1.length
            · obtain ⟨og, u, u2, hg1, hg2, e1, v0, -, -, -, -, -, hr1, hr3⟩ := ht.cell hlt
              subst e1
              have HT2 := Lib.hid ht
              have HSp := Lib.hid (spoil_any hr3 hr1)
              clear hf ht hr3
              generalize upd.nth o1 i = e0 at *
              go_upto_region 32 with (go_at_call 53; refine HSp.out.mono ?_; rintro e w7 ⟨rfl, f7, s7⟩; have F7 := Lib.hid (HF.out.trans f7); have T7 := Lib.hid (HT2.out.spo s7); clear f7 s7)
              obtain ⟨og', u', u2', -, -, e2, v0', v1', v2', q0, q1, q3, -, -⟩ := T7.out.cell hlt
              simp only [Option.some.injEq, Addr.mk.injEq, and_true] at e2
              subst e2
              clear v0 HSp
              go_wp2_with fail
              go_roundw
              case rel => exact ⟨i + 1, by go_num, by omega, ((F7.out.setCell (p := ⟨og, _, none⟩) (mem_st.2 ⟨hg1, hg2⟩) _).setCell (p := ⟨og, _, none⟩) (mem_st.2 ⟨hg1, hg2⟩) _).setCell (p := ⟨og, _, none⟩) (mem_st.2 ⟨hg1, hg2⟩) _, T7.out.next _ _ _⟩
              case measure => simp [intOf] <;> omega
            · clear hf ht
              go_wp2_with fail
              go_ret
              exact StepPost.none HD.out HG.out hk (F6.out.past HF.out (fun x hx => Or.inl (by have := (mem_st.1 hx).1; omega)))
        · have hk4 : (o.kind == 4) = false := by simp [h4]
          have hk5 : (o.kind == 5) = false := by simp [h5]
          have hk6 : (o.kind == 6) = false := by simp [h6]
          clear h4 h5 h6
          by_cases h2 : o.kind = 2
          · as_aux_lemma =>
            have hk2 : (o.kind == 2) = true := by simp [h2]
            clear h2
            have hC1 : ∀ wi, Fr (wbL d.q d.qb) w wi → Calls Tryz.prog 30 #[.pointer (some ⟨d.p, 0, none⟩), .int .i64 o.time] wi fun e w' => e = .returned (.int .i64 (askE d.s o.time)) ∧ SpAt w' d.p d.wb (cs d.s o.time) ∧ Fr (wbL d.p d.wb) wi w' := fun wi f => compact_cs (HD.out.sp.frC f HD.out.rf.tyB (fun hx => HD.out.far _ (wbL_p _ _) hx) (fun g hg hx => HD.out.far g (by unfold wbL; rw [hg]; simp) hx)) o.time
            have hC2 : ∀ wi, Fr (wbL d.p d.wb) w wi → Calls Tryz.prog 46 #[.pointer (some ⟨d.q, 0, none⟩), .int .i64 o.time] wi fun e w' => e = .returned (.int .i64 (askE d.s o.time)) ∧ RfAt w' d.q d.qb (cs d.r o.time) ∧ Fr (wbL d.q d.qb) wi w' := fun wi f => by
              have h9 := rcompact_cs (HD.out.rf.frC f HD.out.sp.tyB.c (fun hx => HD.out.far _ hx (wbL_p _ _)) (fun g hg hx => HD.out.far g hx (by unfold wbL; rw [hg]; simp))) o.time
              rw [HG.out.t.askE] at h9
              exact h9
            have HC1 := Lib.hid hC1
            have HC2 := Lib.hid hC2
            have HK := Lib.hid (HG.out.cs hk o.time)
            clear hC1 hC2
            generalize askE d.s o.time = av at *
            generalize cs d.s o.time = s9 at *
            generalize cs d.r o.time = r9 at *
            have hav : (av == av) = true := by simp
            have hn1 : ub ∉ wbL d.p d.wb := HDA.out.sp.tyB.not HB.out (by decide) (by decide)
            have hn2 : ub ∉ wbL d.q d.qb := HDA.out.rf.tyB.not HB.out (by decide)
            go_upto_region 13 with fail
            go_region_with (first
              | (go_at_call 30; first
                  | (refine (HC1.out _ FB.out).mono ?_; rintro e w6 ⟨rfl, s6, f6⟩; have HZ := Lib.hid (duo_rs HD.out FB.out RB.out (Or.inl rfl) f6 s6 (Or.inl rfl)); clear s6 f6)
                  | (refine (HC1.out _ (by repeat (first | exact FA.out.nil | apply Fr.drew))).mono ?_; rintro e w5 ⟨rfl, s5, f5⟩; have t5 := f5.cell y4 hn1; have SA := Lib.hid s5; have FS := Lib.hid ((by repeat (first | exact FA.out.nil | apply Fr.drew) : Fr (wbL d.p d.wb) w _).trans f5); clear s5 f5))
              | (go_at_call 46; first
                  | (refine (HC2.out _ FS.out).mono ?_; rintro e w6 ⟨rfl, s6, f6⟩; have HZ := Lib.hid (duo_sr HD.out FS.out SA.out (Or.inl rfl) f6 s6 (Or.inl rfl)); clear s6 f6)
                  | (refine (HC2.out _ (by repeat (first | exact FA.out.nil | apply Fr.drew))).mono ?_; rintro e w5 ⟨rfl, s5, f5⟩; have t5 := f5.cell y4 hn2; have RB := Lib.hid s5; have FB := Lib.hid ((by repeat (first | exact FA.out.nil | apply Fr.drew) : Fr (wbL d.q d.qb) w _).trans f5); clear s5 f5)))
            all_goals (go_wp2_with fail; go_ret; exact ⟨rfl, HZ.out.2.1, _, all, HZ.out.1, HK.out, HZ.out.2.2⟩)
          · by_cases h3 : o.kind = 3
            · as_aux_lemma =>
              have hk2 : (o.kind == 2) = false := by simp [h2]
              have hk3 : (o.kind == 3) = true := by simp [h3]
              clear h2 h3
              have y2 := cell_blk HB.out 2 (.int .i64 o.fuel) rfl
              have hC1 := fun wi (f : Fr (wbL d.q d.qb) w wi) => work_end (HD.out.sp.frC f HD.out.rf.tyB (fun hx => HD.out.far _ (wbL_p _ _) hx) (fun g hg hx => HD.out.far g (by unfold wbL; rw [hg]; simp) hx)) HG.out.s.ok (by have := HG.out.s.c1; have := HG.out.s.few; omega) o.fuel
              have hC2 := fun wi (f : Fr (wbL d.p d.wb) w wi) => rwork_end (HD.out.rf.frC f HD.out.sp.tyB.c (fun hx => HD.out.far _ hx (wbL_p _ _)) (fun g hg hx => HD.out.far g hx (by unfold wbL; rw [hg]; simp))) HG.out.r.ok (by have := HG.out.r.c1; have := HG.out.r.few; omega) o.fuel
              have HC1 := Lib.hid hC1
              have HC2 := Lib.hid hC2
              clear hC1 hC2
              have hn1 : ub ∉ wbL d.p d.wb := HDA.out.sp.tyB.not HB.out (by decide) (by decide)
              have hn2 : ub ∉ wbL d.q d.qb := HDA.out.rf.tyB.not HB.out (by decide)
              go_upto_region 15 with fail
              go_region_with (first
                | (go_at_call 29; first
                    | (refine (HC1.out _ FB.out).mono ?_; rintro e w6 ⟨lf6, s1, s2, wb6, rfl, f6, n6, s6, W6⟩; obtain ⟨e9, hk9⟩ := HG.out.work (wb := wb6) (qb := wb5) hk W6.out W5.out; subst e9; have hav : (lf6 == lf6) = true := (by simp); have HK := Lib.hid hk9; have HZ := Lib.hid (duo_rs HD.out FB.out RB.out N5.out f6 s6 n6); clear s6 f6 n6 hk9)
                    | (refine (HC1.out _ (by repeat (first | exact FA.out.nil | apply Fr.drew))).mono ?_; rintro e w5 ⟨lf5, s1, s2, wb5, rfl, f5, n5, s5, W5⟩; have t5 := f5.cell y2 hn1; have SA := Lib.hid s5; have N5 : Hid (Nw w.heap.size d.wb wb5) := Lib.hid (n5.imp id (fun h9 g hg => Nat.le_trans hsza (h9 g hg))); have FS := Lib.hid ((by repeat (first | exact FA.out.nil | apply Fr.drew) : Fr (wbL d.p d.wb) w _).trans f5); clear s5 f5 n5))
                | (go_at_call 47; first
                    | (refine (HC2.out _ FS.out).mono ?_; rintro e w6 ⟨lf6, r1, r2, wb6, rfl, f6, n6, s6, W6⟩; obtain ⟨e9, hk9⟩ := HG.out.work (wb := wb5) (qb := wb6) hk W5.out W6.out; subst e9; have hav : (lf5 == lf5) = true := (by simp); have HK := Lib.hid hk9; have HZ := Lib.hid (duo_sr HD.out FS.out SA.out N5.out f6 s6 n6); clear s6 f6 n6 hk9)
                    | (refine (HC2.out _ (by repeat (first | exact FA.out.nil | apply Fr.drew))).mono ?_; rintro e w5 ⟨lf5, r1, r2, wb5, rfl, f5, n5, s5, W5⟩; have t5 := f5.cell y2 hn2; have RB := Lib.hid s5; have N5 : Hid (Nw w.heap.size d.qb wb5) := Lib.hid (n5.imp id (fun h9 g hg => Nat.le_trans hsza (h9 g hg))); have FB := Lib.hid ((by repeat (first | exact FA.out.nil | apply Fr.drew) : Fr (wbL d.q d.qb) w _).trans f5); clear s5 f5 n5)))
              all_goals (go_wp2_with fail; go_ret; exact ⟨rfl, HZ.out.2.1, _, all, HZ.out.1, HK.out, HZ.out.2.2⟩)
            · as_aux_lemma =>
              have hk2 : (o.kind == 2) = false := by simp [h2]
              have hk3 : (o.kind == 3) = false := by simp [h3]
              clear h2 h3
              go_wp2_with fail
              go_ret
              exact StepPost.none HD.out HG.out hk FA.out
end Go.Proofs.YtjchlfblbmiceaaGreat
