/- arrange: a spine in memory, and what New, Add, Work do with it. No condition but the sizes. -/
import Derived.Test.YtjchlfblbmiceaaGreatWc
import Derived.Deep.CutRange
import Derived.Deep.DeepCutAuto
import Derived.ArgAppend
import Derived.Lib.AppendZeros
import Derived.Deep.LoopGhost
namespace Go.Proofs.YtjchlfblbmiceaaGreat
open Go.RowKit srt grp

/-! ### numbers of a key -/
def kiC (l : List Int) : List Value := l.map fun x => .int .i64 x
theorem kiC_len (l : List Int) : (kiC l).length = l.length := by simp [kiC]
theorem kiC_one (l : List Int) : ∀ u ∈ kiC l, u.oneCell' = true := by
  intro u hu
  obtain ⟨x, -, rfl⟩ := List.mem_map.1 hu
  rfl
def nki (l : List Int) (k : Nat) : Int := (l[k]?).getD 0
theorem nki_at {l : List Int} {k : Nat} (h : k < l.length) : l[k]? = some (nki l k) := by unfold nki; rw [List.getElem?_eq_getElem h]; rfl
theorem nki_mem {l : List Int} {k : Nat} (h : k < l.length) : nki l k ∈ l := List.mem_of_getElem? (nki_at h)
theorem kiC_at {l : List Int} {k : Nat} (h : k < l.length) : (kiC l)[k]? = some (.int .i64 (nki l k)) := by unfold kiC; rw [List.getElem?_map, nki_at h]; rfl

/-! ### frames of blocks that no list lies in -/
/-- Blocks of spines, or of lists of batches. -/
def TyB (w : World) (S : List Nat) : Prop := ∀ x ∈ S, (∃ cur, w.heap[x]? = some (.cells cur 73)) ∨ ∃ cur, w.heap[x]? = some (.cells cur 27)
theorem TyB.nil (w : World) : TyB w [] := by intro x hx; simp at hx
theorem TyB.not {w : World} {S : List Nat} (h : TyB w S) {b : Nat} {cur : Array Value} {t : Nat} (hb : w.heap[b]? = some (.cells cur t)) (h1 : t ≠ 73) (h2 : t ≠ 27) : b ∉ S := by
  intro hx
  rcases h b hx with ⟨c, hc⟩ | ⟨c, hc⟩
  · rw [hb] at hc; simp only [Option.some.injEq, Obj.cells.injEq] at hc; exact h1 hc.2.1
  · rw [hb] at hc; simp only [Option.some.injEq, Obj.cells.injEq] at hc; exact h2 hc.2.1
theorem RowIn.frT {w w' : World} {S : List Nat} {base : Nat} {v : Value} {ds : List Dt} (h : RowIn base w v ds) (f : Fr S w w') (hS : TyB w S) : RowIn base w' v ds := by
  rcases h with h | ⟨g, cap, cur, hb, hv, hc, hg, htk⟩
  · exact Or.inl h
  · exact Or.inr ⟨g, cap, cur, hb, hv, hc, f.heap hg (hS.not hg (by decide) (by decide)), htk⟩
theorem upd.ListIn.frT {w w' : World} {S : List Nat} {base : Nat} {v : Value} {l : List upd.El} (h : upd.ListIn base w v l) (f : Fr S w w') (hS : TyB w S) : upd.ListIn base w' v l := by
  refine ⟨?_, fun e he => ⟨(h.2 e he).1.frT f hS, (h.2 e he).2⟩⟩
  rcases h.1 with h | ⟨g, c, cur, hb, hv, hc, hg, htk⟩
  · exact Or.inl h
  · exact Or.inr ⟨g, c, cur, hb, hv, hc, f.heap hg (hS.not hg (by decide) (by decide)), htk⟩

def KeyAt (w : World) (v : Value) (l : List Int) : Prop :=
  (∃ a c, v = .slice a 0 c ∧ (a = none → c = 0) ∧ l = []) ∨ ∃ b c cur, v = .slice (some ⟨b, 0, none⟩) l.length c ∧ l.length ≤ c ∧ w.heap[b]? = some (.cells cur 3) ∧ cur.toList.take l.length = kiC l
theorem KeyAt.frT {w w' : World} {S : List Nat} {v : Value} {l : List Int} (h : KeyAt w v l) (f : Fr S w w') (hS : TyB w S) : KeyAt w' v l := by
  rcases h with h | ⟨g, cap, cur, hv, hc, hg, htk⟩
  · exact Or.inl h
  · exact Or.inr ⟨g, cap, cur, hv, hc, f.heap hg (hS.not hg (by decide) (by decide)), htk⟩
theorem KeyAt.src {w : World} {v : Value} {l : List Int} (h : KeyAt w v l) : Src w 1 v l.length (kiC l) := by
  refine ⟨by rw [kiC_len, Nat.mul_one], kiC_one l, ?_⟩
  rcases h with ⟨a, c, rfl, hn, rfl⟩ | ⟨g, c, cur, rfl, hc, hg, htk⟩
  · cases a with
    | none => rw [hn rfl]; exact Or.inl ⟨rfl, rfl⟩
    | some ad => exact Or.inr ⟨ad, c, rfl, by simp [kiC]⟩
  · refine Or.inr ⟨⟨g, 0, none⟩, c, rfl, fun j u hj => ?_⟩
    have hadd : (⟨g, 0, none⟩ : Addr).add j = ⟨g, j, none⟩ := by unfold Addr.add; split <;> simp_all
    rw [hadd]
    have hjl : j < l.length := by rw [← kiC_len]; exact (List.getElem?_eq_some_iff.1 hj).1
    rw [← htk, List.getElem?_take_of_lt hjl] at hj
    exact cell_blk hg j u (by simpa using hj)
/-- A cell of a list of numbers. -/
theorem src_key {w : World} {a : Option Addr} {n c : Nat} {l : List Int} (h : Src w 1 (.slice a n c) l.length (kiC l)) {k : Nat} (hk : k < l.length) : ∃ b off, a = some ⟨b, off, none⟩ ∧ w.cell? ⟨b, off + k, none⟩ = some (.int .i64 (nki l k)) := by
  rcases h.2.2 with ⟨-, h2⟩ | ⟨ad, c, hv, hc⟩
  · omega
  · simp only [Value.slice.injEq] at hv
    have hp := addr_plain (a := ad) (hc 0 _ (kiC_at (show 0 < l.length by omega)))
    exact ⟨ad.block, ad.off, by rw [hv.1]; exact congrArg some hp, cell_add (hc _ _ (kiC_at hk))⟩

/-! ### batches -/
structure Bt where
  ba : Option Addr
  bc : Nat
  l : List upd.El
def Bt.v (b : Bt) : Value := .slice b.ba b.l.length b.bc
instance : Inhabited Bt := ⟨⟨none, 0, []⟩⟩
def btsC (bs : List Bt) : List Value := bs.map Bt.v
theorem btsC_len (l : List Bt) : (btsC l).length = l.length := by simp [btsC]
theorem btsC_one (l : List Bt) : ∀ u ∈ btsC l, u.oneCell' = true := by
  intro u hu
  obtain ⟨x, -, rfl⟩ := List.mem_map.1 hu
  rfl
def nbt (l : List Bt) (k : Nat) : Bt := (l[k]?).getD default
theorem nbt_at {l : List Bt} {k : Nat} (h : k < l.length) : l[k]? = some (nbt l k) := by unfold nbt; rw [List.getElem?_eq_getElem h]; rfl
theorem nbt_mem {l : List Bt} {k : Nat} (h : k < l.length) : nbt l k ∈ l := List.mem_of_getElem? (nbt_at h)
theorem btsC_at {l : List Bt} {k : Nat} (h : k < l.length) : (btsC l)[k]? = some (.slice (nbt l k).ba (nbt l k).l.length (nbt l k).bc) := by unfold btsC; rw [List.getElem?_map, nbt_at h]; rfl

def BsAt (w : World) (wb : Option Nat) (v : Value) (bs : List Bt) : Prop := w.ownsRow 0 27 1 v bs.length (btsC bs) ∧ wb = v.ownBlock
theorem ownsRow_frS {w w' : World} {S : List Nat} {base e size n : Nat} {v : Value} {xs : List Value} (h : w.ownsRow base e size v n xs) (f : Fr S w w') (hS : ∀ g, v.ownBlock = some g → g ∉ S) : w'.ownsRow base e size v n xs := by
  obtain ⟨h1, h2⟩ := h
  refine ⟨h1, ?_⟩
  rcases h2 with h2 | ⟨g, cap, cur, hv, hg, hh, r⟩
  · exact Or.inl h2
  · exact Or.inr ⟨g, cap, cur, hv, hg, f.heap hh (hS g (by rw [hv]; rfl)), r⟩
theorem BsAt.frS {w w' : World} {S : List Nat} {wb : Option Nat} {v : Value} {bs : List Bt} (h : BsAt w wb v bs) (f : Fr S w w') (hS : ∀ g, wb = some g → g ∉ S) : BsAt w' wb v bs := by
  obtain ⟨h, rfl⟩ := h
  exact ⟨ownsRow_frS h f hS, rfl⟩
theorem BsAt.src {w : World} {wb : Option Nat} {v : Value} {bs : List Bt} (h : BsAt w wb v bs) : Src w 1 v bs.length (btsC bs) := Src.row h.1 (btsC_one bs)
/-- The block that batches may be written into is one of lists of batches. -/
theorem BsAt.ty {w : World} {wb : Option Nat} {v : Value} {bs : List Bt} (h : BsAt w wb v bs) {g : Nat} (hg : wb = some g) : ∃ cur, w.heap[g]? = some (.cells cur 27) := by
  obtain ⟨h, hw⟩ := h
  rcases h.2 with ⟨rfl, -⟩ | ⟨g', cap, cur, rfl, -, hh, -⟩
  · rw [hw] at hg; cases hg
  · rw [hw] at hg
    simp only [Value.ownBlock, Option.some.injEq] at hg
    subst hg
    exact ⟨cur, hh⟩
theorem src_bts {w : World} {a : Option Addr} {n c : Nat} {bs : List Bt} (h : Src w 1 (.slice a n c) bs.length (btsC bs)) {k : Nat} (hk : k < bs.length) : ∃ b off, a = some ⟨b, off, none⟩ ∧ w.cell? ⟨b, off + k, none⟩ = some (.slice (nbt bs k).ba (nbt bs k).l.length (nbt bs k).bc) := by
  rcases h.2.2 with ⟨-, h2⟩ | ⟨ad, c, hv, hc⟩
  · omega
  · simp only [Value.slice.injEq] at hv
    have hp := addr_plain (a := ad) (hc 0 _ (btsC_at (show 0 < bs.length by omega)))
    exact ⟨ad.block, ad.off, by rw [hv.1]; exact congrArg some hp, cell_add (hc _ _ (btsC_at hk))⟩

/-! ### the spine -/
structure Spn where
  ka : Option Addr
  kc : Nat
  key : List Int
  va : Option Addr
  vc : Nat
  bs : List Bt
  since : Int
  upper : Int
  credit : Int
def Spn.cells (s : Spn) : Array Value := #[.slice s.ka s.key.length s.kc, .slice s.va s.bs.length s.vc, .int .i64 s.since, .int .i64 s.upper, .int .i64 s.credit]
structure SpAt (w : World) (p : Nat) (wb : Option Nat) (s : Spn) : Prop where
  blk : w.heap[p]? = some (.cells s.cells 73)
  key : KeyAt w (.slice s.ka s.key.length s.kc) s.key
  own : BsAt w wb (.slice s.va s.bs.length s.vc) s.bs
  bts : ∀ b ∈ s.bs, upd.ListIn 0 w b.v b.l
theorem SpAt.frT {w w' : World} {S : List Nat} {p : Nat} {wb : Option Nat} {s : Spn} (h : SpAt w p wb s) (f : Fr S w w') (hS : TyB w S) (hp : p ∉ S) (hwb : ∀ g, wb = some g → g ∉ S) : SpAt w' p wb s :=
  ⟨f.heap h.blk hp, h.key.frT f hS, h.own.frS f hwb, fun b hb => (h.bts b hb).frT f hS⟩
theorem SpAt.fr {w w' : World} {p : Nat} {wb : Option Nat} {s : Spn} (h : SpAt w p wb s) (f : Fr [] w w') : SpAt w' p wb s := h.frT f (TyB.nil _) (by simp) (by simp)
theorem SpAt.cell {w : World} {p : Nat} {wb : Option Nat} {s : Spn} (h : SpAt w p wb s) : w.cell? ⟨p, 0, none⟩ = some (.slice s.ka s.key.length s.kc) ∧ w.cell? ⟨p, 1, none⟩ = some (.slice s.va s.bs.length s.vc) ∧ w.cell? ⟨p, 2, none⟩ = some (.int .i64 s.since) ∧ w.cell? ⟨p, 3, none⟩ = some (.int .i64 s.upper) ∧
    w.cell? ⟨p, 4, none⟩ = some (.int .i64 s.credit) ∧ ∀ o, w.frozen? ⟨p, o, none⟩ = false := by
  have hb := h.blk
  refine ⟨?_, ?_, ?_, ?_, ?_, ?_⟩
  · simp [World.cell?, hb, Spn.cells]
  · simp [World.cell?, hb, Spn.cells]
  · simp [World.cell?, hb, Spn.cells]
  · simp [World.cell?, hb, Spn.cells]
  · simp [World.cell?, hb, Spn.cells]
  · intro o; simp [World.frozen?, hb]
/-- The blocks that a spine's methods may write. -/
def wbL (p : Nat) (wb : Option Nat) : List Nat := p :: wb.toList
theorem wbL_p (p : Nat) (wb : Option Nat) : p ∈ wbL p wb := List.mem_cons_self
theorem wbL_one (p : Nat) (wb : Option Nat) : ∀ x ∈ [p], x ∈ wbL p wb := fun x hx => by rw [List.mem_singleton.1 hx]; exact wbL_p p wb
theorem wbL_wb (p : Nat) (wb : Option Nat) : ∀ x ∈ wb.toList, x ∈ wbL p wb := fun _ hx => List.mem_cons_of_mem _ hx
theorem SpAt.tyB {w : World} {p : Nat} {wb : Option Nat} {s : Spn} (h : SpAt w p wb s) : TyB w (wbL p wb) := by
  intro x hx
  rcases List.mem_cons.1 hx with rfl | hx
  · exact Or.inl ⟨_, h.blk⟩
  · exact Or.inr (h.own.ty (by simpa using hx))
theorem SpAt.tyP {w : World} {p : Nat} {wb : Option Nat} {s : Spn} (h : SpAt w p wb s) : TyB w [p] := by
  intro x hx
  rw [List.mem_singleton.1 hx]
  exact Or.inl ⟨_, h.blk⟩
theorem SpAt.ne {w : World} {p : Nat} {wb : Option Nat} {s : Spn} (h : SpAt w p wb s) : ∀ g, wb = some g → g ∉ [p] := by
  intro g hg hx
  obtain ⟨cur, hc⟩ := h.own.ty hg
  rw [List.mem_singleton.1 hx, h.blk] at hc
  simp at hc
/-- A word of a spine is written. -/
theorem SpAt.setP {w : World} {p o : Nat} {wb : Option Nat} {s s' : Spn} {v : Value} (h : SpAt w p wb s) (hc : s.cells.setIfInBounds o v = s'.cells) (hk : s'.ka = s.ka ∧ s'.key = s.key ∧ s'.kc = s.kc ∧ s'.va = s.va ∧ s'.bs = s.bs ∧ s'.vc = s.vc) : SpAt (w.setCell ⟨p, o, none⟩ v) p wb s' := by
  have f : Fr [p] w (w.setCell ⟨p, o, none⟩ v) := (Fr.refl [p] w).setCell (by simp) v
  obtain ⟨k1, k2, k3, k4, k5, k6⟩ := hk
  refine ⟨?_, ?_, ?_, ?_⟩
  · rw [← hc]; exact heap_set h.blk
  · rw [k1, k2, k3]; exact h.key.frT f h.tyP
  · rw [k4, k5, k6]; exact h.own.frS f h.ne
  · rw [k5]; exact fun b hb => (h.bts b hb).frT f h.tyP

def askE (s : Spn) (t : Int) : Int := if t < s.since then 130 else if s.upper ≤ t then 131 else 0

set_option maxRecDepth 100000
theorem since_any {w : World} {p : Nat} {wb : Option Nat} {s : Spn} (h : SpAt w p wb s) : Calls Tryz.prog 8 #[.pointer (some ⟨p, 0, none⟩)] w fun e w' => e = .returned (.int .i64 s.since) ∧ w = w' := by
  obtain ⟨-, -, c2, -⟩ := h.cell
  clear h
  go_enter Tryz.func8, Tryz.ntmps8
  go_wp2
  go_ret
  exact ⟨rfl, rfl⟩
theorem upper_any {w : World} {p : Nat} {wb : Option Nat} {s : Spn} (h : SpAt w p wb s) : Calls Tryz.prog 10 #[.pointer (some ⟨p, 0, none⟩)] w fun e w' => e = .returned (.int .i64 s.upper) ∧ w = w' := by
  obtain ⟨-, -, -, c3, -⟩ := h.cell
  clear h
  go_enter Tryz.func10, Tryz.ntmps10
  go_wp2
  go_ret
  exact ⟨rfl, rfl⟩
theorem asked_any {w : World} {p : Nat} {wb : Option Nat} {s : Spn} (h : SpAt w p wb s) (t : Int) : Calls Tryz.prog 31 #[.pointer (some ⟨p, 0, none⟩), .int .i64 t] w fun e w' => e = .returned (.int .i64 (askE s t)) ∧ w = w' := by
  obtain ⟨-, -, c2, c3, -⟩ := h.cell
  clear h
  by_cases h1 : t < s.since
  · have HE := Lib.hid (show askE s t = 130 by unfold askE; rw [if_pos h1])
    go_enter Tryz.func31, Tryz.ntmps31
    go_wp2
    go_ret
    exact ⟨ret_int HE.out.symm, rfl⟩
  · by_cases h2 : s.upper ≤ t
    · have HE := Lib.hid (show askE s t = 131 by unfold askE; rw [if_neg h1, if_pos h2])
      go_enter Tryz.func31, Tryz.ntmps31
      go_wp2
      go_ret
      exact ⟨ret_int HE.out.symm, rfl⟩
    · have HE := Lib.hid (show askE s t = 0 by unfold askE; rw [if_neg h1, if_neg h2])
      go_enter Tryz.func31, Tryz.ntmps31
      go_wp2
      go_ret
      exact ⟨ret_int HE.out.symm, rfl⟩
def CompPost (w : World) (p : Nat) (wb : Option Nat) (s : Spn) (t : Int) (e : Ending) (w' : World) : Prop :=
  e = .returned (.int .i64 (askE s t)) ∧ ((askE s t = 0 ∧ SpAt w' p wb { s with since := t } ∧ Fr [p] w w') ∨ (askE s t ≠ 0 ∧ w = w'))
theorem compact_any {w : World} {p : Nat} {wb : Option Nat} {s : Spn} (h : SpAt w p wb s) (t : Int) : Calls Tryz.prog 30 #[.pointer (some ⟨p, 0, none⟩), .int .i64 t] w (CompPost w p wb s t) := by
  obtain ⟨-, -, c2, c3, -, c5⟩ := h.cell
  have H := Lib.hid h
  have cz := c5 2
  clear h c5
  by_cases h1 : t < s.since
  · have HE := Lib.hid (show askE s t = 130 by unfold askE; rw [if_pos h1])
    go_enter Tryz.func30, Tryz.ntmps30
    go_wp2
    go_ret
    exact ⟨ret_int HE.out.symm, Or.inr ⟨by rw [HE.out]; decide, rfl⟩⟩
  · by_cases h2 : s.upper ≤ t
    · have HE := Lib.hid (show askE s t = 131 by unfold askE; rw [if_neg h1, if_pos h2])
      go_enter Tryz.func30, Tryz.ntmps30
      go_wp2
      go_ret
      exact ⟨ret_int HE.out.symm, Or.inr ⟨by rw [HE.out]; decide, rfl⟩⟩
    · have HE := Lib.hid (show askE s t = 0 by unfold askE; rw [if_neg h1, if_neg h2])
      go_enter Tryz.func30, Tryz.ntmps30
      go_wp2
      go_ret
      exact ⟨ret_int HE.out.symm, Or.inl ⟨HE.out, H.out.setP (s' := { s with since := t }) (by rfl) ⟨rfl, rfl, rfl, rfl, rfl, rfl⟩, (Fr.refl [p] w).setCell (by simp) _⟩⟩
end Go.Proofs.YtjchlfblbmiceaaGreat
namespace Go.Proofs.YtjchlfblbmiceaaGreat
open Go.RowKit srt grp

theorem any_yes {f : Int → Bool} {l : List Int} {k : Nat} (hk : k < l.length) (h : f (nki l k) = true) : l.any f = true := List.any_eq_true.2 ⟨_, nki_mem hk, h⟩
theorem any_no {f : Int → Bool} {l : List Int} (h : ∀ j, j < l.length → f (nki l j) = false) : l.any f = false := by
  rw [List.any_eq_false]
  intro x hx
  obtain ⟨j, hj, e⟩ := List.mem_iff_getElem.1 hx
  have h1 := h j hj
  have h2 : nki l j = x := by
    have := nki_at hj
    rw [List.getElem?_eq_getElem hj, e] at this
    exact (Option.some.inj this).symm
  rw [h2] at h1
  simp [h1]

theorem ret_bool {a b : Bool} (h : a = b) : Ending.returned (.bool a) = .returned (.bool b) := by rw [h]
/-- May a number not be a key's? -/
def keyBad (x : Int) : Bool := decide (x < 0) || decide (999 < x)
def IdxQ (l : List Int) (f : Int → Bool) (w : World) (e : Ending) (w' : World) : Prop := (∃ r : Int, e = .returned (.int .i64 r) ∧ Hid (decide (0 ≤ r) = l.any f)) ∧ w = w'

set_option maxRecDepth 100000
theorem bad_any (x : Int) (w : World) : Calls Tryz.prog 41 #[.int .i64 x] w fun e w' => e = .returned (.bool (keyBad x)) ∧ w = w' := by
  by_cases h1 : x < 0
  · have HE := Lib.hid (show keyBad x = true by unfold keyBad; simp [h1])
    go_enter Tryz.func41, Tryz.ntmps41
    go_wp2
    go_ret
    exact ⟨ret_bool HE.out.symm, rfl⟩
  · by_cases h2 : 999 < x
    · have HE := Lib.hid (show keyBad x = true by unfold keyBad; simp [h2])
      go_enter Tryz.func41, Tryz.ntmps41
      go_wp2
      go_ret
      exact ⟨ret_bool HE.out.symm, rfl⟩
    · have HE := Lib.hid (show keyBad x = false by unfold keyBad; simp; omega)
      go_enter Tryz.func41, Tryz.ntmps41
      go_wp2
      go_ret
      exact ⟨ret_bool HE.out.symm, rfl⟩

theorem idxNew_any {w : World} {a : Option Addr} {c : Nat} {l : List Int} (h : Src w 1 (.slice a l.length c) l.length (kiC l)) (hl : l.length ≤ 17592186043904) :
    Calls Tryz.prog 76 #[.slice a l.length c, .func (.func 41) #[] #[]] w (IdxQ l keyBad w) := by
  have H := Lib.hid h
  clear h
  go_enter Tryz.func76, Tryz.ntmps76
  go_wp2_with fail
  go_loop [8] (fun x => ∃ k : Nat, x = .int .i64 k ∧ k ≤ l.length ∧ Hid (∀ j, j < k → keyBad (nki l j) = false)) (fun x => l.length - (intOf x).toNat)
  case atStart => exact ⟨0, rfl, Nat.zero_le _, Lib.hid (fun j hj => absurd hj (by omega))⟩
  case round =>
    obtain ⟨k, rfl, hk, HA⟩ := hrel
    by_cases hlt : k < l.length
    · obtain ⟨b, off, e1, x0⟩ := src_key H.out hlt
      subst e1
      have hb := bad_any (nki l k)
      by_cases hbad : keyBad (nki l k) = true
      · have HN := Lib.hid (any_yes hlt hbad)
        rw [hbad] at hb
        have HB := Lib.hid hb
        clear hb hbad
        go_wp2_with (go_at_call 41; refine (HB.out _).mono ?_; rintro e w' ⟨rfl, rfl⟩)
        go_ret
        exact ⟨⟨_, rfl, Lib.hid (by rw [HN.out]; simp)⟩, rfl⟩
      · have hbf : keyBad (nki l k) = false := by simpa using hbad
        rw [hbf] at hb
        have HB := Lib.hid hb
        have HN : Hid (∀ j, j < k + 1 → keyBad (nki l j) = false) := Lib.hid (fun j hj => by
          by_cases h1 : j = k
          · rw [h1]; exact hbf
          · exact HA.out j (by omega))
        clear hb hbad hbf
        go_wp2_with (go_at_call 41; refine (HB.out _).mono ?_; rintro e w' ⟨rfl, rfl⟩)
        go_round
        case rel => exact ⟨k + 1, by go_num, by omega, HN⟩
        case measure => simp [intOf] <;> omega
    · go_wp2_with fail
      go_ret
      exact ⟨⟨_, rfl, Lib.hid (by rw [any_no (fun j hj => HA.out j (by omega))]; decide)⟩, rfl⟩

theorem hasNew_any {w : World} {a : Option Addr} {c : Nat} {l : List Int} (h : Src w 1 (.slice a l.length c) l.length (kiC l)) (hl : l.length ≤ 17592186043904) :
    Calls Tryz.prog 40 #[.slice a l.length c, .func (.func 41) #[] #[]] w fun e w' => e = .returned (.bool (l.any keyBad)) ∧ w = w' := by
  have hi := idxNew_any h hl
  clear h
  go_enter Tryz.func40, Tryz.ntmps40
  go_wp2_with (go_at_call 76; refine hi.mono ?_; rintro e w' ⟨⟨r, rfl, HR⟩, rfl⟩)
  go_ret
  exact ⟨ret_bool HR.out, rfl⟩

theorem infoK : (Tryz.prog.info? 3).map (fun i => (i.zero, i.size, i.bytes)) = some (some (.int .i64 0), 1, 8) := by kernel_rfl
/-- slices.Clone at a list of numbers. -/
theorem cloneKey_any {w : World} {aa : Option Addr} {ac : Nat} {l : List Int} (h : Src w 1 (.slice aa l.length ac) l.length (kiC l)) (hn : l.length ≤ 17592186043904) :
    Calls Tryz.prog 42 #[.slice aa l.length ac] w fun e w' => (∃ a c, e = .returned (.slice a l.length c) ∧ KeyAt w' (.slice a l.length c) l) ∧ Fr [] w w' := by
  obtain ⟨i0, hi, hz0, hz1, hz2⟩ := info_parts infoK
  have HS := Lib.hid h
  cases aa with
  | none =>
    have hnil : l = [] ∧ ac = 0 := by
      rcases h.2.2 with ⟨hv, h2⟩ | ⟨ad, c, hv, -⟩
      · simp only [Value.slice.injEq] at hv
        exact ⟨List.length_eq_zero_iff.1 h2, hv.2.2⟩
      · simp at hv
    obtain ⟨rfl, rfl⟩ := hnil
    change Calls _ _ #[.slice none 0 0] w _
    have hq := fun w => Lib.run_eql_slice_nil (P := Tryz.prog) w 22 3 none 0 0 0 0 Tryz.underlying22
    clear h HS
    go_enter Tryz.func42, Tryz.ntmps42
    go_wp2
    go_ret
    exact ⟨⟨none, 0, rfl, Or.inl ⟨none, 0, rfl, fun _ => rfl, rfl⟩⟩, Fr.refl _ _⟩
  | some ad =>
    have hq := fun w => Lib.run_eql_slice_nil (P := Tryz.prog) w 22 3 (some ad) l.length ac 0 0 Tryz.underlying22
    clear h
    go_enter Tryz.func42, Tryz.ntmps42
    go_wp2_with (at_builtin; refine wpList_append_src _ rfl (.tmp 5) (.tmp 6) 22 rfl w.heap.size 3 i0 _ 1 8 Tryz.underlying22 hi hz0 hz1 hz2 rfl (by decide) _ _ _ rfl (World.ownsRow_made w #[] 0 (Nat.le_refl _) (by decide) rfl) _ l.length _ rfl (HS.out.alloc _) (by unfold maxLen; omega) (by omega) (by simp) ?_; intro v' w1 hown hgrow _)
    go_wp2
    go_ret
    have ho : w1.ownsRow w.heap.size 3 1 v' l.length (kiC l) := by simpa using hown
    obtain ⟨a, c, rfl⟩ := ownsRow_shape ho
    refine ⟨⟨a, c, rfl, ?_⟩, ((Fr.refl [] w).alloc _).fresh hgrow (fun r e => Or.inl (by simp [Act.eval, Value.ownBlock] at e; omega))⟩
    rcases ho.2 with ⟨hv, h2⟩ | ⟨g, cap, cur, hv, hb, hg, hcl, -, -, htk⟩
    · simp only [Value.slice.injEq] at hv
      refine Or.inl ⟨a, c, by rw [h2], fun _ => hv.2.2, List.length_eq_zero_iff.1 h2⟩
    · refine Or.inr ⟨g, cap, cur, hv, hcl, hg, ?_⟩
      rw [Nat.mul_one] at htk
      exact htk

/-- May these columns be a key? -/
def keyOk (l : List Int) : Bool := decide (l.length ≤ 16) && !(l.any keyBad)
def spn0 (a : Option Addr) (c : Nat) (l : List Int) : Spn := ⟨a, c, l, none, 0, [], 0, 1, 0⟩
def NewPost (w : World) (l : List Int) (e : Ending) (w' : World) : Prop :=
  Fr [] w w' ∧ ((keyOk l = true ∧ ∃ p a c, e = .returned (.tuple #[.pointer (some ⟨p, 0, none⟩), .int .i64 0]) ∧ w.heap.size ≤ p ∧ SpAt w' p none (spn0 a c l)) ∨ (keyOk l = false ∧ e = .returned (.tuple #[.pointer none, .int .i64 132])))
theorem new_any {w : World} {a : Option Addr} {c : Nat} {l : List Int} (h : Src w 1 (.slice a l.length c) l.length (kiC l)) (hl : l.length ≤ 17592186043904) :
    Calls Tryz.prog 17 #[.slice a l.length c] w (NewPost w l) := by
  have hc := hasNew_any h hl
  have hd := cloneKey_any h hl
  have HC := Lib.hid hc
  have HD := Lib.hid hd
  clear h hc hd
  by_cases h1 : l.length ≤ 16
  · have h1' : ¬ (16 : Int) < (l.length : Int) := by omega
    by_cases h2 : l.any keyBad = true
    · have HK := Lib.hid (show keyOk l = false by unfold keyOk; simp [h2])
      have hc2 := HC.out
      rw [h2] at hc2
      replace HC := Lib.hid hc2
      clear hc2 h2 HD
      go_enter Tryz.func17, Tryz.ntmps17
      go_wp2_with (go_at_call 40; refine HC.out.mono ?_; rintro e w' ⟨rfl, rfl⟩)
      go_ret2
      exact ⟨Fr.refl _ _, Or.inr ⟨HK.out, rfl⟩⟩
    · have h2' : l.any keyBad = false := by simpa using h2
      have HK := Lib.hid (show keyOk l = true by unfold keyOk; simp [h2', h1])
      have hc2 := HC.out
      rw [h2'] at hc2
      replace HC := Lib.hid hc2
      clear hc2 h2 h2'
      go_enter Tryz.func17, Tryz.ntmps17
      go_wp2_with (first
        | (go_at_call 40; refine HC.out.mono ?_; rintro e w' ⟨rfl, rfl⟩)
        | (go_at_call 42; refine HD.out.mono ?_; rintro e w1 ⟨⟨a1, c1, rfl, hk1⟩, f1⟩; have HK1 := Lib.hid hk1; have F1 := Lib.hid f1; clear hk1 f1))
      go_ret2
      have fa := (Fr.refl [] w1).alloc (.cells #[.slice a1 l.length c1, .slice none 0 0, .int .i64 0, .int .i64 1, .int .i64 0] 73)
      refine ⟨F1.out.trans fa, Or.inl ⟨HK.out, w1.heap.size, a1, c1, rfl, F1.out.size, heap_alloc_new w1 _, HK1.out.frT fa (TyB.nil _), ⟨World.ownsRow_nil _ _ _ _, rfl⟩, by simp [spn0]⟩⟩
  · have h1' : (16 : Int) < (l.length : Int) := by omega
    have HK := Lib.hid (show keyOk l = false by unfold keyOk; simp [h1])
    clear HC HD
    go_enter Tryz.func17, Tryz.ntmps17
    go_wp2_with fail
    go_ret2
    exact ⟨Fr.refl _ _, Or.inr ⟨HK.out, rfl⟩⟩

/-! ### what may be added -/
def noCol (n : Nat) (k : Int) : Bool := decide ((n : Int) ≤ k)
def mayE (key : List Int) (from_ upper : Int) (u : upd.El) : Int :=
  if u.t < from_ ∨ upper ≤ u.t then 120 else if 1099511627776 < u.n ∨ u.n < -1099511627776 then 30 else if key.any (noCol u.rd.length) = true then 132 else 0
theorem col_any {w : World} {ub : Nat} {ra : Option Addr} {n rc : Nat} (h : w.cell? ⟨ub, 0, none⟩ = some (.slice ra n rc)) (x : Int) : Calls Tryz.prog 83 #[.int .i64 x, .pointer (some ⟨ub, 0, none⟩)] w fun e w' => e = .returned (.bool (noCol n x)) ∧ w = w' := by
  go_enter Tryz.func83, Tryz.ntmps83
  go_wp2
  go_ret
  exact ⟨rfl, rfl⟩
theorem idxMay_any {w : World} {a : Option Addr} {c : Nat} {l : List Int} {ub n : Nat} (h : Src w 1 (.slice a l.length c) l.length (kiC l)) (hl : l.length ≤ 17592186043904) (hc : ∀ x, Calls Tryz.prog 83 #[.int .i64 x, .pointer (some ⟨ub, 0, none⟩)] w fun e w' => e = .returned (.bool (noCol n x)) ∧ w = w') :
    Calls Tryz.prog 76 #[.slice a l.length c, .func (.func 83) #[] #[.pointer (some ⟨ub, 0, none⟩)]] w (IdxQ l (noCol n) w) := by
  have H := Lib.hid h
  have HC := Lib.hid hc
  clear h hc
  go_enter Tryz.func76, Tryz.ntmps76
  go_wp2_with fail
  go_loop [8] (fun x => ∃ k : Nat, x = .int .i64 k ∧ k ≤ l.length ∧ Hid (∀ j, j < k → noCol n (nki l j) = false)) (fun x => l.length - (intOf x).toNat)
  case atStart => exact ⟨0, rfl, Nat.zero_le _, Lib.hid (fun j hj => absurd hj (by omega))⟩
  case round =>
    obtain ⟨k, rfl, hk, HA⟩ := hrel
    by_cases hlt : k < l.length
    · obtain ⟨b, off, e1, x0⟩ := src_key H.out hlt
      subst e1
      have hb := HC.out (nki l k)
      by_cases hbad : noCol n (nki l k) = true
      · have HN := Lib.hid (any_yes hlt hbad)
        rw [hbad] at hb
        have HB := Lib.hid hb
        clear hb hbad
        go_wp2_with (go_at_call 83; refine HB.out.mono ?_; rintro e w' ⟨rfl, rfl⟩)
        go_ret
        exact ⟨⟨_, rfl, Lib.hid (by rw [HN.out]; simp)⟩, rfl⟩
      · have hbf : noCol n (nki l k) = false := by simpa using hbad
        rw [hbf] at hb
        have HB := Lib.hid hb
        have HN : Hid (∀ j, j < k + 1 → noCol n (nki l j) = false) := Lib.hid (fun j hj => by
          by_cases h1 : j = k
          · rw [h1]; exact hbf
          · exact HA.out j (by omega))
        clear hb hbad hbf
        go_wp2_with (go_at_call 83; refine HB.out.mono ?_; rintro e w' ⟨rfl, rfl⟩)
        go_round
        case rel => exact ⟨k + 1, by go_num, by omega, HN⟩
        case measure => simp [intOf] <;> omega
    · go_wp2_with fail
      go_ret
      exact ⟨⟨_, rfl, Lib.hid (by rw [any_no (fun j hj => HA.out j (by omega))]; decide)⟩, rfl⟩
theorem hasMay_any {w : World} {a : Option Addr} {c : Nat} {l : List Int} {ub n : Nat} {ra : Option Addr} {rc : Nat} (h : Src w 1 (.slice a l.length c) l.length (kiC l)) (hl : l.length ≤ 17592186043904) (hu : w.cell? ⟨ub, 0, none⟩ = some (.slice ra n rc)) :
    Calls Tryz.prog 40 #[.slice a l.length c, .func (.func 83) #[] #[.pointer (some ⟨ub, 0, none⟩)]] w fun e w' => e = .returned (.bool (l.any (noCol n))) ∧ w = w' := by
  have hi := idxMay_any h hl (col_any hu)
  clear h hu
  go_enter Tryz.func40, Tryz.ntmps40
  go_wp2_with (go_at_call 76; refine hi.mono ?_; rintro e w' ⟨⟨r, rfl, HR⟩, rfl⟩)
  go_ret
  exact ⟨ret_bool HR.out, rfl⟩

end Go.Proofs.YtjchlfblbmiceaaGreat
namespace Go.Proofs.YtjchlfblbmiceaaGreat
open Go.RowKit srt grp

set_option maxRecDepth 100000
set_option maxHeartbeats 1600000 in
theorem may_any {w : World} {p : Nat} {wb : Option Nat} {s : Spn} {u : upd.El} (h : SpAt w p wb s) (hu : u.rl = u.rd.length) (hk : s.key.length ≤ 17592186043904) (t : Int) :
    Calls Tryz.prog 56 #[.pointer (some ⟨p, 0, none⟩), .agg #[.slice u.ra u.rl u.rc, .int .i64 u.t, .int .i64 u.n], .int .i64 t] w fun e w' => e = .returned (.int .i64 (mayE s.key s.upper t u)) ∧ Fr [] w w' := by
  have H := Lib.hid h
  have HU := Lib.hid hu
  clear h hu
  go_enter Tryz.func56, Tryz.ntmps56
  go_upto_region 1 with fail
  have fa : Fr [] w (w.alloc (.cells #[.slice u.ra u.rl u.rc, .int .i64 u.t, .int .i64 u.n] 65)) := (Fr.refl [] w).alloc _
  have hb := heap_alloc_new w (.cells #[.slice u.ra u.rl u.rc, .int .i64 u.t, .int .i64 u.n] 65)
  have FA := Lib.hid fa
  obtain ⟨s0, s1, s2, s3, s4, -⟩ := (H.out.fr fa).cell
  have HA := Lib.hid (H.out.fr fa)
  clear fa H
  generalize w.heap.size = ub at *
  generalize w.alloc (.cells #[.slice u.ra u.rl u.rc, .int .i64 u.t, .int .i64 u.n] 65) = wa at *
  have q1 : ∀ p : FrBy wa, p.wn.cell? ⟨ub, 1, none⟩ = some (.int .i64 u.t) := fun p => p.fr.cell (cell_blk hb 1 _ rfl) (by simp)
  have q3 : ∀ q : FrBy wa, q.wn.cell? ⟨p, 3, none⟩ = some (.int .i64 s.upper) := fun q => q.fr.cell s3 (by simp)
  have HB := Lib.hid hb
  clear hb s0 s1 s2 s3 s4
  by_cases h1 : u.t < s.upper
  · have HE := Lib.hid (show mayE s.key s.upper t u = 120 by unfold mayE; rw [if_pos (Or.inl h1)])
    refine wp_region_fr (by kernel_rfl) (by kernel_rfl) ?_
    repeat (go_big_quiet_step (fail))
    refine wpQuiet_nil ?_
    intro wn hwn
    have fn : Fr [] wa wn := by obtain ⟨p, rfl⟩ := hwn; exact p.fr
    clear hwn q1 q3
    go_wp2_with fail
    go_ret
    exact ⟨ret_int HE.out.symm, FA.out.trans fn⟩
  · by_cases h2 : t ≤ u.t
    · have HE := Lib.hid (show mayE s.key s.upper t u = 120 by unfold mayE; rw [if_pos (Or.inr h2)])
      refine wp_region_fr (by kernel_rfl) (by kernel_rfl) ?_
      repeat (go_big_quiet_step (fail))
      refine wpQuiet_nil ?_
      intro wn hwn
      have fn : Fr [] wa wn := by obtain ⟨p, rfl⟩ := hwn; exact p.fr
      clear hwn q1 q3
      go_wp2_with fail
      go_ret
      exact ⟨ret_int HE.out.symm, FA.out.trans fn⟩
    · refine wp_region_fr (by kernel_rfl) (by kernel_rfl) ?_
      repeat (go_big_quiet_step (fail))
      refine wpQuiet_nil ?_
      intro wn hwn
      have fn : Fr [] wa wn := by obtain ⟨p, rfl⟩ := hwn; exact p.fr
      have z0 := fn.cell (cell_blk HB.out 0 _ rfl) (by simp)
      have z2 := fn.cell (cell_blk HB.out 2 _ rfl) (by simp)
      obtain ⟨s0, -, -, -, -, -⟩ := (HA.out.fr fn).cell
      have FN := Lib.hid fn
      clear hwn q1 q3 fn
      by_cases h3 : 1099511627776 < u.n
      · have HE := Lib.hid (show mayE s.key s.upper t u = 30 by unfold mayE; rw [if_neg (by omega), if_pos (Or.inl h3)])
        go_wp2_with fail
        go_ret
        exact ⟨ret_int HE.out.symm, FA.out.trans FN.out⟩
      · by_cases h4 : u.n < -1099511627776
        · have HE := Lib.hid (show mayE s.key s.upper t u = 30 by unfold mayE; rw [if_neg (by omega), if_pos (Or.inr h4)])
          go_wp2_with fail
          go_ret
          exact ⟨ret_int HE.out.symm, FA.out.trans FN.out⟩
        · have hs := hasMay_any (a := s.ka) (c := s.kc) (l := s.key) ((HA.out.fr FN.out).key.src) hk z0
          have e9 := HU.out
          rw [e9] at hs
          clear e9
          by_cases h5 : s.key.any (noCol u.rd.length) = true
          · have HE := Lib.hid (show mayE s.key s.upper t u = 132 by unfold mayE; rw [if_neg (by omega), if_neg (by omega), if_pos h5])
            rw [h5] at hs
            have HS := Lib.hid hs
            clear hs h5
            go_wp2_with (go_at_call 40; refine HS.out.mono ?_; rintro e w' ⟨rfl, rfl⟩)
            go_ret
            exact ⟨ret_int HE.out.symm, FA.out.trans FN.out⟩
          · have HE := Lib.hid (show mayE s.key s.upper t u = 0 by unfold mayE; rw [if_neg (by omega), if_neg (by omega), if_neg h5])
            have h6 : s.key.any (noCol u.rd.length) = false := by simpa using h5
            rw [h6] at hs
            have HS := Lib.hid hs
            clear hs h5 h6
            go_wp2_with (go_at_call 40; refine HS.out.mono ?_; rintro e w' ⟨rfl, rfl⟩)
            go_ret
            exact ⟨ret_int HE.out.symm, FA.out.trans FN.out⟩
end Go.Proofs.YtjchlfblbmiceaaGreat
namespace Go.Proofs.YtjchlfblbmiceaaGreat
open Go.RowKit srt grp

theorem infoB : (Tryz.prog.info? 27).map (fun i => (i.zero, i.size, i.bytes)) = some (some (.slice none 0 0), 1, 24) := by kernel_rfl
/-- What became of the blocks. -/
def BsGrew (w w' : World) (wb wb' : Option Nat) : Prop := w.grownBy w' wb ∧ (wb' = wb ∨ wb' = some w.heap.size)
/-- Batches put behind a list of batches. -/
theorem wpList_append_bs (w : World) {ops : Array Oper} {rest : List Oper} {o : Oper} {a : Act} {Q : Exit → Act → World → Prop} (hgd : o.guard = none) (s x : Operand)
    (ho : o.op = .call { callee := .builtin .append, args := #[s, x], argTypes := #[71, 71] })
    (wb : Option Nat) (v : Value) (bs ns : List Bt) (hs : a.eval s = v) (hb : BsAt w wb v bs) (xv : Value) (hx : a.eval x = xv) (hsrc : Src w 1 xv ns.length (btsC ns)) (h63 : bs.length + ns.length ≤ 1000000)
    (h : ∀ va vc w' wb', BsAt w' wb' (.slice va (bs.length + ns.length) vc) (bs ++ ns) → BsGrew w w' wb wb' → wpList Tryz.prog ops Q rest (a.put o.dst (.slice va (bs.length + ns.length) vc)) w') : wpList Tryz.prog ops Q (o :: rest) a w := by
  obtain ⟨i0, hi, hz0, hz1, hz2⟩ := info_parts infoB
  obtain ⟨hown, rfl⟩ := hb
  refine wpList_append_src w hgd s x 71 ho 0 27 i0 _ 1 24 Tryz.underlying71 hi hz0 hz1 hz2 rfl (by decide) v bs.length _ hs hown xv ns.length _ hx hsrc (by unfold maxLen; omega) (by omega) (Nat.zero_le _) fun v' w' h2 h3 h4 => ?_
  obtain ⟨va, vc, rfl⟩ := ownsRow_shape h2
  refine h va vc w' _ ⟨?_, rfl⟩ ⟨h3, h4⟩
  rw [List.length_append]
  unfold btsC at *
  rw [List.map_append]
  exact h2

/-- The first that is not 0. -/
def firstE (f : upd.El → Int) : List upd.El → Int
  | [] => 0
  | u :: l => if f u ≠ 0 then f u else firstE f l
theorem firstE_step {f : upd.El → Int} {l : List upd.El} {k : Nat} (hk : k < l.length) : firstE f (l.drop k) = if f (upd.nth l k) ≠ 0 then f (upd.nth l k) else firstE f (l.drop (k + 1)) := by
  have h1 := upd.nth_at hk
  rw [List.getElem?_eq_getElem hk] at h1
  rw [List.drop_eq_getElem_cons hk, Option.some.inj h1]
  rfl
theorem firstE_zero {f : upd.El → Int} : ∀ {l : List upd.El}, firstE f l = 0 ↔ ∀ u ∈ l, f u = 0
  | [] => by simp [firstE]
  | u :: l => by
    unfold firstE
    have ih := firstE_zero (f := f) (l := l)
    by_cases h : f u = 0
    · rw [if_neg (by simp [h]), ih]; simp [h]
    · rw [if_pos h]; simp [h]
theorem mayE_zero {key : List Int} {a b : Int} {u : upd.El} (h : mayE key a b u = 0) : a ≤ u.t ∧ u.t < b ∧ -1099511627776 ≤ u.n ∧ u.n ≤ 1099511627776 ∧ ∀ k ∈ key, k < (u.rd.length : Int) := by
  unfold mayE at h
  split at h
  · cases h
  · split at h
    · cases h
    · split at h
      · cases h
      · rename_i h1 h2 h3
        refine ⟨by omega, by omega, by omega, by omega, fun k hk => ?_⟩
        have h4 : key.any (noCol u.rd.length) = false := by simpa using h3
        rw [List.any_eq_false] at h4
        have h5 := h4 k hk
        simp [noCol] at h5
        omega
def addE (s : Spn) (upper : Int) (l : List upd.El) : Int := if 1099511627777 < upper then 2 else if upper ≤ s.upper then 120 else firstE (mayE s.key s.upper upper) l
/-- A batch that lies in a new block. -/
def NewB (n : Nat) (b : Bt) : Prop := b.l ≠ [] → ∃ g, b.ba = some ⟨g, 0, none⟩ ∧ n ≤ g
theorem NewB.of {base n : Nat} {w : World} {a : Option Addr} {c : Nat} {l : List upd.El} (h : upd.ListIn base w (.slice a l.length c) l) (hn : n ≤ base) : NewB n ⟨a, c, l⟩ := by
  intro hl
  rcases h.1 with ⟨-, -, -, -, h9⟩ | ⟨g, c9, cur, hb, hv, -⟩
  · exact absurd h9 hl
  · simp only [Value.slice.injEq] at hv
    exact ⟨g, hv.1, by omega⟩
/-- A batch at the end, if there is something in it. -/
def more (bs : List Bt) (b : Bt) : List Bt := if b.l = [] then bs else bs ++ [b]
def AddPost (w : World) (p : Nat) (wb : Option Nat) (s : Spn) (upper : Int) (l : List upd.El) (e : Ending) (w' : World) : Prop :=
  e = .returned (.int .i64 (addE s upper l)) ∧ ((addE s upper l = 0 ∧ ∃ (b : Bt) (wb' : Option Nat) (va : Option Addr) (vc : Nat), Canon upd.cmpU (b.l.map upd.pr) (fun q => 1 * sumK (l.map upd.pr) q) ∧ b.l.length ≤ l.length ∧ SpAt w' p wb' { s with va := va, vc := vc, upper := upper, bs := more s.bs b } ∧ Fr (wbL p wb) w w' ∧ (wb' = wb ∨ ∃ g, wb' = some g ∧ w.heap.size ≤ g) ∧ NewB w.heap.size b) ∨
    (addE s upper l ≠ 0 ∧ Fr [] w w'))

theorem fit_many {l : List upd.El} (hl : l.length ≤ 8000) (h : ∀ u ∈ l, -1099511627776 ≤ u.n ∧ u.n ≤ 1099511627776) (q : Int × List Dt) : fitB (1 * sumK (l.map upd.pr) q) = true := by
  have h1 := sumK_bound (l := l.map upd.pr) (B := 1099511627776) (fun p hp => by
    obtain ⟨e, he, rfl⟩ := List.mem_map.1 hp
    exact h e he) q
  rw [List.length_map] at h1
  rw [fitB_iff]
  omega

/-- The list of batches is stored. -/
theorem SpAt.store {w : World} {p : Nat} {wb' : Option Nat} {s : Spn} {va : Option Addr} {vc n : Nat} {bs' : List Bt} (hb : w.heap[p]? = some (.cells s.cells 73)) (hk : KeyAt w (.slice s.ka s.key.length s.kc) s.key) (hn : bs'.length = n) (ho : BsAt w wb' (.slice va n vc) bs') (ht : ∀ b ∈ bs', upd.ListIn 0 w b.v b.l) :
    SpAt (w.setCell ⟨p, 1, none⟩ (.slice va n vc)) p wb' { s with va := va, vc := vc, bs := bs' } := by
  subst hn
  have f : Fr [p] w (w.setCell ⟨p, 1, none⟩ (.slice va bs'.length vc)) := (Fr.refl [p] w).setCell (by simp) _
  have hT : TyB w [p] := fun x hx => by rw [List.mem_singleton.1 hx]; exact Or.inl ⟨_, hb⟩
  refine ⟨heap_set hb, hk.frT f hT, ho.frS f fun g hg hx => ?_, fun b h9 => (ht b h9).frT f hT⟩
  obtain ⟨cur, hc⟩ := ho.ty hg
  rw [List.mem_singleton.1 hx, hb] at hc
  simp at hc

set_option maxRecDepth 100000
set_option maxHeartbeats 3200000 in
theorem add_any {w : World} {p : Nat} {wb : Option Nat} {s : Spn} {a : Option Addr} {c : Nat} {l : List upd.El} (h : SpAt w p wb s) (hl : upd.Cts w (.slice a l.length c) l) (hk : s.key.length ≤ 16) (hb : s.bs.length ≤ 100000) (hn : l.length ≤ 1000) (t : Int) :
    Calls Tryz.prog 26 #[.pointer (some ⟨p, 0, none⟩), .int .i64 t, .slice a l.length c] w (AddPost w p wb s t l) := by
  have H := Lib.hid h
  have HL := Lib.hid hl
  obtain ⟨-, -, -, x3, -, -⟩ := h.cell
  clear h hl
  by_cases h1 : 1099511627777 < t
  · have HE := Lib.hid (show addE s t l = 2 by unfold addE; rw [if_pos h1])
    go_enter Tryz.func26, Tryz.ntmps26
    go_wp2_with fail
    go_ret
    exact ⟨ret_int HE.out.symm, Or.inr ⟨by rw [HE.out]; decide, Fr.refl _ _⟩⟩
  · by_cases h2 : t ≤ s.upper
    · have HE := Lib.hid (show addE s t l = 120 by unfold addE; rw [if_neg h1, if_pos h2])
      go_enter Tryz.func26, Tryz.ntmps26
      go_wp2_with fail
      go_ret
      exact ⟨ret_int HE.out.symm, Or.inr ⟨by rw [HE.out]; decide, Fr.refl _ _⟩⟩
    · have HE := Lib.hid (show addE s t l = firstE (mayE s.key s.upper t) l by unfold addE; rw [if_neg h1, if_neg h2])
      go_enter Tryz.func26, Tryz.ntmps26
      go_wp2_with fail
      go_loopw [22] (fun x wr => ∃ k : Nat, x = .int .i64 k ∧ k ≤ l.length ∧ Fr [] w wr ∧ Hid (addE s t l = firstE (mayE s.key s.upper t) (l.drop k))) (fun x _ => l.length - (intOf x).toNat)
      case atStart => exact ⟨0, rfl, Nat.zero_le _, Fr.refl _ _, HE⟩
      case round =>
        clear HE x3
        obtain ⟨k, rfl, hkl, hf, HA⟩ := hrel
        have HF := Lib.hid hf
        by_cases hlt : k < l.length
        · as_aux_lemma =>
          obtain ⟨b, off, e1, y0, y1, y2⟩ := (HL.out.fr hf).cell hlt
          subst e1
          have hok := (HL.out.row _ (upd.nth_mem hlt))
          have hrl : (upd.nth l k).rl = (upd.nth l k).rd.length := by
            obtain ⟨a9, c9, hv, -⟩ := hok.1.shape
            unfold upd.El.rv at hv
            simp only [Value.slice.injEq] at hv
            exact hv.2.1
          have hm : ∀ wi, Fr [] w wi → Calls Tryz.prog 56 #[.pointer (some ⟨p, 0, none⟩), .agg #[.slice (upd.nth l k).ra (upd.nth l k).rl (upd.nth l k).rc, .int .i64 (upd.nth l k).t, .int .i64 (upd.nth l k).n], .int .i64 t] wi fun e w' => e = .returned (.int .i64 (mayE s.key s.upper t (upd.nth l k))) ∧ Fr [] wi w' := fun wi f => may_any (H.out.fr f) hrl (by omega) t
          have hst := firstE_step (f := mayE s.key s.upper t) hlt
          generalize mayE s.key s.upper t (upd.nth l k) = mv at *
          have HM := Lib.hid hm
          have HSt := Lib.hid hst
          clear hf hok hrl hm hst
          have FA := Lib.hid (HF.out.alloc (.cells #[.slice (upd.nth l k).ra (upd.nth l k).rl (upd.nth l k).rc, .int .i64 (upd.nth l k).t, .int .i64 (upd.nth l k).n] 65))
          by_cases hz : mv = 0
          · have HN := Lib.hid (show addE s t l = _ by rw [HA.out, HSt.out, if_neg (by simp [hz])])
            have hz2 : (mv != 0) = false := by simp [hz]
            clear hz
            go_wp2_with (go_at_call 56; refine (HM.out _ FA.out).mono ?_; rintro e w5 ⟨rfl, f5⟩)
            go_roundw
            case rel => exact ⟨k + 1, by go_num, by omega, FA.out.trans f5, HN⟩
            case measure => simp [intOf] <;> omega
          · have HN := Lib.hid (show addE s t l = mv by rw [HA.out, HSt.out, if_pos hz])
            have hz2 : (mv != 0) = true := by simp [hz]
            have HZ := Lib.hid hz
            clear hz
            go_wp2_with (go_at_call 56; refine (HM.out _ FA.out).mono ?_; rintro e w5 ⟨rfl, f5⟩)
            go_ret
            exact ⟨ret_int HN.out.symm, Or.inr ⟨by rw [HN.out]; exact HZ.out, FA.out.trans f5⟩⟩
        · as_aux_lemma =>
          have hkM : k = l.length := by omega
          have HZ := Lib.hid (show addE s t l = 0 by rw [HA.out, hkM, List.drop_length]; rfl)
          have hall := firstE_zero.1 (show firstE (mayE s.key s.upper t) l = 0 by have := HZ.out; unfold addE at this; rwa [if_neg (by omega), if_neg (by omega)] at this)
          have hse := settleFit (HL.out.fr hf) rfl (by omega) (fit_many (by omega) (fun u hu => by have := mayE_zero (hall u hu); omega))
          have HS := Lib.hid hse
          clear hf hse hall hkM HA
          go_upto_region 15 with (go_at_call 37; refine HS.out.mono ?_; rintro e w5 ⟨outs, oa, oc, rfl, f5, k5, n5, m5⟩)
          have h5 := H.out.fr (HF.out.trans f5)
          obtain ⟨-, -, -, x3, -, z5⟩ := h5.cell
          have z3 := z5 3
          have h6 := h5.setP (o := 3) (v := .int .i64 t) (s' := { s with upper := t }) rfl ⟨rfl, rfl, rfl, rfl, rfl, rfl⟩
          have f6 : Fr [p] w5 (w5.setCell ⟨p, 3, none⟩ (.int .i64 t)) := (Fr.refl [p] w5).setCell (by simp) _
          have F6 := Lib.hid ((HF.out.trans f5).nil.trans f6)
          have H6 := Lib.hid h6
          have K6 := Lib.hid ((k5.frT f6 h5.tyP).base (Nat.zero_le _))
          have N5 := Lib.hid n5
          have NB := Lib.hid (NewB.of k5 HF.out.size)
          clear f5 k5 n5 h5 z5 h6 f6 HF HS
          go_upto_region 16 with fail
          clear x3 z3
          generalize w5.setCell ⟨p, 3, none⟩ (.int .i64 t) = w6 at *
          by_cases ho : outs = []
          · subst ho
            go_wp2_with fail
            go_ret
            exact ⟨ret_int HZ.out.symm, Or.inl ⟨HZ.out, ⟨oa, oc, []⟩, wb, s.va, s.vc, N5.out, Nat.zero_le _, H6.out, F6.out.mono (wbL_one p wb), Or.inl rfl, NB.out⟩⟩
          · have HO := Lib.hid ho
            have hpos : (0 : Int) < (outs.length : Int) := by have := List.length_pos_iff.2 ho; omega
            obtain ⟨-, x1, -⟩ := H6.out.cell
            clear ho
            have hsrc : Src (w6.alloc (.cells #[.slice oa outs.length oc] 27)) 1 (.slice (some ⟨w6.heap.size, 0, none⟩) 1 1) 1 (btsC [⟨oa, oc, outs⟩]) := Src.block (heap_alloc_new w6 _) rfl (by intro u hu; simp at hu; rw [hu]; rfl)
            have HSrc := Lib.hid hsrc
            have fa : Fr [] w6 (w6.alloc (.cells #[.slice oa outs.length oc] 27)) := (Fr.refl [] w6).alloc _
            have HA6 := Lib.hid (H6.out.fr fa)
            have FA6 := Lib.hid fa
            clear hsrc fa
            go_wp2_with (at_builtin; refine wpList_append_bs _ rfl (.tmp 53) (.tmp 55) rfl wb (.slice s.va s.bs.length s.vc) s.bs [⟨oa, oc, outs⟩] rfl HA6.out.own (.slice (some ⟨w6.heap.size, 0, none⟩) 1 1) rfl HSrc.out (by simp; omega) ?_; intro va vc w7 wb' hb7 hg7; have f7 : Fr wb.toList (w6.alloc (.cells #[.slice oa outs.length oc] 27)) w7 := Fr.grown hg7.1; have hp7 : p ∉ wb.toList := fun hx => HA6.out.ne p (by simpa using hx) (by simp); have ht7 : TyB (w6.alloc (.cells #[.slice oa outs.length oc] 27)) wb.toList := fun x hx => HA6.out.tyB x (by simp [wbL] at *; exact Or.inr hx); have b7 := f7.heap HA6.out.blk hp7; have c7 : w7.cell? ⟨p, 1, none⟩ = some (.slice s.va s.bs.length s.vc) := (by simp [World.cell?, b7, Spn.cells]); have z7 : w7.frozen? ⟨p, 1, none⟩ = false := (by simp [World.frozen?, b7]); have B7 := Lib.hid b7; have G7 := Lib.hid hg7; have O7 := Lib.hid hb7; have F7 := Lib.hid f7; have T7 := Lib.hid ht7; clear f7 hp7 ht7 b7 hg7 hb7)
            go_ret
            refine ⟨ret_int HZ.out.symm, Or.inl ⟨HZ.out, ⟨oa, oc, outs⟩, wb', va, vc, N5.out, m5, ?_, ?_, ?_, NB.out⟩⟩
            · have e1 : more s.bs ⟨oa, oc, outs⟩ = s.bs ++ [⟨oa, oc, outs⟩] := by unfold more; rw [if_neg HO.out]
              rw [e1]
              refine SpAt.store (s := { s with upper := t }) B7.out (HA6.out.key.frT F7.out T7.out) (by simp) O7.out fun b hb9 => ?_
              rcases List.mem_append.1 hb9 with hb9 | hb9
              · exact (HA6.out.bts b hb9).frT F7.out T7.out
              · rw [List.mem_singleton.1 hb9]
                exact (K6.out.frT FA6.out (TyB.nil _)).frT F7.out T7.out
            · exact (((F6.out.trans FA6.out.nil).mono (wbL_one p wb)).trans (F7.out.mono (wbL_wb p wb))).setCell (wbL_p p wb) _
            · rcases G7.out.2 with h9 | h9
              · exact Or.inl h9
              · exact Or.inr ⟨_, h9, Nat.le_trans F6.out.size FA6.out.size⟩
end Go.Proofs.YtjchlfblbmiceaaGreat
namespace Go.Proofs.YtjchlfblbmiceaaGreat
open Go.RowKit srt grp

set_option maxRecDepth 100000
/-- slices.Clone at a list of batches. -/
theorem cloneB_any {w : World} {aa : Option Addr} {n ac : Nat} {l : List Bt} (hl : l.length = n) (h : Src w 1 (.slice aa n ac) l.length (btsC l)) (hn : l.length ≤ 1000000) :
    Calls Tryz.prog 44 #[.slice aa n ac] w fun e w' => (∃ a c wb, e = .returned (.slice a n c) ∧ BsAt w' wb (.slice a n c) l ∧ ∀ g, wb = some g → w.heap.size ≤ g) ∧ Fr [] w w' := by
  subst hl
  obtain ⟨i0, hi, hz0, hz1, hz2⟩ := info_parts infoB
  have HS := Lib.hid h
  cases aa with
  | none =>
    have hnil : l = [] ∧ ac = 0 := by
      obtain ⟨-, -, ⟨hv, hd⟩ | ⟨ad, c, hv, -⟩⟩ := h
      · simp only [Value.slice.injEq] at hv
        exact ⟨List.length_eq_zero_iff.1 hd, hv.2.2⟩
      · simp at hv
    obtain ⟨rfl, rfl⟩ := hnil
    change Calls _ _ #[.slice none 0 0] w _
    have hq := fun w => Lib.run_eql_slice_nil (P := Tryz.prog) w 71 27 none 0 0 0 0 Tryz.underlying71
    clear h HS
    go_enter Tryz.func44, Tryz.ntmps44
    go_wp2
    go_ret
    exact ⟨⟨none, 0, none, rfl, ⟨World.ownsRow_nil _ _ _ _, rfl⟩, fun g h => by cases h⟩, Fr.refl _ _⟩
  | some ad =>
    have hq := fun w => Lib.run_eql_slice_nil (P := Tryz.prog) w 71 27 (some ad) l.length ac 0 0 Tryz.underlying71
    clear h
    go_enter Tryz.func44, Tryz.ntmps44
    go_wp2_with (at_builtin; refine wpList_append_src _ rfl (.tmp 5) (.tmp 6) 71 rfl w.heap.size 27 i0 _ 1 24 Tryz.underlying71 hi hz0 hz1 hz2 rfl (by decide) _ _ _ rfl (World.ownsRow_made w #[] 0 (Nat.le_refl _) (by decide) rfl) _ l.length _ rfl (HS.out.alloc _) (by unfold maxLen; omega) (by omega) (by simp) ?_; intro v' w1 hown hgrow _)
    go_wp2
    go_ret
    have ho : w1.ownsRow w.heap.size 27 1 v' l.length (btsC l) := by simpa using hown
    obtain ⟨a, c, rfl⟩ := ownsRow_shape ho
    exact ⟨⟨a, c, _, rfl, ⟨ownsRow_base ho (Nat.zero_le _), rfl⟩, fun g hg => (ho.lt g hg).1⟩, ((Fr.refl [] w).alloc _).fresh hgrow (fun r e => Or.inl (by simp [Act.eval, Value.ownBlock] at e; omega))⟩

/-- slices.Grow of nil. -/
theorem growNil_any {w : World} {n : Int} (h0 : 0 ≤ n) (hn : n ≤ 1000000) :
    Calls Tryz.prog 84 #[.slice none 0 0, .int .i64 n] w fun e w' => (∃ a c, e = .returned (.slice a 0 c) ∧ w'.ownsRow w.heap.size 65 3 (.slice a 0 c) 0 []) ∧ Fr [] w w' := by
  obtain ⟨i0, hi, hz0, hz1, hz2⟩ := info_parts upd.infoU
  obtain ⟨m, rfl⟩ := Int.eq_ofNat_of_zero_le h0
  by_cases hm : m = 0
  · subst hm
    change Calls _ _ #[.slice none 0 0, .int .i64 0] w _
    go_enter Tryz.func84, Tryz.ntmps84
    go_wp2
    go_ret
    exact ⟨⟨none, 0, rfl, World.ownsRow_nil _ _ _ _⟩, Fr.refl _ _⟩
  · have h1 : ¬ ((m : Int) < 0) := by omega
    have h2 : (0 : Int) < (m : Int) := by omega
    have hr := fun ty => Lib.run_append_nil_zeros (P := Tryz.prog) w 27 3 ty 65 i0 _ .i64 .i64 Tryz.underlying27 Tryz.underlying3 hi hz0 m (by omega) (by rw [hz1]; decide) (by omega) (by rw [hz2]; omega)
    have hge := grownCap_ge w m 0 65
    have hle := grownCap_le_maxLen w m 0 65 (by unfold maxLen; omega)
    have HR := Lib.hid hr
    clear hr
    generalize hcap : grownCap w m 0 65 = cp at *
    have hsz : (Builtin.zeroCells (Value.cells (.agg #[.slice none 0 0, .int .i64 0, .int .i64 0])) m ++ Builtin.zeroCells (Value.cells (.agg #[.slice none 0 0, .int .i64 0, .int .i64 0])) (cp - m)).size = cp * 3 := by
      have e3 : (Value.cells (.agg #[.slice none 0 0, .int .i64 0, .int .i64 0])).size = 3 := rfl
      rw [Array.size_append, size_zeroCells, size_zeroCells, e3]
      omega
    generalize Builtin.zeroCells (Value.cells (.agg #[.slice none 0 0, .int .i64 0, .int .i64 0])) m ++ Builtin.zeroCells (Value.cells (.agg #[.slice none 0 0, .int .i64 0, .int .i64 0])) (cp - m) = zs at *
    have HSz := Lib.hid hsz
    clear hsz hcap
    go_enter Tryz.func84, Tryz.ntmps84
    go_wp2_with (at_builtin; refine Lib.wpList_append_run _ rfl (.tmp 20) (.tmp 21) 27 3 rfl (.slice none 0 0) (.int .i64 m) rfl rfl _ _ (HR.out _) ?_)
    go_ret
    have fd : Fr [] w (w.drew.alloc (.cells zs 65)) := ((Fr.refl [] w).drew).alloc _
    refine ⟨⟨some ⟨w.heap.size, 0, none⟩, cp, rfl, rfl, Or.inr ⟨w.heap.size, cp, zs, rfl, Nat.le_refl _, heap_alloc_new w.drew _, Nat.zero_le _, hle, HSz.out, ?_⟩⟩, fd⟩
    simp

theorem upd.Cts.frs {w w' : World} {v : Value} {l : List upd.El} (h : upd.Cts w v l) (f : Fr [] w w') : Src w' 3 v l.length (upd.elsC l) := (h.fr f).src
set_option maxHeartbeats 1600000 in
/-- slices.Concat of two lists. -/
theorem concat_any {w : World} {b : Nat} {a1 a2 : Option Addr} {c1 c2 : Nat} {l1 l2 : List upd.El} (h0 : w.heap[b]? = some (.cells #[.slice a1 l1.length c1, .slice a2 l2.length c2] 27)) (h1 : upd.Cts w (.slice a1 l1.length c1) l1) (h2 : upd.Cts w (.slice a2 l2.length c2) l2) (hn : l1.length + l2.length ≤ 100000) :
    Calls Tryz.prog 59 #[.slice (some ⟨b, 0, none⟩) 2 2] w fun e w' => (∃ a c, e = .returned (.slice a (l1.length + l2.length) c) ∧ upd.Cts w' (.slice a (l1.length + l2.length) c) (l1 ++ l2)) ∧ Fr [] w w' := by
  obtain ⟨i0, hi, hz0, hz1, hz2⟩ := info_parts upd.infoU
  have x0 := cell_blk h0 0 _ rfl
  have x1 := cell_blk h0 1 _ rfl
  have HB := Lib.hid h0
  have H1 := Lib.hid h1
  have H2 := Lib.hid h2
  clear h0 h1 h2
  have n1 : ¬ ((l1.length : Int) < 0) := by omega
  have n2 : ¬ ((l1.length : Int) + (l2.length : Int) < 0) := by omega
  go_enter Tryz.func59, Tryz.ntmps59
  go_wp2_with fail
  refine wp_loop_rounds 3 ?_
  rw [rounds_succ]
  go_wp2_with fail
  rw [rounds_succ]
  go_wp2_with fail
  rw [rounds_succ]
  go_wp2_with (go_at_call 84; refine (growNil_any (by omega) (by omega)).mono ?_; rintro e w1 ⟨⟨ga, gc, rfl, go1⟩, f1⟩; have y0 := f1.cell x0 (by simp); have y1 := f1.cell x1 (by simp); have GO := Lib.hid go1; have F1 := Lib.hid f1; clear go1 f1)
  refine wp_loop_rounds 3 ?_
  rw [rounds_succ]
  have s1 := Lib.hid (H1.out.frs F1.out)
  have hz1' := F1.out.size
  go_wp2_with (at_builtin; refine wpList_append_src _ rfl (.tmp 31) (.tmp 32) 27 rfl w.heap.size 65 i0 _ 3 40 Tryz.underlying27 hi hz0 hz1 hz2 rfl (by decide) (.slice ga 0 gc) 0 _ rfl GO.out (.slice a1 l1.length c1) l1.length _ rfl s1.out (by unfold maxLen; omega) (by omega) (by omega) ?_; intro v2 w2 hown2 hgrow2 _; have f2 := F1.out.fresh hgrow2 (fun r e => Or.inl (GO.out.lt r e).1); have u1 := f2.cell x1 (by simp); have o2 : w2.ownsRow w.heap.size 65 3 v2 l1.length (upd.elsC l1) := (by simpa using hown2); obtain ⟨ga2, gc2, rfl⟩ := ownsRow_shape o2; have O2 := Lib.hid o2; have F2 := Lib.hid f2; clear o2 f2 hown2 hgrow2 y0 y1)
  rw [rounds_succ]
  have s2 := Lib.hid (H2.out.frs F2.out)
  have hz2' := F2.out.size
  go_wp2_with (at_builtin; refine wpList_append_src _ rfl (.tmp 31) (.tmp 32) 27 rfl w.heap.size 65 i0 _ 3 40 Tryz.underlying27 hi hz0 hz1 hz2 rfl (by decide) (.slice ga2 l1.length gc2) l1.length _ rfl O2.out (.slice a2 l2.length c2) l2.length _ rfl s2.out (by unfold maxLen; omega) (by omega) (by omega) ?_; intro v3 w3 hown3 hgrow3 _; have f3 := F2.out.fresh hgrow3 (fun r e => Or.inl (O2.out.lt r e).1); obtain ⟨ga3, gc3, rfl⟩ := ownsRow_shape hown3; have O3 := Lib.hid hown3; have F3 := Lib.hid f3; clear f3 hown3 hgrow3)
  rw [rounds_succ]
  go_wp2_with fail
  go_ret
  refine ⟨⟨ga3, gc3, rfl, ?_⟩, F3.out⟩
  have hl : (l1 ++ l2).length = l1.length + l2.length := List.length_append
  have h9 := O3.out
  rw [← upd.elsC_append, ← hl] at h9
  rw [← hl]
  exact upd.own_cts h9 fun e he => by
    rcases List.mem_append.1 he with he | he
    · exact (H1.out.fr F3.out).row e he
    · exact (H2.out.fr F3.out).row e he

/-! ### which pair is due -/
def szs (bs : List Bt) : List Nat := bs.map fun b => b.l.length
theorem szs_len (bs : List Bt) : (szs bs).length = bs.length := by simp [szs]
theorem due_step {bs : List Bt} {j : Nat} (h : j + 1 < bs.length) : dueI ((szs bs).drop j) = if (nbt bs j).l.length < 2 * (nbt bs (j + 1)).l.length then some 0 else (dueI ((szs bs).drop (j + 1))).map (· + 1) := by
  have e0 : (szs bs)[j]'(by rw [szs_len]; omega) = (nbt bs j).l.length := by
    unfold szs; rw [List.getElem_map]
    have := nbt_at (show j < bs.length by omega)
    rw [List.getElem?_eq_getElem (by omega)] at this
    rw [Option.some.inj this]
  have e1 : (szs bs)[j + 1]'(by rw [szs_len]; omega) = (nbt bs (j + 1)).l.length := by
    unfold szs; rw [List.getElem_map]
    have := nbt_at h
    rw [List.getElem?_eq_getElem h] at this
    rw [Option.some.inj this]
  rw [List.drop_eq_getElem_cons (show j < (szs bs).length by rw [szs_len]; omega), List.drop_eq_getElem_cons (show j + 1 < (szs bs).length by rw [szs_len]; omega), e0, e1]
  rfl
theorem due_end {bs : List Bt} {j : Nat} (h : bs.length ≤ j + 1) : dueI ((szs bs).drop j) = none := by
  have hl : ((szs bs).drop j).length ≤ 1 := by rw [List.length_drop, szs_len]; omega
  match (szs bs).drop j, hl with
  | [], _ => rfl
  | [_], _ => rfl
  | _ :: _ :: _, h => simp at h
def DuePost (w : World) (bs : List Bt) (e : Ending) (w' : World) : Prop :=
  Fr [] w w' ∧ ((∃ i : Nat, dueI (szs bs) = some i ∧ e = .returned (.tuple #[.int .i64 i, .bool true])) ∨ (dueI (szs bs) = none ∧ e = .returned (.tuple #[.int .i64 0, .bool false])))
theorem due_any {w : World} {p : Nat} {wb : Option Nat} {s : Spn} (h : SpAt w p wb s) (hb : s.bs.length ≤ 1000000) (hlen : ∀ b ∈ s.bs, b.l.length ≤ 1000000) : Calls Tryz.prog 57 #[.pointer (some ⟨p, 0, none⟩)] w (DuePost w s.bs) := by
  have H := Lib.hid h
  have HLen := Lib.hid hlen
  clear h hlen
  go_enter Tryz.func57, Tryz.ntmps57
  go_wp2_with fail
  go_loopw [4] (fun x wr => ∃ j : Nat, x = .int .i64 (j + 1) ∧ j ≤ s.bs.length ∧ Fr [] w wr ∧ Hid (dueI (szs s.bs) = (dueI ((szs s.bs).drop j)).map (· + j))) (fun x _ => s.bs.length + 1 - (intOf x).toNat)
  case atStart => exact ⟨0, by go_num, Nat.zero_le _, Fr.refl _ _, Lib.hid (by simp)⟩
  case round =>
    obtain ⟨j, rfl, hj, hf, HD⟩ := hrel
    have HF := Lib.hid hf
    obtain ⟨-, x1, -⟩ := (H.out.fr hf).cell
    by_cases hlt : j + 1 < s.bs.length
    · obtain ⟨b, off, e1, y0⟩ := src_bts (H.out.fr hf).own.src (show j < s.bs.length by omega)
      obtain ⟨b', off', e2, y1⟩ := src_bts (H.out.fr hf).own.src hlt
      rw [e1] at e2
      simp only [Option.some.injEq, Addr.mk.injEq, and_true] at e2
      obtain ⟨rfl, rfl⟩ := e2
      rw [e1] at x1
      have l0 := HLen.out _ (nbt_mem (show j < s.bs.length by omega))
      have l1 := HLen.out _ (nbt_mem hlt)
      have HSt := Lib.hid (due_step hlt)
      have u1 : ∀ q : FrBy wr, q.wn.cell? ⟨p, 1, none⟩ = some (.slice (some ⟨b, off, none⟩) s.bs.length s.vc) := fun q => q.fr.cell x1 (by simp)
      have v0 : ∀ q : FrBy wr, q.wn.cell? ⟨b, off + j, none⟩ = some (.slice (nbt s.bs j).ba (nbt s.bs j).l.length (nbt s.bs j).bc) := fun q => q.fr.cell y0 (by simp)
      have v1 : ∀ q : FrBy wr, q.wn.cell? ⟨b, off + (j + 1), none⟩ = some (.slice (nbt s.bs (j + 1)).ba (nbt s.bs (j + 1)).l.length (nbt s.bs (j + 1)).bc) := fun q => q.fr.cell y1 (by simp)
      have i1 : (j : Int) + 1 < (s.bs.length : Int) := by omega
      have i2 : (j : Int) < (s.bs.length : Int) := by omega
      have i3 : IntKind.i64.wrap (j : Int) = (j : Int) := by rw [IntKind.wrap_i64]; omega
      have i4 : ((j : Int) + 1).toNat = j + 1 := by omega
      have i5 : (0 : Int) ≤ (j : Int) + 1 := by omega
      clear hf y0 y1 e1
      generalize (nbt s.bs j).l.length = m0 at *
      generalize (nbt s.bs (j + 1)).l.length = m1 at *
      go_upto_region 4 with fail
      by_cases hd : m0 < 2 * m1
      · have HE := Lib.hid (show dueI (szs s.bs) = some j by rw [HD.out, HSt.out, if_pos hd]; simp)
        have hd2 : (m0 : Int) < 2 * (m1 : Int) := by omega
        refine wp_region_fr (by kernel_rfl) (by kernel_rfl) ?_
        repeat (go_big_quiet_step (fail))
        refine wpQuiet_nil ?_
        intro wn hwn
        have fn : Fr [] wr wn := by obtain ⟨p, rfl⟩ := hwn; exact p.fr
        clear hwn u1 v0 v1
        go_wp2_with fail
        go_ret2
        exact ⟨HF.out.trans fn, Or.inl ⟨j, HE.out, by simp⟩⟩
      · have HE := Lib.hid (show dueI (szs s.bs) = (dueI ((szs s.bs).drop (j + 1))).map (· + (j + 1)) by
          rw [HD.out, HSt.out, if_neg hd, Option.map_map]
          congr 1
          funext x
          simp only [Function.comp_apply]
          omega)
        have hd2 : ¬ (m0 : Int) < 2 * (m1 : Int) := by omega
        refine wp_region_fr (by kernel_rfl) (by kernel_rfl) ?_
        repeat (go_big_quiet_step (fail))
        refine wpQuiet_nil ?_
        intro wn hwn
        have fn : Fr [] wr wn := by obtain ⟨p, rfl⟩ := hwn; exact p.fr
        clear hwn u1 v0 v1
        go_wp2_with fail
        go_roundw
        case rel => exact ⟨j + 1, by go_num, by omega, HF.out.trans fn, HE⟩
        case measure => simp [intOf] <;> omega
    · have HE := Lib.hid (show dueI (szs s.bs) = none by rw [HD.out, due_end (by omega)]; rfl)
      clear hf
      go_wp2_with fail
      go_ret2
      exact ⟨HF.out, Or.inr ⟨HE.out, rfl⟩⟩
end Go.Proofs.YtjchlfblbmiceaaGreat
namespace Go.Proofs.YtjchlfblbmiceaaGreat
open Go.RowKit srt grp

/-- All updates of a spine. -/
def Spn.fl (s : Spn) : List upd.El := (s.bs.map Bt.l).flatten
structure SpOk (s : Spn) : Prop where
  ne : ∀ b ∈ s.bs, b.l ≠ []
  len : s.fl.length ≤ 8000
  mass : massU s.fl ≤ 4611686018427387904
  c0 : 0 ≤ s.credit
  c1 : s.credit ≤ 1099511627776
  t : -9223372036854775808 ≤ s.since ∧ s.since ≤ 9223372036854775807
  key : s.key.length ≤ 16

theorem flatten_ge : ∀ {bs : List Bt}, (∀ b ∈ bs, b.l ≠ []) → bs.length ≤ (bs.map Bt.l).flatten.length
  | [], _ => by simp
  | b :: bs, h => by
    have ih := flatten_ge (bs := bs) (fun x hx => h x (by simp [hx]))
    have h1 := List.length_pos_iff.2 (h b (by simp))
    simp only [List.map_cons, List.flatten_cons, List.length_append, List.length_cons]
    omega
theorem SpOk.few {s : Spn} (h : SpOk s) : s.bs.length ≤ 8000 := Nat.le_trans (flatten_ge h.ne) h.len
theorem flatten_one : ∀ {bs : List Bt} {b : Bt}, b ∈ bs → b.l.length ≤ (bs.map Bt.l).flatten.length
  | [], _, h => by simp at h
  | x :: bs, b, h => by
    simp only [List.map_cons, List.flatten_cons, List.length_append]
    rcases List.mem_cons.1 h with rfl | h
    · omega
    · have := flatten_one h; omega
theorem SpOk.one {s : Spn} (h : SpOk s) : ∀ b ∈ s.bs, b.l.length ≤ 8000 := fun _ hb => Nat.le_trans (flatten_one hb) h.len

theorem due_split {bs : List Bt} {i : Nat} (h : dueI (szs bs) = some i) : i + 1 < bs.length ∧ bs = bs.take i ++ nbt bs i :: nbt bs (i + 1) :: bs.drop (i + 2) := by
  obtain ⟨a, b, m, x, y, e1, e2, e3, e4⟩ := dueI_at h
  have hl : i + 1 < bs.length := by
    have := congrArg List.length e1
    rw [szs_len] at this
    simp at this
    omega
  refine ⟨hl, ?_⟩
  have h0 := nbt_at (show i < bs.length by omega)
  have h1 := nbt_at hl
  rw [List.getElem?_eq_getElem (by omega)] at h0 h1
  rw [← Option.some.inj h0, ← Option.some.inj h1, ← List.drop_eq_getElem_cons, ← List.drop_eq_getElem_cons, List.take_append_drop]

/-- One pair is made one. -/
structure Merged (s s' : Spn) : Prop where
  same : s'.key = s.key ∧ s'.since = s.since ∧ s'.upper = s.upper
  how : ∃ (i : Nat) (o : Bt), dueI (szs s.bs) = some i ∧ ((nbt s.bs i).l.length + (nbt s.bs (i + 1)).l.length : Int) ≤ s.credit ∧ s'.credit = s.credit - ((nbt s.bs i).l.length + (nbt s.bs (i + 1)).l.length : Int) ∧
    Canon upd.cmpU (o.l.map upd.pr) (fun q => 1 * sumK ((((nbt s.bs i).l ++ (nbt s.bs (i + 1)).l).map (lt1 s.since)).map upd.pr) q) ∧ o.l.length ≤ ((nbt s.bs i).l ++ (nbt s.bs (i + 1)).l).length ∧
    s'.bs = (if o.l = [] then s.bs.take i else s.bs.take i ++ [o]) ++ s.bs.drop (i + 2)
inductive Works : Spn → Spn → Prop
  | refl (s : Spn) : Works s s
  | step {s s1 s2 : Spn} : Works s s1 → Merged s1 s2 → Works s s2

theorem Merged.lists {s s' : Spn} (h : Merged s s') : ∃ (b1 b2 : List (List upd.El)) (x y o : List upd.El), s.bs.map Bt.l = b1 ++ x :: y :: b2 ∧ s'.bs.map Bt.l = b1 ++ (if o = [] then b2 else o :: b2) ∧ s'.credit = s.credit - (x.length + y.length : Int) ∧ (x.length + y.length : Int) ≤ s.credit ∧
    Canon upd.cmpU (o.map upd.pr) (fun q => 1 * sumK (((x ++ y).map (lt1 s.since)).map upd.pr) q) ∧ o.length ≤ (x ++ y).length := by
  obtain ⟨i, o, hd, hc1, hc2, hc, hl, hb⟩ := h.how
  obtain ⟨-, e⟩ := due_split hd
  refine ⟨(s.bs.take i).map Bt.l, (s.bs.drop (i + 2)).map Bt.l, (nbt s.bs i).l, (nbt s.bs (i + 1)).l, o.l, ?_, ?_, hc2, hc1, hc, hl⟩
  · have := congrArg (List.map Bt.l) e
    simpa using this
  · rw [hb]
    split <;> simp
theorem Merged.len {s s' : Spn} (h : Merged s s') : s'.bs.length + 1 ≤ s.bs.length := by
  obtain ⟨b1, b2, x, y, o, e1, e2, -⟩ := h.lists
  have h1 := congrArg List.length e1
  have h2 := congrArg List.length e2
  simp only [List.length_map, List.length_append, List.length_cons] at h1 h2
  split at h2
  · omega
  · simp only [List.length_cons] at h2; omega
theorem Merged.inv {s s' : Spn} {all : List upd.El} (h : Merged s s') (hi : Inv s.key (s.bs.map Bt.l) s.since all) : Inv s'.key (s'.bs.map Bt.l) s'.since all := by
  obtain ⟨b1, b2, x, y, o, e1, e2, -, -, hc, hl⟩ := h.lists
  obtain ⟨k1, k2, -⟩ := h.same
  rw [k1, k2, e2]
  rw [e1] at hi
  exact hi.merge hc hl
theorem Merged.ok {s s' : Spn} (h : Merged s s') (hi : SpOk s) : SpOk s' := by
  have hI : Inv [] (s.bs.map Bt.l) s.since s.fl := ⟨SameFrom.refl _ _, fun b hb => by obtain ⟨x, hx, rfl⟩ := List.mem_map.1 hb; exact hi.ne x hx, by simp, Nat.le_refl _, Nat.le_refl _⟩
  obtain ⟨b1, b2, x, y, o, e1, e2, e3, e4, hc, hl⟩ := h.lists
  obtain ⟨k1, k2, k3⟩ := h.same
  rw [e1] at hI
  have hJ := hI.merge hc hl
  rw [← e2] at hJ
  have h1 := hi.c0
  have h2 := hi.c1
  refine ⟨fun b hb => hJ.ne _ (List.mem_map_of_mem hb), Nat.le_trans hJ.len hi.len, Nat.le_trans hJ.mass hi.mass, by omega, by omega, by rw [k2]; exact hi.t, by rw [k1]; exact hi.key⟩
theorem Works.ok {s s' : Spn} (h : Works s s') (hi : SpOk s) : SpOk s' := by
  induction h with
  | refl => exact hi
  | step _ hm ih => exact hm.ok ih
theorem Works.inv {s s' : Spn} {all : List upd.El} (h : Works s s') (hi : Inv s.key (s.bs.map Bt.l) s.since all) : Inv s'.key (s'.bs.map Bt.l) s'.since all := by
  induction h with
  | refl => exact hi
  | step _ hm ih => exact hm.inv ih
theorem Works.same {s s' : Spn} (h : Works s s') : s'.key = s.key ∧ s'.since = s.since ∧ s'.upper = s.upper := by
  induction h with
  | refl => exact ⟨rfl, rfl, rfl⟩
  | step _ hm ih =>
    obtain ⟨a, b, c⟩ := hm.same
    exact ⟨a.trans ih.1, b.trans ih.2.1, c.trans ih.2.2⟩
theorem Works.len {s s' : Spn} (h : Works s s') : s'.bs.length ≤ s.bs.length := by
  induction h with
  | refl => exact Nat.le_refl _
  | step _ hm ih => have := hm.len; omega

/-- A stretch of a list of batches. -/
theorem BsAt.block {w : World} {wb : Option Nat} {va : Option Addr} {vc : Nat} {bs : List Bt} (h : BsAt w wb (.slice va bs.length vc) bs) (hp : 0 < bs.length) :
    ∃ g, va = some ⟨g, 0, none⟩ ∧ wb = some g ∧ bs.length ≤ vc ∧ vc ≤ 9223372036854775807 ∧ ∀ j, j < bs.length → w.cell? ⟨g, j, none⟩ = some (.slice (nbt bs j).ba (nbt bs j).l.length (nbt bs j).bc) := by
  obtain ⟨ho, hw⟩ := h
  rcases ho.2 with ⟨-, h2⟩ | ⟨g, cap, cur, hv, -, hh, hc, hm, hsz, htk⟩
  · omega
  · simp only [Value.slice.injEq] at hv
    obtain ⟨rfl, -, rfl⟩ := hv
    refine ⟨g, rfl, hw, hc, hm, fun j hj => cell_blk hh j _ ?_⟩
    have := btsC_at hj
    rw [← htk, List.getElem?_take_of_lt (by omega)] at this
    simpa using this
theorem src_part {w : World} {g : Nat} {bs : List Bt} (h : ∀ j, j < bs.length → w.cell? ⟨g, j, none⟩ = some (.slice (nbt bs j).ba (nbt bs j).l.length (nbt bs j).bc)) {o m c : Nat} {l : List Bt} (hl : l.length = m) (ho : ∀ j, j < m → o + j < bs.length ∧ l[j]? = some (nbt bs (o + j))) :
    Src w 1 (.slice (some ⟨g, o, none⟩) m c) l.length (btsC l) := by
  subst hl
  refine ⟨by rw [btsC_len, Nat.mul_one], btsC_one l, Or.inr ⟨⟨g, o, none⟩, c, rfl, fun j u hj => ?_⟩⟩
  have hjl : j < l.length := by rw [← btsC_len]; exact (List.getElem?_eq_some_iff.1 hj).1
  obtain ⟨h1, h2⟩ := ho j hjl
  have hadd : (⟨g, o, none⟩ : Addr).add j = ⟨g, o + j, none⟩ := by unfold Addr.add; split <;> simp_all
  rw [hadd, h _ h1]
  unfold btsC at hj
  rw [List.getElem?_map, h2] at hj
  exact hj
theorem take_at {bs : List Bt} {i j : Nat} (hi : i ≤ bs.length) (hj : j < i) : (bs.take i)[j]? = some (nbt bs (0 + j)) := by
  rw [List.getElem?_take_of_lt hj, nbt_at (by omega), Nat.zero_add]
theorem drop_at {bs : List Bt} {i j : Nat} (hj : i + j < bs.length) : (bs.drop i)[j]? = some (nbt bs (i + j)) := by
  rw [List.getElem?_drop, nbt_at hj]
end Go.Proofs.YtjchlfblbmiceaaGreat
namespace Go.Proofs.YtjchlfblbmiceaaGreat
open Go.RowKit srt grp

/-- What came of a spine's blocks. -/
def WbNew (w : World) (wb wb' : Option Nat) : Prop := wb' = wb ∨ ∀ g, wb' = some g → w.heap.size ≤ g
def WorkR (w : World) (p : Nat) (wb : Option Nat) (s0 : Spn) (k : Nat) (wr : World) : Prop :=
  ∃ (s : Spn) (wb' : Option Nat), SpAt wr p wb' s ∧ Fr [p] w wr ∧ WbNew w wb wb' ∧ Works s0 s ∧ s.bs.length ≤ k ∧ Hid (∀ b ∈ s.bs, b ∈ s0.bs ∨ NewB w.heap.size b)
def WorkPost (w : World) (p : Nat) (wb : Option Nat) (s0 : Spn) (e : Ending) (w' : World) : Prop :=
  ∃ (s : Spn) (wb' : Option Nat) (left : Int), e = .returned (.int .i64 left) ∧ Fr [p] w w' ∧ WbNew w wb wb' ∧ Works s0 s ∧ Hid (∀ b ∈ s.bs, b ∈ s0.bs ∨ NewB w.heap.size b) ∧
    ((dueI (szs s.bs) = none ∧ left = s.credit ∧ SpAt w' p wb' { s with credit := 0 }) ∨ (∃ i, dueI (szs s.bs) = some i ∧ s.credit < ((nbt s.bs i).l.length + (nbt s.bs (i + 1)).l.length : Int) ∧ left = 0 ∧ SpAt w' p wb' s))
/-- The fuel that counts. -/
def fuelE (n : Int) : Int := min (max n 0) 1048576

def nextL (bs : List Bt) (i : Nat) (o : Bt) : List Bt := if o.l = [] then bs.take i else bs.take i ++ [o]
theorem nextL_nil {bs : List Bt} {i : Nat} {o : Bt} (h : o.l = []) : nextL bs i o = bs.take i := by unfold nextL; rw [if_pos h]
theorem nextL_cons {bs : List Bt} {i : Nat} {o : Bt} (h : ¬ o.l = []) : nextL bs i o = bs.take i ++ [o] := by unfold nextL; rw [if_neg h]
def NextR (w6 : World) (bs : List Bt) (i : Nat) (o : Bt) (v : Value) (wx : World) : Prop :=
  ∃ (va : Option Addr) (vc : Nat) (nb : Option Nat), v = .slice va (nextL bs i o).length vc ∧ BsAt wx nb (.slice va (nextL bs i o).length vc) (nextL bs i o) ∧ (∀ g, nb = some g → w6.heap.size ≤ g) ∧ Fr [] w6 wx
/-- The end of a round of Work. -/
theorem work_round {w w6 wx w9 : World} {p : Nat} {wb wb1 xb nb9 : Option Nat} {s0 s1 : Spn} {i gk vc9 : Nat} {oa va9 : Option Addr} {oc : Nat} {outs : List upd.El} {cr : Int}
    (hq : dueI (szs s1.bs) = some i) (hco : ((nbt s1.bs i).l.length + (nbt s1.bs (i + 1)).l.length : Int) ≤ s1.credit) (hcd : s1.credit - ((nbt s1.bs i).l.length + (nbt s1.bs (i + 1)).l.length : Int) = cr)
    (hn : Canon upd.cmpU (outs.map upd.pr) (fun q => 1 * sumK ((((nbt s1.bs i).l ++ (nbt s1.bs (i + 1)).l).map (lt1 s1.since)).map upd.pr) q)) (hm : outs.length ≤ ((nbt s1.bs i).l ++ (nbt s1.bs (i + 1)).l).length)
    (hw : Works s0 s1) (hl : s1.bs.length ≤ gk) (f6 : Fr [p] w w6) (fx : Fr [] w6 wx) (hxb : ∀ g, xb = some g → w6.heap.size ≤ g)
    (hx : SpAt wx p wb1 { s1 with credit := cr }) (lx : upd.ListIn 0 wx (.slice oa outs.length oc) outs) (tx : TyB wx xb.toList)
    (b9 : w9.heap[p]? = some (.cells ({ s1 with credit := cr } : Spn).cells 73))
    (o9 : BsAt w9 nb9 (.slice va9 ((nextL s1.bs i ⟨oa, oc, outs⟩).length + (s1.bs.drop (i + 2)).length) vc9) (nextL s1.bs i ⟨oa, oc, outs⟩ ++ s1.bs.drop (i + 2))) (g9 : BsGrew wx w9 xb nb9) (f9 : Fr xb.toList wx w9) (ho : Hid (∀ b ∈ s1.bs, b ∈ s0.bs ∨ NewB w.heap.size b)) (hnb : NewB w.heap.size ⟨oa, oc, outs⟩) :
    WorkR w p wb s0 (gk - 1) (w9.setCell ⟨p, 1, none⟩ (.slice va9 ((nextL s1.bs i ⟨oa, oc, outs⟩).length + (s1.bs.drop (i + 2)).length) vc9)) := by
  have hM : Merged s1 { s1 with credit := cr, va := va9, vc := vc9, bs := nextL s1.bs i ⟨oa, oc, outs⟩ ++ s1.bs.drop (i + 2) } :=
    ⟨⟨rfl, rfl, rfl⟩, i, ⟨oa, oc, outs⟩, hq, hco, hcd.symm, hn, hm, rfl⟩
  have hlen := hM.len
  refine ⟨_, nb9, SpAt.store (s := { s1 with credit := cr }) b9 (hx.key.frT f9 tx) (by simp) o9 (fun b hb => ?_), ?_, ?_, hw.step hM, by show (nextL s1.bs i ⟨oa, oc, outs⟩ ++ s1.bs.drop (i + 2)).length ≤ _; simp only at hlen; omega, Lib.hid fun b hb => ?_⟩
  · refine upd.ListIn.frT ?_ f9 tx
    rcases List.mem_append.1 hb with hb | hb
    · unfold nextL at hb
      split at hb
      · exact hx.bts b (List.mem_of_mem_take hb)
      · rcases List.mem_append.1 hb with hb | hb
        · exact hx.bts b (List.mem_of_mem_take hb)
        · rw [List.mem_singleton.1 hb]; exact lx
    · exact hx.bts b (List.mem_of_mem_drop hb)
  · refine Fr.setCell ?_ (by simp) _
    exact (f6.trans fx.nil).past f9 (fun x hx9 => Or.inl (Nat.le_trans f6.size (hxb x (by simpa using hx9))))
  · refine Or.inr fun g hg => ?_
    rcases g9.2 with h9 | h9
    · exact Nat.le_trans f6.size (hxb g (h9.symm.trans hg))
    · have e9 := Option.some.inj (h9.symm.trans hg)
      rw [← e9]
      exact Nat.le_trans f6.size fx.size
  · rcases List.mem_append.1 hb with hb | hb
    · unfold nextL at hb
      split at hb
      · exact ho.out b (List.mem_of_mem_take hb)
      · rcases List.mem_append.1 hb with hb | hb
        · exact ho.out b (List.mem_of_mem_take hb)
        · rw [List.mem_singleton.1 hb]; exact Or.inr hnb
    · exact ho.out b (List.mem_of_mem_drop hb)
theorem pair_flat {bs : List Bt} {i : Nat} (h : dueI (szs bs) = some i) : (bs.map Bt.l).flatten = ((bs.take i).map Bt.l).flatten ++ (((nbt bs i).l ++ (nbt bs (i + 1)).l) ++ ((bs.drop (i + 2)).map Bt.l).flatten) := by
  obtain ⟨-, e⟩ := due_split h
  have := congrArg (fun l : List Bt => (l.map Bt.l).flatten) e
  simp only [List.map_append, List.map_cons, List.flatten_append, List.flatten_cons] at this
  rw [this, List.append_assoc]
theorem pair_len {bs : List Bt} {i : Nat} (h : dueI (szs bs) = some i) : (nbt bs i).l.length + (nbt bs (i + 1)).l.length ≤ (bs.map Bt.l).flatten.length := by
  rw [pair_flat h, List.length_append, List.length_append, List.length_append]; omega
theorem pair_fit {bs : List Bt} {i : Nat} (h : dueI (szs bs) = some i) (hm : massU (bs.map Bt.l).flatten ≤ 4611686018427387904) (t : Int) (q : Int × List Dt) : fitB (1 * sumK ((((nbt bs i).l ++ (nbt bs (i + 1)).l).map (lt1 t)).map upd.pr) q) = true := by
  rw [pair_flat h, massU_append, massU_append] at hm
  have h1 := sumK_mass ((((nbt bs i).l ++ (nbt bs (i + 1)).l).map (lt1 t)).map upd.pr) q
  have h2 := massU_lt ((nbt bs i).l ++ (nbt bs (i + 1)).l) t
  unfold massU at *
  rw [fitB_iff]
  omega

set_option maxRecDepth 100000
set_option maxHeartbeats 6400000 in
theorem work_any {w : World} {p : Nat} {wb : Option Nat} {s : Spn} (h : SpAt w p wb s) (hk : SpOk s) (hc : s.credit ≤ 1000000000) (n : Int) :
    Calls Tryz.prog 29 #[.pointer (some ⟨p, 0, none⟩), .int .i64 n] w (WorkPost w p wb { s with credit := s.credit + fuelE n }) := by
  obtain ⟨i0, hi, hz0, hz1, hz2⟩ := info_parts infoB
  have hc0 := hk.c0
  have hfl : 0 ≤ fuelE n ∧ fuelE n ≤ 1048576 := by unfold fuelE; omega
  have hfe : min (max n 0) 1048576 = fuelE n := rfl
  have hk0 : SpOk { s with credit := s.credit + fuelE n } := ⟨hk.ne, hk.len, hk.mass, by show 0 ≤ s.credit + fuelE n; omega, by show s.credit + fuelE n ≤ _; omega, hk.t, hk.key⟩
  obtain ⟨-, -, -, -, x4, z4⟩ := h.cell
  have z := z4 4
  have H := Lib.hid h
  have HK := Lib.hid hk0
  clear h hk hk0 z4
  go_enter Tryz.func29, Tryz.ntmps29
  go_wp2_with fail
  have h1 := H.out.setP (o := 4) (v := .int .i64 (s.credit + fuelE n)) (s' := { s with credit := s.credit + fuelE n }) rfl ⟨rfl, rfl, rfl, rfl, rfl, rfl⟩
  have f1 : Fr [p] w (w.setCell ⟨p, 4, none⟩ (.int .i64 (s.credit + fuelE n))) := (Fr.refl [p] w).setCell (by simp) _
  have H1 := Lib.hid h1
  have F1 := Lib.hid f1
  have HC1 := Lib.hid HK.out.c1
  clear h1 f1 x4 z H hc hc0 hfl hfe
  generalize w.setCell ⟨p, 4, none⟩ (.int .i64 (s.credit + fuelE n)) = w1 at *
  generalize hs0 : ({ s with credit := s.credit + fuelE n } : Spn) = s0 at *
  clear hs0
  go_loopg [5] s0.bs.length (fun k _ wr => WorkR w p wb s0 k wr)
  case atStart => exact ⟨s0, wb, H1.out, F1.out, Or.inl rfl, .refl _, Nat.le_refl _, Lib.hid fun b hb => Or.inl hb⟩
  case round =>
    obtain ⟨s1, wb1, hsp, hf, hwb, hw, hl, HOld⟩ := hrel
    have hok := hw.ok HK.out
    have hdu := due_any hsp (by have := hok.few; omega) (fun b hb => by have := hok.one b hb; omega)
    have HSp := Lib.hid hsp
    have HF := Lib.hid hf
    have HWb := Lib.hid hwb
    have HW := Lib.hid hw
    have HOk := Lib.hid hok
    clear hsp hf hwb hw hok
    rcases hq : dueI (szs s1.bs) with _ | i
    · have hd2 : Calls Tryz.prog 57 #[.pointer (some ⟨p, 0, none⟩)] wr fun e w' => e = .returned (.tuple #[.int .i64 0, .bool false]) ∧ Fr [] wr w' := hdu.mono fun e w' ⟨hf, hx⟩ => by
        rcases hx with ⟨i, hi, -⟩ | ⟨-, he⟩
        · rw [hq] at hi; cases hi
        · exact ⟨he, hf⟩
      have HD := Lib.hid hd2
      have HQ := Lib.hid hq
      clear hdu hd2 hq
      go_upto_region 4 with (go_at_call 57; refine HD.out.mono ?_; rintro e w2 ⟨rfl, f2⟩)
      have h2 := HSp.out.fr f2
      obtain ⟨-, -, -, -, x4, z4⟩ := h2.cell
      have z := z4 4
      have h3 := h2.setP (o := 4) (v := .int .i64 0) (s' := { s1 with credit := 0 }) rfl ⟨rfl, rfl, rfl, rfl, rfl, rfl⟩
      have f3 : Fr [p] w (w2.setCell ⟨p, 4, none⟩ (.int .i64 0)) := (HF.out.trans f2.nil).setCell (by simp) _
      have H3 := Lib.hid h3
      have F3 := Lib.hid f3
      clear h2 h3 f2 f3 z4
      go_wp2_with fail
      go_ret
      exact ⟨s1, wb1, s1.credit, rfl, F3.out, HWb.out, HW.out, HOld, Or.inl ⟨HQ.out, rfl, H3.out⟩⟩
    · have hd2 : Calls Tryz.prog 57 #[.pointer (some ⟨p, 0, none⟩)] wr fun e w' => e = .returned (.tuple #[.int .i64 i, .bool true]) ∧ Fr [] wr w' := hdu.mono fun e w' ⟨hf, hx⟩ => by
        rcases hx with ⟨j, hj, he⟩ | ⟨hn, -⟩
        · rw [hq] at hj; cases hj; exact ⟨he, hf⟩
        · rw [hq] at hn; cases hn
      obtain ⟨hi1, -⟩ := due_split hq
      have HD := Lib.hid hd2
      have HQ := Lib.hid hq
      clear hdu hd2 hq
      obtain ⟨g, hva, hwb1, hvc, hvm, hcell⟩ := HSp.out.own.block (by omega)
      have hl0 := HOk.out.one _ (nbt_mem (show i < s1.bs.length by omega))
      have hl1 := HOk.out.one _ (nbt_mem hi1)
      have hfew := HOk.out.few
      go_upto_region 7 with (go_at_call 57; refine HD.out.mono ?_; rintro e w2 ⟨rfl, f2⟩)
      have c0 := f2.cell (hcell i (by omega)) (by simp)
      have c1 := f2.cell (hcell (i + 1) hi1) (by simp)
      have H2 := Lib.hid (HSp.out.fr f2)
      have F2 := Lib.hid (HF.out.trans f2.nil)
      obtain ⟨-, x1, -⟩ := H2.out.cell
      rw [hva] at x1
      have HVa := Lib.hid hva
      have HWb1 := Lib.hid hwb1
      have HCell := Lib.hid (fun j hj => f2.cell (hcell j hj) (by simp))
      clear hcell f2 HSp HF hva hwb1
      have u1 : ∀ q : FrBy w2, q.wn.cell? ⟨p, 1, none⟩ = some (.slice (some ⟨g, 0, none⟩) s1.bs.length s1.vc) := fun q => q.fr.cell x1 (by simp)
      have v0 : ∀ q : FrBy w2, q.wn.cell? ⟨g, i, none⟩ = some (.slice (nbt s1.bs i).ba (nbt s1.bs i).l.length (nbt s1.bs i).bc) := fun q => q.fr.cell c0 (by simp)
      have v1 : ∀ q : FrBy w2, q.wn.cell? ⟨g, i + 1, none⟩ = some (.slice (nbt s1.bs (i + 1)).ba (nbt s1.bs (i + 1)).l.length (nbt s1.bs (i + 1)).bc) := fun q => q.fr.cell c1 (by simp)
      have i1 : (i : Int) < (s1.bs.length : Int) := by omega
      have i2 : (i : Int) + 1 < (s1.bs.length : Int) := by omega
      have i3 : ((i : Int) + 1).toNat = i + 1 := by omega
      have i4 : (0 : Int) ≤ (i : Int) + 1 := by omega
      clear c0 c1 x1
      refine wp_region_fr (by kernel_rfl) (by kernel_rfl) ?_
      repeat (go_big_quiet_step (fail))
      refine wpQuiet_nil ?_
      intro w3 hwn
      have fn : Fr [] w2 w3 := by obtain ⟨q, rfl⟩ := hwn; exact q.fr
      have H3 := Lib.hid (H2.out.fr fn)
      have F3 := Lib.hid (F2.out.trans fn.nil)
      have HCell3 := Lib.hid (fun j hj => fn.cell (HCell.out j hj) (by simp))
      clear hwn u1 v0 v1 fn H2 F2 HCell
      obtain ⟨-, -, -, -, x4, z4⟩ := H3.out.cell
      have z := z4 4
      clear z4
      have hcr := HOk.out.c0
      have hcr1 := HOk.out.c1
      by_cases hcost : s1.credit < ((nbt s1.bs i).l.length + (nbt s1.bs (i + 1)).l.length : Int)
      · have HCo := Lib.hid hcost
        go_wp2_with fail
        go_ret
        exact ⟨s1, wb1, 0, rfl, F3.out, HWb.out, HW.out, HOld, Or.inr ⟨i, HQ.out, HCo.out, rfl, H3.out⟩⟩
      · go_upto_region 11 with fail
        have HCo := Lib.hid (show ((nbt s1.bs i).l.length + (nbt s1.bs (i + 1)).l.length : Int) ≤ s1.credit by omega)
        generalize hcd : s1.credit - ((nbt s1.bs i).l.length + (nbt s1.bs (i + 1)).l.length : Int) = cr at *
        have HCd := Lib.hid hcd
        have h4 := H3.out.setP (o := 4) (v := .int .i64 cr) (s' := { s1 with credit := cr }) rfl ⟨rfl, rfl, rfl, rfl, rfl, rfl⟩
        have f4 : Fr [p] w3 (w3.setCell ⟨p, 4, none⟩ (.int .i64 cr)) := (Fr.refl [p] w3).setCell (by simp) _
        have hg : g ∉ [p] := H3.out.ne g HWb1.out
        have HCell4 := Lib.hid (fun j hj => f4.cell (HCell3.out j hj) hg)
        have H4 := Lib.hid h4
        have F4 := Lib.hid (F3.out.trans f4)
        clear hcd hcost h4 f4 hg x4 z H3 F3 HCell3 hcr hcr1 HD
        generalize w3.setCell ⟨p, 4, none⟩ (.int .i64 cr) = w4 at *
        obtain ⟨-, x1, x2, -, -, -⟩ := H4.out.cell
        simp only [HVa.out] at x1
        have c0 := HCell4.out i (by omega)
        have c1 := HCell4.out (i + 1) hi1
        have HX := Lib.hid (fun wi (f : Fr [] w4 wi) => ((H4.out.bts _ (nbt_mem (show i < s1.bs.length by omega))).cts.fr f))
        have HY := Lib.hid (fun wi (f : Fr [] w4 wi) => ((H4.out.bts _ (nbt_mem hi1)).cts.fr f))
        have HFit := Lib.hid (pair_fit HQ.out HOk.out.mass s1.since)
        have HT := Lib.hid HOk.out.t
        have HN1 := Lib.hid (show (nbt s1.bs i).l.length + (nbt s1.bs (i + 1)).l.length ≤ 100000 by omega)
        have HN2 := Lib.hid (show (nbt s1.bs i).l.length + (nbt s1.bs (i + 1)).l.length ≤ 10000 from Nat.le_trans (pair_len HQ.out) (Nat.le_trans HOk.out.len (by decide)))
        have i5 : IntKind.i64.wrap ((i : Int) + 1) = (i : Int) + 1 := by rw [IntKind.wrap_i64]; omega
        go_region_held3 (fun W => W.cell? ⟨p, 1, none⟩ = some (.slice (some ⟨g, 0, none⟩) s1.bs.length s1.vc) ∧ W.cell? ⟨p, 2, none⟩ = some (.int .i64 s1.since) ∧ W.cell? ⟨g, i, none⟩ = some (.slice (nbt s1.bs i).ba (nbt s1.bs i).l.length (nbt s1.bs i).bc) ∧ W.cell? ⟨g, i + 1, none⟩ = some (.slice (nbt s1.bs (i + 1)).ba (nbt s1.bs (i + 1)).l.length (nbt s1.bs (i + 1)).bc))
          (first | exact ⟨x1, x2, c0, c1⟩ | exact ⟨f6.cell x1 (by simp), f6.cell x2 (by simp), f6.cell c0 (by simp), f6.cell c1 (by simp)⟩ | exact ⟨f5.cell x1 (by simp), f5.cell x2 (by simp), f5.cell c0 (by simp), f5.cell c1 (by simp)⟩ | go_keep)
          (first
            | (go_at_call 59; refine (concat_any (heap_alloc_new _ _) (HX.out _ (((Fr.refl [] w4).drew).alloc _)) (HY.out _ (((Fr.refl [] w4).drew).alloc _)) HN1.out).mono ?_; rintro e w5 ⟨⟨ga, gc, rfl, k5⟩, f5a⟩; have f5 : Fr [] w4 w5 := (((Fr.refl [] w4).drew).alloc _).trans f5a; have K5 := Lib.hid k5; clear f5a k5)
            | (go_at_call 58; refine (laterFit K5.out List.length_append HN2.out HT.out HFit.out).mono ?_; rintro e w6 ⟨outs, oa, oc, rfl, f6a, k6, n6, m6⟩; have f6 : Fr [] w4 w6 := f5.trans f6a; have K6 := Lib.hid k6; have N6 := Lib.hid n6; clear f6a k6 n6))
        have H6 := Lib.hid (H4.out.fr f6)
        have HNB := Lib.hid (NewB.of K6.out (Nat.le_trans F4.out.size f5.size))
        have F6 := Lib.hid (F4.out.trans f6.nil)
        have HCell6 := Lib.hid (fun j hj => f6.cell (HCell4.out j hj) (by simp))
        have L6 := Lib.hid (K6.out.base (Nat.zero_le _))
        rw [List.length_map] at m6
        have hsA := src_part (c := s1.vc) (o := 0) (m := i) (l := s1.bs.take i) HCell6.out (by rw [List.length_take]; omega) (fun j hj => ⟨by omega, take_at (by omega) hj⟩)
        have hcl := cloneB_any (n := i) (l := s1.bs.take i) (by rw [List.length_take]; omega) hsA (by rw [List.length_take]; omega)
        have HCl := Lib.hid hcl
        have i6 : (i : Int) ≤ (s1.vc : Int) := by omega
        obtain ⟨-, y1, -⟩ := H6.out.cell
        simp only [HVa.out] at y1
        clear f5 f6 hsA hcl x1 x2 c0 c1 HX HY HFit HN1 HN2 K5 K6 HT H4 F4 HCell4 i5
        go_upto_if 103 with (go_at_call 44; refine HCl.out.mono ?_; rintro e w7 ⟨⟨na, nc, nb, rfl, hn7, hnew7⟩, f7⟩)
        have N7 := Lib.hid hn7
        have W7 := Lib.hid hnew7
        have F7 := Lib.hid f7
        have hti : (s1.bs.take i).length = i := by rw [List.length_take]; omega
        have HTi := Lib.hid hti
        clear hn7 hnew7 f7 HCl hti
        go_cut [11] (fun v wx => NextR w6 s1.bs i ⟨oa, oc, outs⟩ v wx)
        case first =>
          by_cases ho : outs = []
          · subst ho
            go_wp2_with fail
            go_meet
            case rel => exact ⟨na, nc, nb, by rw [nextL_nil rfl, HTi.out], by rw [nextL_nil rfl, HTi.out]; exact N7.out, W7.out, F7.out⟩
          · have HO := Lib.hid ho
            have hpos : (0 : Int) < (outs.length : Int) := by have := List.length_pos_iff.2 ho; omega
            have hsrc : Src (w7.alloc (.cells #[.slice oa outs.length oc] 27)) 1 (.slice (some ⟨w7.heap.size, 0, none⟩) 1 1) 1 (btsC [⟨oa, oc, outs⟩]) := Src.block (heap_alloc_new w7 _) rfl (by intro u hu; simp at hu; rw [hu]; rfl)
            have HSrc := Lib.hid hsrc
            have fa : Fr [] w7 (w7.alloc (.cells #[.slice oa outs.length oc] 27)) := (Fr.refl [] w7).alloc _
            have FA7 := Lib.hid fa
            have NA7 := Lib.hid (N7.out.frS fa (by simp))
            have hle : (s1.bs.take i).length + [(⟨oa, oc, outs⟩ : Bt)].length ≤ 1000000 := by rw [HTi.out]; simp; omega
            have HLe := Lib.hid hle
            clear ho hsrc fa hle
            go_wp2_with (at_builtin; refine wpList_append_bs _ rfl (.tmp 104) (.tmp 106) rfl nb (.slice na i nc) (s1.bs.take i) [⟨oa, oc, outs⟩] rfl NA7.out (.slice (some ⟨w7.heap.size, 0, none⟩) 1 1) rfl HSrc.out HLe.out ?_; intro va8 vc8 w8 nb8 hb8 hg8; have B8 := Lib.hid hb8; have G8 := Lib.hid hg8; clear hb8 hg8)
            go_meet
            case rel =>
              have f8 : Fr [] w6 w8 := (F7.out.trans FA7.out).past (Fr.grown G8.out.1) (fun x hx => Or.inl (W7.out x (by simpa using hx)))
              refine ⟨va8, vc8, nb8, by rw [nextL_cons HO.out, List.length_append, List.length_take]; rfl, by rw [nextL_cons HO.out, List.length_append]; exact B8.out, fun g hg => ?_, f8⟩
              rcases G8.out.2 with h9 | h9
              · exact W7.out g (h9.symm.trans hg)
              · have e9 := Option.some.inj (h9.symm.trans hg)
                rw [← e9]
                exact Nat.le_trans F7.out.size FA7.out.size
        case rest =>
          obtain ⟨xa, xc, xb, rfl, hbx, hnx, hfx⟩ := hcut
          obtain ⟨wx, rfl⟩ : ∃ wx, wx = wc := ⟨wc, rfl⟩
          have HX := Lib.hid (H6.out.fr hfx)
          have FX := Lib.hid hfx
          have BX := Lib.hid hbx
          have WX := Lib.hid hnx
          have TX : Hid (TyB wx xb.toList) := Lib.hid (fun x hx => Or.inr (hbx.ty (by simpa using hx)))
          have PX : Hid (p ∉ xb.toList) := Lib.hid (fun hx => by
            obtain ⟨cur, hc⟩ := hbx.ty (g := p) (by simpa using hx)
            rw [HX.out.blk] at hc
            simp at hc)
          have LX := Lib.hid (L6.out.frT hfx (TyB.nil _))
          have yx := hfx.cell y1 (by simp)
          have hcx := fun j hj => hfx.cell (HCell6.out j hj) (by simp)
          have hszx := hfx.size
          have HLx := Lib.hid (show (nextL s1.bs i ⟨oa, oc, outs⟩).length + (s1.bs.drop (i + 2)).length ≤ 1000000 by
            have h9 : (nextL s1.bs i ⟨oa, oc, outs⟩).length ≤ i + 1 := by unfold nextL; split <;> simp <;> omega
            rw [List.length_drop]; omega)
          have hdl : (s1.bs.drop (i + 2)).length = s1.bs.length - (i + 2) := List.length_drop
          by_cases hcap : s1.vc = i + 2
          · have hnn : s1.bs.length = i + 2 := by omega
            have hsB := fun c => src_part (c := c) (o := 0) (m := s1.bs.length - (i + 2)) (l := s1.bs.drop (i + 2)) hcx hdl (fun j hj => absurd hj (by omega))
            have HsB := Lib.hid hsB
            have HCap := Lib.hid hcap
            have j1 : (i : Int) + 2 ≤ (s1.bs.length : Int) := by omega
            have j2 : (s1.bs.length : Int) ≤ (s1.vc : Int) := by omega
            have j3 : ((i : Int) + 2).toNat = i + 2 := by omega
            clear hbx hnx hfx hcx hsB hdl hnn
            go_wp2_with (at_builtin; refine wpList_append_bs _ rfl (.tmp 109) (.tmp 116) rfl xb (.slice xa (nextL s1.bs i ⟨oa, oc, outs⟩).length xc) (nextL s1.bs i ⟨oa, oc, outs⟩) (s1.bs.drop (i + 2)) rfl BX.out (.slice (some ⟨g, 0, none⟩) (s1.bs.length - (i + 2)) _) rfl (HsB.out _) HLx.out ?_; intro va9 vc9 w9 nb9 hb9 hg9; have f9 : Fr xb.toList wx w9 := Fr.grown hg9.1; have b9 := f9.heap HX.out.blk PX.out; have c9 : w9.cell? ⟨p, 1, none⟩ = some (.slice s1.va s1.bs.length s1.vc) := (by simp [World.cell?, b9, Spn.cells]); have z9 : w9.frozen? ⟨p, 1, none⟩ = false := (by simp [World.frozen?, b9]); have B9 := Lib.hid b9; have G9 := Lib.hid hg9; have O9 := Lib.hid hb9; have F9 := Lib.hid f9; clear f9 b9 hg9 hb9)
            go_roundg (gk - 1)
            case measure => omega
            case rel =>
              have h9 := work_round (wb := wb) HQ.out HCo.out HCd.out N6.out m6 HW.out hl F6.out FX.out WX.out HX.out LX.out TX.out B9.out O9.out G9.out F9.out HOld HNB.out
              rw [List.length_drop] at h9
              exact h9
          · have hsB := src_part (c := s1.vc - (i + 2)) (o := i + 2) (m := s1.bs.length - (i + 2)) (l := s1.bs.drop (i + 2)) hcx hdl (fun j hj => ⟨by omega, drop_at (by omega)⟩)
            have HsB := Lib.hid hsB
            have j1 : (i : Int) + 2 ≤ (s1.bs.length : Int) := by omega
            have j2 : (s1.bs.length : Int) ≤ (s1.vc : Int) := by omega
            have j3 : ((i : Int) + 2).toNat = i + 2 := by omega
            have j4 : (i : Int) + 2 < (s1.vc : Int) := by omega
            clear hbx hnx hfx hcx hsB hdl
            go_wp2_with (at_builtin; refine wpList_append_bs _ rfl (.tmp 109) (.tmp 116) rfl xb (.slice xa (nextL s1.bs i ⟨oa, oc, outs⟩).length xc) (nextL s1.bs i ⟨oa, oc, outs⟩) (s1.bs.drop (i + 2)) rfl BX.out (.slice (some ⟨g, i + 2, none⟩) (s1.bs.length - (i + 2)) (s1.vc - (i + 2))) rfl HsB.out HLx.out ?_; intro va9 vc9 w9 nb9 hb9 hg9; have f9 : Fr xb.toList wx w9 := Fr.grown hg9.1; have b9 := f9.heap HX.out.blk PX.out; have c9 : w9.cell? ⟨p, 1, none⟩ = some (.slice s1.va s1.bs.length s1.vc) := (by simp [World.cell?, b9, Spn.cells]); have z9 : w9.frozen? ⟨p, 1, none⟩ = false := (by simp [World.frozen?, b9]); have B9 := Lib.hid b9; have G9 := Lib.hid hg9; have O9 := Lib.hid hb9; have F9 := Lib.hid f9; clear f9 b9 hg9 hb9)
            go_roundg (gk - 1)
            case measure => omega
            case rel =>
              have h9 := work_round (wb := wb) HQ.out HCo.out HCd.out N6.out m6 HW.out hl F6.out FX.out WX.out HX.out LX.out TX.out B9.out O9.out G9.out F9.out HOld HNB.out
              rw [List.length_drop] at h9
              exact h9
end Go.Proofs.YtjchlfblbmiceaaGreat
