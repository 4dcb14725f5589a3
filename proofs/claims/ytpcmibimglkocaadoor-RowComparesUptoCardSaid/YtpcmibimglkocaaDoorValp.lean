/- The plain part of row.value: how one value is read off bytes, by its first byte. No condition. -/
import Derived.Test.YtpcmibimglkocaaDoorNum
import Derived.Test.YtpcmibimglkocaaDoorTxt
import Derived.Lib.IndexLaws
import Derived.Maps.AppendAt
import Derived.Deep.RegionHeld3
import Derived.Deep.CutRange
import Derived.Deep.DeepCutAuto
import Derived.Deep.LoopGhost
import Derived.Deep.CutBlock
import Derived.Deep.RegionWith
import Derived.Lib.IndexBytes
import Derived.Lib.AppendStr
namespace Go.Proofs.YtpcmibimglkocaaDoor
open Go.RowKit

theorem cell_blk {w : World} {b : Nat} {vs : Array Value} {t : Nat} (h : w.heap[b]? = some (.cells vs t)) (i : Nat) (v : Value) (hv : vs[i]? = some v) : w.cell? ⟨b, i, none⟩ = some v := by
  simp [World.cell?, h, hv]

theorem two_new (w : World) (a b : Obj) : ((w.alloc a).alloc b).heap[w.heap.size]? = some a ∧ ((w.alloc a).alloc b).heap[w.heap.size + 1]? = some b ∧ Fr [] w ((w.alloc a).alloc b) := by
  refine ⟨?_, ?_, ((Fr.refl [] w).alloc a).alloc b⟩
  · exact ((Fr.refl [] (w.alloc a)).alloc b).heap (heap_alloc_new w a) (by simp)
  · have := heap_alloc_new (w.alloc a) b
    rwa [show (w.alloc a).heap.size = w.heap.size + 1 by simp] at this

theorem blk3 {w : World} {b : Nat} {x y z : Value} {t : Nat} (h : w.heap[b]? = some (.cells #[x, y, z] t)) :
    w.cell? ⟨b, 0, none⟩ = some x ∧ w.cell? ⟨b, 1, none⟩ = some y ∧ w.cell? ⟨b, 2, none⟩ = some z ∧ w.frozen? ⟨b, 0, none⟩ = false ∧ w.frozen? ⟨b, 1, none⟩ = false ∧ w.frozen? ⟨b, 2, none⟩ = false := by
  simp [World.cell?, World.frozen?, h]

/-- A store into a block that is newer than the frame's beginning. -/
theorem Fr.setNew {S : List Nat} {a b : World} (h : Fr S a b) {p : Addr} (hp : a.heap.size ≤ p.block) (u : Value) : Fr S a (b.setCell p u) :=
  h.past (Fr.setCell (S := [p.block]) (Fr.refl _ b) (by simp) u) (by simp; exact Or.inl hp)

def ValIs (l : List UInt8) (e : Ending) : Prop := ∃ (d : Dt) (r : ByteArray) (ok : Bool), e = .returned (.tuple #[.agg #[.int .i64 d.kind, .int .i64 d.i, .string ⟨d.s.toArray⟩], .string r, .bool ok]) ∧ valB l = if ok = true then some (d, r.data.toList) else none

def ValR (l : List UInt8) (w : World) (a0 : Value) (wx : World) : Prop :=
  ∃ (d : Dt) (r : ByteArray), a0 = .string r ∧ d.s.length ≤ 9223372036854775807 ∧ Fr [] w wx ∧ wx.heap[w.heap.size]? = some (.cells #[.int .i64 0, .int .i64 0, .string ⟨#[]⟩] 32) ∧ wx.heap[w.heap.size + 1]? = some (.cells #[.int .i64 d.kind, .int .i64 d.i, .string ⟨d.s.toArray⟩] 32) ∧
    valB l = if rightB d = true then some (d, r.data.toList) else none

theorem valB_null {l r : List UInt8} {c : UInt8} (hl : l = c :: r) (h : c.toNat = 1) : valB l = if rightB ⟨0, 0, []⟩ = true then some (⟨0, 0, []⟩, r) else none := by
  have : c = 1 := UInt8.toNat_inj.1 h
  subst this; subst hl; rfl
theorem valB_bool0 {l : List UInt8} {c : UInt8} (hl : l = [c]) (h : c.toNat = 2) : valB l = none := by
  have : c = 2 := UInt8.toNat_inj.1 h
  subst this; subst hl; rfl
theorem valB_bool {l r : List UInt8} {c b : UInt8} (hl : l = c :: b :: r) (h : c.toNat = 2) : valB l = if rightB ⟨1, b.toNat, []⟩ = true then some (⟨1, b.toNat, []⟩, r) else none := by
  have : c = 2 := UInt8.toNat_inj.1 h
  subst this; subst hl
  have hr : rightB ⟨1, b.toNat, []⟩ = decide (b.toNat ≤ 1) := by
    have h2 : (b.toNat ≤ 1) = (b.toNat = 0 ∨ b.toNat = 1) := by apply propext; omega
    have h3 : ((b.toNat : Int) = 1) = (b.toNat = 1) := by apply propext; omega
    simp [rightB, h2, h3]
  rw [hr]
  simp [valB]
theorem valB_num0 {l r : List UInt8} {c : UInt8} (hl : l = c :: r) (h : c.toNat = 3 ∨ c.toNat = 4) (h8 : r.length < 8) : valB l = none := by
  have : c = 3 ∨ c = 4 := h.imp (fun h => UInt8.toNat_inj.1 h) (fun h => UInt8.toNat_inj.1 h)
  subst hl
  rcases this with rfl | rfl <;> simp [valB, h8]
theorem valB_num {l r : List UInt8} {c : UInt8} (hl : l = c :: r) (h : c.toNat = 3 ∨ c.toNat = 4) (h8 : ¬ r.length < 8) :
    valB l = if rightB ⟨(c.toNat : Int) - 1, numB (r.take 8), []⟩ = true then some (⟨(c.toNat : Int) - 1, numB (r.take 8), []⟩, r.drop 8) else none := by
  have : c = 3 ∨ c = 4 := h.imp (fun h => UInt8.toNat_inj.1 h) (fun h => UInt8.toNat_inj.1 h)
  subst hl
  rcases this with rfl | rfl <;> simp [valB, h8, rightB]
theorem valB_text {l r t q : List UInt8} {c : UInt8} (hl : l = c :: r) (h : c.toNat = 5 ∨ c.toNat = 6) (ht : textB r = some (t, q)) :
    valB l = if rightB ⟨(c.toNat : Int) - 1, 0, t⟩ = true then some (⟨(c.toNat : Int) - 1, 0, t⟩, q) else none := by
  have : c = 5 ∨ c = 6 := h.imp (fun h => UInt8.toNat_inj.1 h) (fun h => UInt8.toNat_inj.1 h)
  subst hl
  rcases this with rfl | rfl <;> simp [valB, ht]
theorem valB_text0 {l r : List UInt8} {c : UInt8} (hl : l = c :: r) (h : c.toNat = 5 ∨ c.toNat = 6) (ht : textB r = none) : valB l = none := by
  have : c = 5 ∨ c = 6 := h.imp (fun h => UInt8.toNat_inj.1 h) (fun h => UInt8.toNat_inj.1 h)
  subst hl
  rcases this with rfl | rfl <;> simp [valB, ht]
theorem valB_else {l r : List UInt8} {c : UInt8} (hl : l = c :: r) (h : c.toNat = 0 ∨ 6 < c.toNat) :
    valB l = if rightB ⟨(c.toNat : Int) - 1, 0, []⟩ = true then some (⟨(c.toNat : Int) - 1, 0, []⟩, r) else none := by
  subst hl
  have hb : rightB ⟨(c.toNat : Int) - 1, 0, []⟩ = false := by
    simp [rightB]; omega
  rw [hb]
  have k : ∀ n : UInt8, 1 ≤ n.toNat → n.toNat ≤ 6 → c ≠ n := by
    intro n h1 h2 e; subst e; omega
  have k1 := k 1 (by decide) (by decide); have k2 := k 2 (by decide) (by decide); have k3 := k 3 (by decide) (by decide)
  have k4 := k 4 (by decide) (by decide); have k5 := k 5 (by decide) (by decide); have k6 := k 6 (by decide) (by decide)
  simp [valB, k1, k2, k3, k4, k5, k6]

theorem idx_cases (l : List UInt8) : (Lib.indexByte l 0 = -1 ∧ textB l = none) ∨ ∃ o : Nat, Lib.indexByte l 0 = (o : Int) ∧ o < l.length ∧ ((o + 1 = l.length ∧ textB l = none) ∨
    ∃ d : UInt8, o + 1 < l.length ∧ l[o + 1]? = some d ∧ ((1 < d.toNat ∧ textB l = none) ∨ (d.toNat = 0 ∧ textB l = some (l.take o, l.drop (o + 2))) ∨
      (d.toNat = 1 ∧ textB l = (textB (l.drop (o + 2))).map fun p => (l.take o ++ 0 :: p.1, p.2)))) := by
  by_cases h : Lib.indexByte l 0 = -1
  · refine Or.inl ⟨h, textB_none_of l ?_⟩
    intro c hc e
    subst e
    obtain ⟨k, hk⟩ := List.mem_iff_getElem?.1 hc
    exact Lib.indexByte_none h k hk
  · refine Or.inr ?_
    have hge := Lib.indexByte_ge l 0
    obtain ⟨o, ho⟩ : ∃ o : Nat, Lib.indexByte l 0 = (o : Int) := ⟨(Lib.indexByte l 0).toNat, by omega⟩
    obtain ⟨h1, h2⟩ := Lib.indexByte_some ho
    have hlt : o < l.length := (List.getElem?_eq_some_iff.1 h1).1
    have hp : ∀ c ∈ l.take o, c ≠ 0 := by
      intro c hc e
      subst e
      obtain ⟨k, hk⟩ := List.mem_iff_getElem?.1 hc
      rw [List.getElem?_take] at hk
      split at hk
      · exact h2 k (by assumption) hk
      · cases hk
    have hsplit : l = l.take o ++ 0 :: l.drop (o + 1) := by
      have hd := List.drop_eq_getElem_cons hlt
      have h3 : l[o] = 0 := by rw [List.getElem?_eq_getElem hlt] at h1; exact Option.some.inj h1
      rw [h3] at hd
      rw [← hd, List.take_append_drop]
    refine ⟨o, ho, hlt, ?_⟩
    by_cases hl : o + 1 = l.length
    · refine Or.inl ⟨hl, ?_⟩
      rw [hsplit, List.drop_eq_nil_of_le (by omega)]
      exact textB_last _ hp
    · refine Or.inr ?_
      have hlt1 : o + 1 < l.length := by omega
      refine ⟨l[o + 1], hlt1, List.getElem?_eq_getElem hlt1, ?_⟩
      have hd1 : l.drop (o + 1) = l[o + 1] :: l.drop (o + 2) := List.drop_eq_getElem_cons hlt1
      rw [hd1] at hsplit
      have e0 : l[o + 1].toNat = 0 → l[o + 1] = 0 := fun e => UInt8.toNat_inj.1 e
      have e1 : l[o + 1].toNat = 1 → l[o + 1] = 1 := fun e => UInt8.toNat_inj.1 e
      by_cases hz : l[o + 1].toNat = 0
      · refine Or.inr (Or.inl ⟨hz, ?_⟩)
        rw [e0 hz] at hsplit
        conv => lhs; rw [hsplit]
        exact textB_pre_end _ _ hp
      · by_cases hone : l[o + 1].toNat = 1
        · refine Or.inr (Or.inr ⟨hone, ?_⟩)
          rw [e1 hone] at hsplit
          conv => lhs; rw [hsplit]
          exact textB_pre_zero _ _ hp
        · refine Or.inl ⟨by omega, ?_⟩
          conv => lhs; rw [hsplit]
          exact textB_pre_bad _ _ _ hp (fun e => hz (by rw [e]; rfl)) (fun e => hone (by rw [e]; rfl))

def bytesC (l : List UInt8) : List Value := l.map fun b => Value.int .u8 b.toNat

theorem info5 : (Tryd.prog.info? 5).map (fun i => (i.zero, i.size, i.bytes)) = some (some (.int .u8 0), 1, 1) := by kernel_rfl

theorem conv_own {w : World} {base n : Nat} {v : Value} {l : List UInt8} (h : w.ownsRow base 5 1 v n (bytesC l)) : (convert 42 9 v).run Tryd.prog w = .ok (.string ⟨l.toArray⟩) w := by
  obtain ⟨h1, h2⟩ := h
  rcases h2 with ⟨rfl, hn⟩ | ⟨g, cap, cur, rfl, hb, hg, hc, hc2, hsz, htk⟩
  · have : l = [] := by
      rw [hn] at h1
      simpa [bytesC] using h1
    subst this
    exact run_convert_bytes_nil w 42 5 Tryd.underlying42 Tryd.underlying5 _ _ 9 Tryd.underlying9
  · have hl : l.length = n := by simpa [bytesC] using h1
    have := run_convert_bytes_arg (P := Tryd.prog) w 42 5 Tryd.underlying42 Tryd.underlying5 g 0 n cap (l.map fun b => (b.toNat : Int)) (by simpa using hl) ?_ 9 Tryd.underlying9
    · rw [this]
      have : strOfNums (l.map fun b => (b.toNat : Int)) = ⟨l.toArray⟩ := by
        unfold strOfNums
        have e : (l.map fun b => (b.toNat : Int)).map (fun n => UInt8.ofNat n.toNat) = l := by
          rw [List.map_map]
          conv => rhs; rw [← List.map_id l]
          exact List.map_congr_left (fun b _ => by simp)
        rw [e]
      rw [this]
    · intro i hi
      have h3 : cur.toList[i]? = (bytesC l)[i]? := by rw [← htk, List.getElem?_take, if_pos (by omega)]
      have hil : i < l.length := by omega
      simp [bytesC, hil] at h3
      simp [World.cell?, hg, h3, hil]

theorem text_take (q : ByteArray) (o : Nat) (acc : List UInt8) : bytesC acc ++ Lib.strCells (q.extract 0 o) = bytesC (acc ++ q.data.toList.take o) ∧ (acc ++ q.data.toList.take o).length = acc.length + (q.extract 0 o).size := by
  have hq : q.data.toList.length = q.size := by rw [Array.length_toList]; rfl
  refine ⟨?_, ?_⟩
  · unfold Lib.strCells bytesC
    rw [Lib.extract_data, List.map_append]
    simp
  · rw [List.length_append, List.length_take, hq]
    simp

theorem textB_step {l q acc t r : List UInt8} (h1 : textB l = (textB q).map (fun p => (acc ++ p.1, p.2))) (h2 : textB q = some (t, r)) : textB l = some (acc ++ t, r) := by
  rw [h1, h2]; rfl

theorem textB_more {l q acc t r : List UInt8} (h1 : textB l = (textB q).map (fun p => (acc ++ p.1, p.2))) (h2 : textB q = (textB r).map (fun p => (t ++ 0 :: p.1, p.2))) :
    textB l = (textB r).map (fun p => ((acc ++ t) ++ [0] ++ p.1, p.2)) := by
  rw [h1, h2, Option.map_map]
  congr 1
  funext p
  simp

theorem bytesC_zero (l : List UInt8) : bytesC l ++ [.int .u8 0] = bytesC (l ++ [0]) := by simp [bytesC]
end Go.Proofs.YtpcmibimglkocaaDoor
