/- A whole number in digits of a million, in memory; freshetref01.Of. No condition. -/
import Derived.Test.YtmionipeoffnhaaPc
import Derived.Test.YtmionipeoffnhaaBq
import Derived.Deep.CutRange
import Derived.Deep.DeepCutAuto
namespace Go.Proofs.Ytmionipeoffnhaa
open Go.RowKit srt grp big

def cel (l : List Nat) : List Value := l.map fun d => .int .u64 (d : Nat)
theorem cel_len (l : List Nat) : (cel l).length = l.length := by simp [cel]
theorem cel_one (l : List Nat) : ∀ u ∈ cel l, u.oneCell' = true := by
  intro u hu
  obtain ⟨d, -, rfl⟩ := List.mem_map.1 hu
  rfl
theorem cel_snoc (l : List Nat) (d : Nat) : cel (l ++ [d]) = cel l ++ [.int .u64 (d : Nat)] := by simp [cel]
theorem cel_dz (n k i : Nat) (h : i < k) : (cel (dz n k))[i]? = some (.int .u64 ((n / 1000000 ^ i % 1000000 : Nat) : Int)) := by
  unfold cel; rw [List.getElem?_map, dz_at n k i h]; rfl
theorem infoB : (Try.prog.info? 131).map (fun i => (i.zero, i.size, i.bytes)) = some (some (.int .u64 0), 1, 8) := by kernel_rfl

/-- A slice value whose elements are the first k digits of a number. -/
def DgAt (w : World) (v : Value) (n k : Nat) : Prop := ∃ a c, v = .slice a k c ∧ k ≤ c ∧ (a = none → c = 0) ∧ Src w 1 (.slice a k c) k (cel (dz n k))
theorem DgAt.fr {w w' : World} {v : Value} {n k : Nat} (h : DgAt w v n k) (f : Fr [] w w') : DgAt w' v n k := by
  obtain ⟨a, c, rfl, h1, h2, h3, h4, h5⟩ := h
  refine ⟨a, c, rfl, h1, h2, h3, h4, ?_⟩
  rcases h5 with h5 | ⟨ad, c, h5, h6⟩
  · exact Or.inl h5
  · exact Or.inr ⟨ad, c, h5, fun j u hj => f.cell (h6 j u hj) (by simp)⟩
theorem DgAt.cell {w : World} {a : Option Addr} {c n k i : Nat} (h : DgAt w (.slice a k c) n k) (hi : i < k) :
    ∃ b off, a = some ⟨b, off, none⟩ ∧ w.cell? ⟨b, off + i, none⟩ = some (.int .u64 ((n / 1000000 ^ i % 1000000 : Nat) : Int)) := by
  obtain ⟨a', c', hv, -, -, -, -, h5⟩ := h
  simp only [Value.slice.injEq] at hv
  obtain ⟨rfl, -, rfl⟩ := hv
  rcases h5 with ⟨-, h2⟩ | ⟨ad, c, hv, hc⟩
  · omega
  · simp only [Value.slice.injEq] at hv
    have c0 := hc i _ (cel_dz n k i hi)
    have hp := addr_plain (a := ad) (hc 0 _ (cel_dz n k 0 (by omega)))
    exact ⟨ad.block, ad.off, by rw [hv.1]; exact congrArg some hp, cell_add c0⟩

/-- A whole number. -/
def BigAt (w : World) (v : Value) (z : Int) : Prop := ∃ s, v = .agg #[.bool (decide (z < 0)), s] ∧ DgAt w s z.natAbs (dg z.natAbs).length
theorem BigAt.fr {w w' : World} {v : Value} {z : Int} (h : BigAt w v z) (f : Fr [] w w') : BigAt w' v z := by
  obtain ⟨s, rfl, h1⟩ := h
  exact ⟨s, rfl, h1.fr f⟩

/-- A variable that holds the first k digits of a number, in memory that is newer than w0. -/
def OutB (w0 w : World) (g : Nat) (m : Bool) (n k : Nat) : Prop :=
  w0.heap.size ≤ g ∧ g < w.heap.size ∧ Fr [] w0 w ∧ ∃ v, w.heap[g]? = some (.cells #[.bool m, v] 117) ∧ w.ownsRow (g + 1) 131 1 v k (cel (dz n k))

theorem heap_set2 {w : World} {g : Nat} {v u s : Value} {t : Nat} (h : w.heap[g]? = some (.cells #[u, s] t)) : (w.setCell ⟨g, 1, none⟩ v).heap[g]? = some (.cells #[u, v] t) := by
  rw [heap_set h]; rfl

theorem heap_set12 {w : World} {g : Nat} {x y u s : Value} {t : Nat} (h : w.heap[g]? = some (.cells #[u, s] t)) : ((w.setCell ⟨g, 0, none⟩ x).setCell ⟨g, 1, none⟩ y).heap[g]? = some (.cells #[x, y] t) :=
  heap_set2 (by rw [heap_set h]; rfl)

theorem OutB.new {w0 w : World} (f : Fr [] w0 w) (m : Bool) (n : Nat) : OutB w0 (w.alloc (.cells #[.bool m, .slice none 0 0] 117)) w.heap.size m n 0 :=
  ⟨f.size, by simp, f.alloc _, _, heap_alloc_new w _, World.ownsRow_nil _ _ _ _⟩
theorem OutB.shape {w0 w : World} {g n k : Nat} {m : Bool} (h : OutB w0 w g m n k) : ∃ a c, w.heap[g]? = some (.cells #[.bool m, .slice a k c] 117) ∧ w.ownsRow (g + 1) 131 1 (.slice a k c) k (cel (dz n k)) ∧ k ≤ c ∧ (a = none → c = 0) := by
  obtain ⟨h1, h2, h3, v, h4, h5⟩ := h
  have h6 := h5
  obtain ⟨a, c, rfl⟩ := ownsRow_shape h5
  refine ⟨a, c, h4, h6, ?_⟩
  rcases h6.2 with ⟨hv, h2⟩ | ⟨g, cap, cur, hv, hb, hg, hc, -⟩
  · simp only [Value.slice.injEq] at hv
    exact ⟨by omega, fun _ => hv.2.2⟩
  · simp only [Value.slice.injEq] at hv
    refine ⟨by omega, fun e => ?_⟩
    rw [hv.1] at e
    cases e
theorem OutB.fr {w0 w w' : World} {g n k : Nat} {m : Bool} (h : OutB w0 w g m n k) (f : Fr [] w w') : OutB w0 w' g m n k := by
  obtain ⟨h1, h2, h3, v, h4, h5⟩ := h
  exact ⟨h1, by have := f.size; omega, h3.trans f, v, f.heap h4 (by simp), ownsRow_fr h5 f (by simp)⟩
theorem OutB.put {w0 w wa w1 : World} {g n k : Nat} {m : Bool} {a : Option Addr} {c : Nat} {v' : Value} {o : Obj} (h : OutB w0 w g m n k) (ho : w.ownsRow (g + 1) 131 1 (.slice a k c) k (cel (dz n k))) (hg : w.heap[g]? = some (.cells #[.bool m, .slice a k c] 117)) (ha : wa = w.alloc o)
    (hgr : wa.grownBy w1 (Value.slice a k c).ownBlock) (h1 : w1.ownsRow (g + 1) 131 1 v' (k + 1) (cel (dz n k) ++ [.int .u64 ((n / 1000000 ^ k % 1000000 : Nat) : Int)])) : OutB w0 (w1.setCell ⟨g, 1, none⟩ v') g m n (k + 1) := by
  subst ha
  obtain ⟨h2, h3, h4, -⟩ := h
  have hlt : ∀ r, (Value.slice a k c).ownBlock = some r → g + 1 ≤ r ∧ r < w.heap.size := fun r e => ho.lt r e
  have k1 : Fr [] w0 w1 := (h4.alloc o).fresh hgr (fun r e => Or.inl (by have := hlt r e; omega))
  have k2 : Fr (Value.slice a k c).ownBlock.toList w w1 := ((Fr.refl [] w).alloc o).nil.trans (Fr.grown hgr)
  have hg1 : w1.heap[g]? = some (.cells #[.bool m, .slice a k c] 117) := k2.heap hg (fun hx => by
    have := hlt g (by simpa using hx); omega)
  refine ⟨h2, by have := k2.size; simp [World.setCell]; omega, ?_, v', heap_set2 hg1, ?_⟩
  · refine ⟨k1.os, k1.tape, k1.output, by have := k1.size; simp [World.setCell]; omega, fun q hq hS => ?_⟩
    rw [← k1.block q hq hS]
    exact Below.heap_setCell _ _ _ _ (fun e => by simp at e; omega)
  · rw [dz_succ, cel_snoc]
    exact ownsRow_set h1 (by omega)
theorem OutB.held {w w1 : World} {g n k : Nat} {m : Bool} {a : Option Addr} {c : Nat} {o : Obj} (ho : w.ownsRow (g + 1) 131 1 (.slice a k c) k (cel (dz n k))) (hg : w.heap[g]? = some (.cells #[.bool m, .slice a k c] 117))
    (hgr : (w.alloc o).grownBy w1 (Value.slice a k c).ownBlock) : w1.heap[g]? = some (.cells #[.bool m, .slice a k c] 117) := by
  have k2 : Fr (Value.slice a k c).ownBlock.toList w w1 := ((Fr.refl [] w).alloc o).nil.trans (Fr.grown hgr)
  exact k2.heap hg (fun hx => by
    have := (ho.lt g (by simpa using hx)).1; omega)
theorem OutB.dg {w0 w : World} {g n k : Nat} {m : Bool} {a : Option Addr} {c : Nat} (h : OutB w0 w g m n k) (hg : w.heap[g]? = some (.cells #[.bool m, .slice a k c] 117)) : DgAt w (.slice a k c) n k := by
  obtain ⟨a', c', h1, h2, h3, h4⟩ := h.shape
  rw [hg] at h1
  simp only [Option.some.injEq, Obj.cells.injEq, Array.mk.injEq, List.cons.injEq, Value.slice.injEq, and_true, true_and] at h1
  obtain ⟨rfl, rfl⟩ := h1
  exact ⟨a, c, rfl, h3, h4, Src.row h2 (cel_one _)⟩

/-- The variable, told: it is laid into the result's. -/
theorem OutB.ret {w0 w : World} {g r k : Nat} {z : Int} {a : Option Addr} {c : Nat} {x y : Value} (h : OutB w0 w g (decide (z < 0)) z.natAbs k) (hr : r < g) (hk : k = (big.dg z.natAbs).length) (hg : w.heap[g]? = some (.cells #[.bool (decide (z < 0)), .slice a k c] 117)) :
    BigAt ((w.setCell ⟨r, 0, none⟩ x).setCell ⟨r, 1, none⟩ y) (.agg #[.bool (decide (z < 0)), .slice a k c]) z := by
  obtain ⟨a', c', h1, h2, h3, h4⟩ := h.shape
  rw [hg] at h1
  simp only [Option.some.injEq, Obj.cells.injEq, Array.mk.injEq, List.cons.injEq, Value.slice.injEq, and_true, true_and] at h1
  obtain ⟨rfl, rfl⟩ := h1
  refine ⟨_, rfl, ?_⟩
  rw [← hk]
  exact ⟨a, c, rfl, h3, h4, Src.row (ownsRow_set (ownsRow_set h2 (by omega)) (by omega)) (cel_one _)⟩
theorem ret_fr {w w1 : World} {r : Nat} {x y : Value} (f : Fr [] w w1) (hr : w.heap.size ≤ r) : Fr [] w ((w1.setCell ⟨r, 0, none⟩ x).setCell ⟨r, 1, none⟩ y) :=
  f.past (((Fr.refl [r] w1).setCell (by simp) x).setCell (by simp) y) (by simpa using hr)

set_option maxRecDepth 100000
set_option maxHeartbeats 1600000 in
theorem of_any {w : World} {z : Int} (hz : -9223372036854775808 ≤ z ∧ z ≤ 9223372036854775807) :
    Calls Try.prog 117 #[.int .i64 z] w fun e w' => ∃ v, e = .returned v ∧ BigAt w' v z ∧ Fr [] w w' := by
  obtain ⟨i0, hi, hz0, hz1, hz2⟩ := info_parts infoB
  have h1 : IntKind.u64.wrap z = z % 18446744073709551616 := rfl
  have e1 : ¬ z < 0 → IntKind.u64.wrap z = (z.natAbs : Int) := fun h => by rw [h1]; omega
  have e2 : z < 0 → IntKind.u64.wrap (- IntKind.u64.wrap z) = (z.natAbs : Int) := fun h => by
    have h2 : IntKind.u64.wrap (- IntKind.u64.wrap z) = (- IntKind.u64.wrap z) % 18446744073709551616 := rfl
    rw [h2, h1]; omega
  have hb : z.natAbs ≤ 9223372036854775808 := by omega
  have E1 := Lib.hid e1
  have E2 := Lib.hid e2
  clear h1 e1 e2
  go_enter Try.func117, Try.ntmps117
  go_upto_if 8 with fail
  generalize IntKind.u64.wrap z = y at *
  go_cut [3] (fun x wx => x = .int .u64 ((z.natAbs : Nat) : Int) ∧ wx = w.alloc (.cells #[.bool false, .slice none 0 0] 117))
  case first =>
    by_cases hn : z < 0
    · have e3 := E2.out hn
      go_wp2_with fail
      go_meet
      case rel => exact ⟨by rfl, by rfl⟩
    · have e3 := E1.out hn
      subst e3
      go_wp2_with fail
      go_meet
      case rel => exact ⟨by rfl, by rfl⟩
  case rest =>
    obtain ⟨rfl, rfl⟩ := hcut
    have hbr := heap_alloc_new w (.cells #[.bool false, .slice none 0 0] 117)
    have f1 : Fr [] w (w.alloc (.cells #[.bool false, .slice none 0 0] 117)) := (Fr.refl [] w).alloc _
    have hbs : w.heap.size < (w.alloc (.cells #[.bool false, .slice none 0 0] 117)).heap.size := by simp
    generalize hw1 : w.alloc (.cells #[.bool false, .slice none 0 0] 117) = w1 at *
    clear hw1
    go_wp2_with fail
    go_loopw [3] (fun x wr => ∃ k q : Nat, x = .int .u64 (q : Int) ∧ Hid (q = z.natAbs / 1000000 ^ k) ∧ k ≤ (dg z.natAbs).length ∧ OutB w1 wr w1.heap.size (decide (z < 0)) z.natAbs k) (fun x _ => (intOf x).toNat)
    case atStart => exact ⟨0, z.natAbs, rfl, Lib.hid (by simp), Nat.zero_le _, OutB.new (Fr.refl _ _) _ _⟩
    case round =>
      obtain ⟨k, q, rfl, HQ, hk, ho⟩ := hrel
      obtain ⟨a, c, hb1, hown, hkc, han⟩ := ho.shape
      have HO := Lib.hid ho
      have HB1 := Lib.hid hb1
      have HOwn := Lib.hid hown
      have hk5 : k ≤ 100 := by have := dg_len_le (n := z.natAbs) (k := 10) (by omega); omega
      have hgs : w1.heap.size < wr.heap.size := ho.2.1
      have x1 := cell_blk hb1 1 (.slice a k c) rfl
      have z1 : wr.frozen? ⟨w1.heap.size, 1, none⟩ = false := by simp [World.frozen?, hb1]
      have hqb : q ≤ 9223372036854775808 := by rw [HQ.out]; exact Nat.le_trans (Nat.div_le_self _ _) hb
      by_cases hlt : k < (dg z.natAbs).length
      · have hne : 0 < q := by rw [HQ.out]; exact Nat.pos_of_ne_zero ((dg_lt_len _ _).1 hlt)
        have HLt := Lib.hid hlt
        clear ho hown hb1 hlt hk hb hz
        go_upto_region 6 with fail
        go_wp2_with (at_builtin; refine wpList_append_src _ rfl (.tmp 17) (.tmp 20) 115 rfl (w1.heap.size + 1) 131 i0 _ 1 8 Try.underlying115 hi hz0 hz1 hz2 rfl (by decide) (.slice a k c) k _ rfl (ownsRow_fr HOwn.out ((Fr.refl [] wr).alloc _) (by simp)) (.slice (some ⟨wr.heap.size, 0, none⟩) 1 1) 1 [.int .u64 ((q : Int) % 1000000)] rfl (Src.block (heap_alloc_new wr _) rfl (by intro u hu; simp at hu; rcases hu with rfl; rfl)) (by unfold maxLen; omega) (by omega) (by simp; omega) ?_; intro v' w2 hown2 hgrow2 _; obtain ⟨a2, c2, rfl⟩ := ownsRow_shape hown2; have hb2 := OutB.held HOwn.out HB1.out hgrow2; have x2 := cell_blk hb2 1 (.slice a k c) rfl; have z2 : w2.frozen? ⟨w1.heap.size, 1, none⟩ = false := (by simp [World.frozen?, hb2]); have HOwn2 := Lib.hid hown2; have HG2 := Lib.hid hgrow2; clear hown2 hgrow2 hb2)
        go_roundw
        case rel => exact ⟨k + 1, q / 1000000, by first | rfl | go_num, Lib.hid (by rw [HQ.out, pw_succ]), HLt.out, HO.out.put HOwn.out HB1.out rfl HG2.out (by
          have h9 := HOwn2.out
          have e9 : ((z.natAbs / 1000000 ^ k % 1000000 : Nat) : Int) = (q : Int) % 1000000 := by rw [← HQ.out]; omega
          rw [e9]
          exact h9)⟩
        case measure => simp [intOf] <;> omega
      · have hk2 : k = (dg z.natAbs).length := by omega
        have hq0 : q = 0 := by rw [HQ.out, hk2]; exact top_zero _
        subst hq0
        have x0 := cell_blk hb1 0 (.bool (decide (z < 0))) rfl
        have hbr2 := ho.2.2.1.heap hbr (by simp)
        have y0 := cell_blk hbr2 0 (.bool false) rfl
        have y1 := cell_blk hbr2 1 (.slice none 0 0) rfl
        have z3 : wr.frozen? ⟨w.heap.size, 0, none⟩ = false := by simp [World.frozen?, hbr2]
        have z4 : wr.frozen? ⟨w.heap.size, 1, none⟩ = false := by simp [World.frozen?, hbr2]
        have HBr := Lib.hid hbr2
        have HK2 := Lib.hid hk2
        clear ho hown hb1 hk hb hz hbr2 hk2 hlt
        go_wp2_with fail
        have hbz := heap_set12 (x := .bool (decide (z < 0))) (y := .slice a k c) HBr.out
        have t0 := cell_blk hbz 0 _ rfl
        have t1 := cell_blk hbz 1 _ rfl
        refine bodyPost_ret (v := .agg #[.bool (decide (z < 0)), .slice a k c]) (by simp [results, Try.results117, go_sem, t0, t1]) rfl ⟨_, rfl, ?_, ?_⟩
        · exact HO.out.ret hbs HK2.out HB1.out
        · exact ret_fr (f1.trans HO.out.2.2.1) (Nat.le_refl _)
end Go.Proofs.Ytmionipeoffnhaa
