/- strings.Builder: copyCheck, WriteString, WriteRune, String, at a builder that one made. No condition but the sizes. -/
import Derived.Test.YtgdneoajmaeckaaGreatDoorBc
import Derived.Test.YtgdneoajmaeckaaGreatDoorShelf
namespace Go.Proofs.YtgdneoajmaeckaaGreatDoor
open Go.RowKit Go.Lib

abbrev TB : Nat := 75
theorem sizeB : (Tryz.prog.info? TB).map (·.size) = some 2 := by kernel_rfl
theorem liesB : liesAt Tryz.prog Tryz.prog.depth TB (2 / Tryz.prog.cellsOf TB) 0 TB 1 = true := by kernel_rfl

/-- A builder: its block, what it holds. -/
def Bd (w : World) (B b : Nat) (l : List UInt8) : Prop :=
  B ≤ b ∧ ∃ p v, w.heap[b]? = some (.cells #[p, v] TB) ∧ (p = .pointer none ∨ p = .pointer (some ⟨b, 0, none⟩)) ∧ w.ownsRow B 5 1 v l.length (bytesC l)

/-- What a write keeps: all but the builder's block and rows of bytes. -/
structure Kb (b : Nat) (w w' : World) : Prop where
  size : w.heap.size ≤ w'.heap.size
  same : ∀ k o, w.heap[k]? = some o → k ≠ b → (∀ cs z, o ≠ .cells cs 5 z) → w'.heap[k]? = some o
theorem Kb.refl (b : Nat) (w : World) : Kb b w w := ⟨Nat.le_refl _, fun _ _ h _ _ => h⟩
theorem Kb.trans {b : Nat} {x y z : World} (h : Kb b x y) (k : Kb b y z) : Kb b x z := ⟨Nat.le_trans h.size k.size, fun i o h1 h2 h3 => k.same i o (h.same i o h1 h2 h3) h2 h3⟩

theorem Bd.lt {w : World} {B b : Nat} {l : List UInt8} (h : Bd w B b l) : b < w.heap.size := by
  obtain ⟨-, p, v, hb, -⟩ := h
  exact (Array.getElem?_eq_some_iff.1 hb).1
theorem Bd.fr {w w' : World} {B b : Nat} {l : List UInt8} {L : List Nat} (h : Bd w B b l) (f : Fr L w w') (hL : ∀ x ∈ L, x < B) : Bd w' B b l := by
  obtain ⟨h0, p, v, hb, hp, ho⟩ := h
  exact ⟨h0, p, v, f.heap hb (fun hm => by have := hL b hm; omega), hp, ownsRow_fr ho f hL⟩
theorem Bd.new (w : World) {B : Nat} (hB : B ≤ w.heap.size) : Bd (w.alloc (.cells #[.pointer none, .slice none 0 0] TB)) B w.heap.size [] :=
  ⟨hB, _, _, heap_alloc_new w _, Or.inl rfl, World.ownsRow_nil _ _ _ _⟩
theorem Bd.cells {w : World} {B b : Nat} {l : List UInt8} (h : Bd w B b l) : IsBuilder TB 5 B b (byteCells l) w := by
  obtain ⟨h0, p, v, hb, hp, ho⟩ := h
  have ho2 : w.ownsRow B 5 1 v (byteCells l).length (byteCells l) := by rw [byteCells_length]; exact ho
  have hne := ownBlock_ne ho2 hb (by decide)
  rcases hp with rfl | rfl
  · exact Or.inl ⟨h0, v, hb, ho2, hne⟩
  · exact Or.inr ⟨h0, v, hb, ho2, hne⟩

theorem bstring_any {w : World} {B b : Nat} {l : List UInt8} (h : Bd w B b l) :
    Calls Tryz.prog 48 #[.pointer (some ⟨b, 0, none⟩)] w fun e w' => e = .returned (.string ⟨l.toArray⟩) ∧ Below B w w' :=
  Tryz.Builder_String_any B b l w h.cells (by have := h.lt; have := h.1; omega)

set_option maxRecDepth 100000 in
theorem copyCheck_used {w : World} {b : Nat} (h0 : w.cell? ⟨b, 0, none⟩ = some (.pointer (some ⟨b, 0, none⟩))) :
    Calls Tryz.prog 62 #[.pointer (some ⟨b, 0, none⟩)] w fun e w' => e = .returned (.tuple #[]) ∧ w' = w := by
  obtain ⟨j, hj, _⟩ := Option.map_eq_some_iff.1 sizeB
  go_enter Tryz.func62, Tryz.ntmps62
  go_wp2_with fail
  rw [Lib.run_neq_ptr_same w _ Tryz.underlying72 hj]
  go_wp2_with fail
  go_end0
  exact ⟨rfl, rfl⟩

set_option maxRecDepth 100000 in
theorem copyCheck_fresh {w : World} {b : Nat} (h0 : w.cell? ⟨b, 0, none⟩ = some (.pointer none)) (hsh : w.shape? b = some (TB, 2)) (hfz : w.frozen? ⟨b, 0, none⟩ = false) :
    Calls Tryz.prog 62 #[.pointer (some ⟨b, 0, none⟩)] w fun e w' => e = .returned (.tuple #[]) ∧ w' = w.setCell ⟨b, 0, none⟩ (.pointer (some ⟨b, 0, none⟩)) := by
  obtain ⟨j, hj, hjs⟩ := Option.map_eq_some_iff.1 sizeB
  go_enter Tryz.func62, Tryz.ntmps62
  go_wp2_with fail
  rw [Lib.run_to_unsafe w ⟨b, 0, none⟩ Tryz.underlying72 Tryz.underlying106 hj (by rw [hjs]; decide) hsh (Nat.zero_lt_succ 1)]
  simp only [Result.andThen]
  rw [Oper.upon_value]
  go_wp2_with fail
  rw [run_callFunc_extern Tryz.func78 (by kernel_rfl) (by kernel_rfl) (by kernel_rfl) (e := Extern.AbiNoEscape.same) (by kernel_rfl)]
  rw [Lib.run_noEscape]
  simp only [Result.andThen]
  rw [Oper.upon_value]
  go_wp2_with fail
  rw [Lib.run_from_unsafe w ⟨b, 0, none⟩ Tryz.underlying106 Tryz.underlying72 hj hsh liesB]
  simp only [Result.andThen]
  rw [Oper.upon_value]
  go_wp2_with fail
  go_end0
  exact ⟨rfl, rfl⟩

/-- Behind copyCheck: the builder's own address. -/
def Bu (w : World) (B b : Nat) (l : List UInt8) : Prop :=
  B ≤ b ∧ ∃ v, w.heap[b]? = some (.cells #[.pointer (some ⟨b, 0, none⟩), v] TB) ∧ w.ownsRow B 5 1 v l.length (bytesC l)

theorem copyCheck_any {w : World} {B b : Nat} {l : List UInt8} (h : Bd w B b l) :
    Calls Tryz.prog 62 #[.pointer (some ⟨b, 0, none⟩)] w fun e w' => e = .returned (.tuple #[]) ∧ Bu w' B b l ∧ Below B w w' ∧ Kb b w w' := by
  obtain ⟨h0, p, v, hb, hp, ho⟩ := h
  have c0 := cell_blk hb 0 _ rfl
  rcases hp with rfl | rfl
  · refine (copyCheck_fresh c0 (by simp [World.shape?, hb]) (by simp [World.frozen?, hb])).mono ?_
    rintro e w' ⟨rfl, rfl⟩
    refine ⟨rfl, ⟨h0, v, blk_set hb 0 _, ?_⟩, (Below.refl B w).setCell (p := ⟨b, 0, none⟩) h0 _, ?_⟩
    · have hne := ownBlock_ne ho hb (by decide)
      exact ho.kept (row := some b) ⟨rfl, rfl, rfl, by simp [World.setCell], fun k _ hk => Below.heap_setCell _ _ _ _ (fun e => hk (by simp [e]))⟩ (Or.inr hne)
    · exact ⟨by simp [World.setCell], fun k o h1 h2 _ => (heap_far h2).trans h1⟩
  · refine (copyCheck_used c0).mono ?_
    rintro e w' ⟨rfl, rfl⟩
    exact ⟨rfl, ⟨h0, v, hb, ho⟩, Below.refl _ _, Kb.refl _ _⟩

theorem kb_grown {w w' : World} {b B n : Nat} {v : Value} {xs : List Value} (hg : w.grownBy w' v.ownBlock) (ho : w.ownsRow B 5 1 v n xs) : Kb b w w' :=
  ⟨hg.size, fun k o h1 h2 h3 => by
    refine (hg.block k (Array.getElem?_eq_some_iff.1 h1).1 (fun e => ?_)).trans h1
    rcases ho.2 with ⟨rfl, _⟩ | ⟨g, cap, cur, rfl, _, hh, _⟩
    · cases e
    · simp only [Value.ownBlock, Option.some.injEq] at e
      subst e
      rw [h1] at hh
      exact h3 _ _ (Option.some.inj hh)⟩

theorem keep_own2 {w5 w3 : World} {o x : Obj} {t base n : Nat} {v : Value} {xs : List Value} (h : w5.heap[t]? = some o) (_ : w5.ownsRow base 5 1 v n xs) (hg : (w5.alloc x).grownBy w3 v.ownBlock) (hne : v.ownBlock ≠ some t) : w3.heap[t]? = some o := by
  have h5 := ((Fr.refl [] w5).alloc x).heap h (by simp)
  have h6 : Fr v.ownBlock.toList (w5.alloc x) w3 := Fr.grown hg
  exact h6.heap h5 (fun hm => hne (by simpa using hm))
theorem frozen_blk {w : World} {b : Nat} {cs : Array Value} {t : Nat} (h : w.heap[b]? = some (.cells cs t)) (j : Nat) : w.frozen? ⟨b, j, none⟩ = false := by simp [World.frozen?, h]
theorem rune_row {w : World} {B n : Nat} {v : Value} {l : List UInt8} {r : Int} (h : w.ownsRow B 5 1 v (n + (Lib.runeCells r).length) (bytesC l ++ Lib.runeCells r)) (hn : n = l.length) :
    w.ownsRow B 5 1 v (l ++ Lib.encodeRune r).length (bytesC (l ++ Lib.encodeRune r)) := by
  have e : Lib.runeCells r = bytesC (Lib.encodeRune r) := (Lib.byteCells_encodeRune r).symm
  rw [e] at h
  rw [← bytesC_app, List.length_append]
  have e2 : (bytesC (Lib.encodeRune r)).length = (Lib.encodeRune r).length := by simp [bytesC]
  rw [e2, hn] at h
  exact h

theorem str_row {w : World} {B n : Nat} {v : Value} {l s : List UInt8} (h : w.ownsRow B 5 1 v (n + (⟨s.toArray⟩ : ByteArray).size) (bytesC l ++ Lib.strCells ⟨s.toArray⟩)) (hn : n = l.length := by rfl) :
    w.ownsRow B 5 1 v (l ++ s).length (bytesC (l ++ s)) := by
  rw [size_mk, hn] at h
  rw [← bytesC_app, List.length_append]
  exact h

set_option maxRecDepth 100000 in
set_option maxHeartbeats 800000 in
theorem wstr_any {w : World} {B b : Nat} {l : List UInt8} (h : Bd w B b l) (s : List UInt8) (hlen : l.length + s.length ≤ 140737488355328) :
    Calls Tryz.prog 47 #[.pointer (some ⟨b, 0, none⟩), .string ⟨s.toArray⟩] w fun e w' => e = .returned (.tuple #[.int .i64 (s.length : Int), .nilIface]) ∧ Bd w' B b (l ++ s) ∧ Below B w w' ∧ Kb b w w' := by
  obtain ⟨i0, hi, hz0, hz1, hz2⟩ := info_parts info5
  have hc := copyCheck_any h
  have hlt := h.lt
  have hsz := size_mk s
  clear h
  go_enter Tryz.func47, Tryz.ntmps47
  go_upto_region 2 with (go_at_call 62; refine hc.mono ?_; rintro e w1 ⟨rfl, ⟨h0, v, hb, ho⟩, bl, kb⟩)
  have c1 := cell_blk hb 1 v rfl
  have c0 := cell_blk hb 0 (.pointer (some ⟨b, 0, none⟩)) rfl
  have k1 := bl.size
  have HB := Lib.hid hb
  have HO := Lib.hid ho
  have HBl := Lib.hid bl
  have HKb := Lib.hid kb
  clear hb ho bl kb hc
  go_wp2_with (at_builtin; refine Lib.wpList_append_own_string _ rfl (.tmp 12) (.tmp 13) 73 9 rfl B 5 i0 Tryz.underlying73 Tryz.underlying9 hi hz0 hz1 hz2 _ _ _ rfl HO.out _ rfl (by unfold maxLen; omega) (by omega) (by omega) ?_; intro v' w2 ho2 hg2 _; have hne := ownBlock_ne HO.out HB.out (by decide); have hb2 : w2.heap[b]? = some (.cells #[.pointer (some ⟨b, 0, none⟩), v] TB) := (hg2.block b (Array.getElem?_eq_some_iff.1 HB.out).1 (fun e => hne e.symm)).trans HB.out; have d1 := cell_blk hb2 1 v rfl; have y1 : w2.frozen? ⟨b, 1, none⟩ = false := frozen_blk hb2 1; have ho3 : w2.ownsRow B 5 1 v' (l ++ s).length (bytesC (l ++ s)) := str_row ho2; obtain ⟨va, vc, rfl⟩ := ownsRow_shape ho3; have HB2 := Lib.hid hb2; have HO3 := Lib.hid ho3; have HG := Lib.hid hg2; clear ho2 ho3 hg2 hb2)
  go_ret2
  have hne3 := ownBlock_ne HO3.out HB2.out (by decide)
  refine ⟨rfl, ⟨h0, _, _, blk_set HB2.out 1 _, Or.inr rfl, ?_⟩, ?_, ?_⟩
  · have HSz : Hid ((l ++ s).length = l.length + s.length) := Lib.hid List.length_append
    have := HO3.out.kept (w' := w2.setCell ⟨b, 1, none⟩ (.slice va (l ++ s).length vc)) (row := some b) ⟨rfl, rfl, rfl, by simp [World.setCell], fun k _ hk => Below.heap_setCell _ _ _ _ (fun e => hk (by simp [e]))⟩ (Or.inr hne3)
    rw [HSz.out] at this ⊢
    exact this
  · exact (HBl.out.grown HG.out (by omega) (fun k hk => (HO.out.lt k hk).1)).setCell (p := ⟨b, 1, none⟩) h0 _
  · exact (HKb.out.trans (kb_grown HG.out HO.out)).trans ⟨by simp [World.setCell], fun k o h1 h2 _ => (heap_far h2).trans h1⟩

set_option maxRecDepth 100000 in
set_option maxHeartbeats 800000 in
theorem wrune_any {w : World} {B b : Nat} {l : List UInt8} (h : Bd w B b l) (r : Int) (hr0 : 0 ≤ r) (hr1 : r ≤ 1114111) (hlen : l.length + 4 ≤ 140737488355328) :
    Calls Tryz.prog 75 #[.pointer (some ⟨b, 0, none⟩), .int .i32 r] w fun e w' => (∃ v, e = .returned (.tuple #[v, .nilIface])) ∧ Bd w' B b (l ++ Lib.encodeRune r) ∧ Below B w w' ∧ Kb b w w' := by
  have hc := copyCheck_any h
  have hlt := h.lt
  clear h
  go_enter Tryz.func75, Tryz.ntmps75
  go_upto_region 2 with (go_at_call 62; refine hc.mono ?_; rintro e w1 ⟨rfl, ⟨h0, v, hb, ho⟩, bl, kb⟩)
  obtain ⟨va, vc, rfl⟩ := ownsRow_shape ho
  have c1 := cell_blk hb 1 (.slice va l.length vc) rfl
  have c0 := cell_blk hb 0 (.pointer (some ⟨b, 0, none⟩)) rfl
  have k1 := bl.size
  have hAp := Tryz.utf8_AppendRune_plain B _ _ _ r (by omega) (by omega) w1 ho hlen (by omega)
  have HB := Lib.hid hb
  have HO := Lib.hid ho
  have HBl := Lib.hid bl
  have HKb := Lib.hid kb
  have HLe := Lib.hid (Lib.runeCells_le r)
  clear hb ho bl kb hc
  go_upto_region 4 with (go_at_call 88; refine hAp.mono ?_; rintro e w2 ⟨v', rfl, ho2, o, hg2⟩; have hne := ownBlock_ne HO.out HB.out (by decide); have hb2 : w2.heap[b]? = some (.cells #[.pointer (some ⟨b, 0, none⟩), .slice va l.length vc] TB) := keep_own2 HB.out HO.out hg2 hne; have d1 := cell_blk hb2 1 (.slice va l.length vc) rfl; have y1 : w2.frozen? ⟨b, 1, none⟩ = false := frozen_blk hb2 1; have ho3 : w2.ownsRow B 5 1 v' (l ++ Lib.encodeRune r).length (bytesC (l ++ Lib.encodeRune r)) := rune_row ho2 rfl; obtain ⟨va', vc', rfl⟩ := ownsRow_shape ho3; have HB2 := Lib.hid hb2; have HO3 := Lib.hid ho3; have HG := Lib.hid hg2; clear ho2 ho3 hg2 hb2)
  have HSz : Hid ((l ++ Lib.encodeRune r).length = l.length + (Lib.encodeRune r).length) := Lib.hid List.length_append
  have hEl : (Lib.encodeRune r).length ≤ 4 := by have := HLe.out.2; rw [Lib.runeCells_length] at this; exact this
  go_wp2_with fail
  go_ret2
  have hne3 := ownBlock_ne HO3.out HB2.out (by decide)
  refine ⟨⟨_, rfl⟩, ⟨h0, _, _, blk_set HB2.out 1 _, Or.inr rfl, ?_⟩, ?_, ?_⟩
  · have := HO3.out.kept (w' := w2.setCell ⟨b, 1, none⟩ (.slice va' (l ++ Lib.encodeRune r).length vc')) (row := some b) ⟨rfl, rfl, rfl, by simp [World.setCell], fun k _ hk => Below.heap_setCell _ _ _ _ (fun e => hk (by simp [e]))⟩ (Or.inr hne3)
    rw [HSz.out] at this ⊢
    exact this
  · exact ((HBl.out.alloc (by omega) _).grown HG.out (by simp; omega) (fun k hk => (HO.out.lt k hk).1)).setCell (p := ⟨b, 1, none⟩) h0 _
  · exact (HKb.out.trans ⟨Nat.le_trans (by simp) HG.out.size, fun k o' h1 h2 h3 => (kb_grown HG.out (HO.out.alloc o)).same k o' (((Fr.refl [] w1).alloc o).heap h1 (by simp)) h2 h3⟩).trans ⟨by simp [World.setCell], fun k o h1 h2 _ => (heap_far h2).trans h1⟩
end Go.Proofs.YtgdneoajmaeckaaGreatDoor
