/- row.Decode and slices.Clone at a row. No condition but the size that can be read, and that the tables of package utf8 lie as its text lays them. -/
import Derived.Test.YtpcmibimglkocaaDoorVal
import Derived.Test.YtpcmibimglkocaaDoorRowd
import Derived.Test.YtpcmibimglkocaaDoorApp
import Derived.WalkSpells
namespace Go.Proofs.YtpcmibimglkocaaDoor
open Go.RowKit

def Dt.cells (d : Dt) : List Value := [.int .i64 d.kind, .int .i64 d.i, .string ⟨d.s.toArray⟩]
def dtsC (l : List Dt) : List Value := l.flatMap Dt.cells
theorem dtsC_one (l : List Dt) : ∀ u ∈ dtsC l, u.oneCell' = true := by
  intro u hu
  simp only [dtsC, List.mem_flatMap, Dt.cells] at hu
  obtain ⟨d, -, hd⟩ := hu
  simp at hd
  rcases hd with rfl | rfl | rfl <;> rfl
theorem dtsC_len (l : List Dt) : (dtsC l).length = l.length * 3 := by
  induction l with
  | nil => rfl
  | cons d l ih => simp only [dtsC, List.flatMap_cons, List.length_append, List.length_cons] at ih ⊢; rw [ih]; simp [Dt.cells]; omega
theorem ownsRow_base {w : World} {b base e size n : Nat} {v : Value} {xs : List Value} (h : w.ownsRow base e size v n xs) (hb : b ≤ base) : w.ownsRow b e size v n xs := by
  obtain ⟨h1, h2⟩ := h
  refine ⟨h1, ?_⟩
  rcases h2 with h2 | ⟨g, cap, cur, hv, hg, hh, r⟩
  · exact Or.inl h2
  · exact Or.inr ⟨g, cap, cur, hv, by omega, hh, r⟩
theorem ownsRow_fr {w w' : World} {S : List Nat} {base e size n : Nat} {v : Value} {xs : List Value} (h : w.ownsRow base e size v n xs) (f : Fr S w w') (hS : ∀ x ∈ S, x < base) : w'.ownsRow base e size v n xs := by
  obtain ⟨h1, h2⟩ := h
  refine ⟨h1, ?_⟩
  rcases h2 with h2 | ⟨g, cap, cur, hv, hg, hh, r⟩
  · exact Or.inl h2
  · exact Or.inr ⟨g, cap, cur, hv, hg, f.heap hh (fun hx => by have := hS g hx; omega), r⟩
theorem dtsC_one' (d : Dt) : ∀ u ∈ d.cells, u.oneCell' = true := by
  intro u hu
  simp [Dt.cells] at hu
  rcases hu with rfl | rfl | rfl <;> rfl
theorem dtsC_snoc (l : List Dt) (d : Dt) : dtsC (l ++ [d]) = dtsC l ++ d.cells := by simp [dtsC]
theorem cell_three_new (w : World) (a b c : Value) (t : Nat) : ∀ j u, [a, b, c][j]? = some u → (w.alloc (.cells #[a, b, c] t)).cell? ((⟨w.heap.size, 0, none⟩ : Addr).add j) = some u := by
  intro j u hj
  have hadd : (⟨w.heap.size, 0, none⟩ : Addr).add j = ⟨w.heap.size, j, none⟩ := by unfold Addr.add; split <;> simp_all
  rw [hadd]
  exact cell_blk (heap_alloc_new w _) j u (by simpa using hj)
theorem ownsRow_shape {w : World} {base e size n : Nat} {v : Value} {xs : List Value} (h : w.ownsRow base e size v n xs) : ∃ a c, v = .slice a n c := by
  rcases h.2 with ⟨rfl, rfl⟩ | ⟨g, cap, cur, rfl, -⟩
  · exact ⟨_, _, rfl⟩
  · exact ⟨_, _, rfl⟩
theorem Src.alloc {w : World} {size m : Nat} {x : Value} {news : List Value} (h : Src w size x m news) (o : Obj) : Src (w.alloc o) size x m news := by
  obtain ⟨h1, h2, h3⟩ := h
  refine ⟨h1, h2, ?_⟩
  rcases h3 with h3 | ⟨ad, c, h3, h4⟩
  · exact Or.inl h3
  · exact Or.inr ⟨ad, c, h3, fun j u hj => ((Fr.refl [] w).alloc o).cell (h4 j u hj) (by simp)⟩
theorem info32 : (Tryd.prog.info? 32).map (fun i => (i.zero, i.size, i.bytes)) = some (some (.agg #[.int .i64 0, .int .i64 0, .string ⟨#[]⟩]), 3, 32) := by kernel_rfl

set_option maxRecDepth 100000
theorem clone_own {w : World} {base n : Nat} {v : Value} {l : List Dt} (h : w.ownsRow base 32 3 v n (dtsC l)) (hn : n ≤ 1000000) :
    Calls Tryd.prog 21 #[v] w fun e w' => ∃ v', e = .returned v' ∧ w'.ownsRow w.heap.size 32 3 v' n (dtsC l) ∧ Fr [] w w' := by
  obtain ⟨i0, hi, hz0, hz1, hz2⟩ := info_parts info32
  have hs := Src.row h (dtsC_one l)
  have hd := h.2
  rcases hd with ⟨rfl, rfl⟩ | ⟨g, cap, cur, rfl, -⟩
  · have hq := fun w => Lib.run_eql_slice_nil (P := Tryd.prog) w 23 32 none 0 0 0 0 Tryd.underlying23
    have hnil : dtsC l = [] := List.length_eq_zero_iff.1 (by simpa using h.1)
    clear hs h
    go_enter Tryd.func21, Tryd.ntmps21
    go_wp2
    go_ret
    exact ⟨_, rfl, by rw [hnil]; exact World.ownsRow_nil _ _ _ _, Fr.refl _ _⟩
  · have hq := fun w => Lib.run_eql_slice_nil (P := Tryd.prog) w 23 32 (some ⟨g, 0, none⟩) n cap 0 0 Tryd.underlying23
    have HS := Lib.hid hs
    clear hs h
    go_enter Tryd.func21, Tryd.ntmps21
    go_wp2_with (at_builtin; refine wpList_append_src _ rfl (.tmp 5) (.tmp 6) 23 rfl w.heap.size 32 i0 _ 3 32 Tryd.underlying23 hi hz0 hz1 hz2 rfl (by decide) _ _ _ rfl (World.ownsRow_made w #[] 0 (Nat.le_refl _) (by decide) rfl) _ n _ rfl (HS.out.alloc _) (by unfold maxLen; omega) (by omega) (by simp) ?_; intro v' w1 hown hgrow _)
    go_wp2
    go_ret
    exact ⟨v', rfl, by simpa using hown, ((Fr.refl [] w).alloc _).fresh hgrow (fun r e => Or.inl (by simp [Act.eval, Value.ownBlock] at e; omega))⟩

def DecIs (w : World) (l : List UInt8) (e : Ending) (w' : World) : Prop :=
  match rowD 1000 l with
  | some ds => ∃ v, e = .returned (.tuple #[v, .int .i64 0]) ∧ w'.ownsRow w.heap.size 32 3 v ds.length (dtsC ds)
  | none => e = .returned (.tuple #[.slice none 0 0, .int .i64 20])

def DecR (l : List UInt8) (w : World) (a0 a4 : Value) (wr : World) : Prop :=
  ∃ (q : ByteArray) (acc : List Dt), a0 = .string q ∧ q.size ≤ l.length ∧ acc.length ≤ 1000 ∧ rowD 1000 l = (rowD (1000 - acc.length) q.data.toList).map (acc ++ ·) ∧
    wr.ownsRow w.heap.size 32 3 a4 acc.length (dtsC acc) ∧ Fr [] w wr

theorem DecIs.none {w w' : World} {l : List UInt8} (h : rowD 1000 l = none) : DecIs w l (.returned (.tuple #[.slice none 0 0, .int .i64 20])) w' := by
  unfold DecIs; rw [h]
theorem DecIs.some {w w' : World} {l : List UInt8} {ds : List Dt} {v : Value} (h : rowD 1000 l = some ds) (ho : w'.ownsRow w.heap.size 32 3 v ds.length (dtsC ds)) : DecIs w l (.returned (.tuple #[v, .int .i64 0])) w' := by
  unfold DecIs; rw [h]; exact ⟨v, rfl, ho⟩

set_option maxHeartbeats 1600000 in
theorem decode_any (s : ByteArray) (w : World) (hs : s.size ≤ 140737488351232) (hT : Lib.Utf8Tabs 0 1 w) :
    Calls Tryd.prog 10 #[.string s] w fun e w' => DecIs w s.data.toList e w' ∧ Fr [] w w' := by
  have HT := Lib.hid hT
  have hsl : s.data.toList.length = s.size := by rw [Array.length_toList]; rfl
  have HSL := Lib.hid hsl
  clear hT hsl
  obtain ⟨i0, hi, hz0, hz1, hz2⟩ := info_parts info32
  go_enter Tryd.func10, Tryd.ntmps10
  go_wp2_with fail
  go_loopw [0, 4] (fun a0 a4 wr => DecR s.data.toList w a0 a4 wr) (fun a0 _ _ => sLen a0)
  case atStart => exact ⟨s, [], rfl, by rw [HSL.out]; exact Nat.le_refl _, by simp, by simp, World.ownsRow_nil _ _ _ _, Fr.refl _ _⟩
  case round =>
    obtain ⟨q, acc, rfl, hq, hacc, hR, hown, hf⟩ := hrel
    obtain ⟨aa, ac, hshape⟩ := ownsRow_shape hown
    subst hshape
    have HR := Lib.hid hR
    have HF := Lib.hid hf
    have HO := Lib.hid hown
    have hqs : q.size ≤ 140737488351232 := by have := HSL.out; omega
    have hql : q.data.toList.length = q.size := by rw [Array.length_toList]; rfl
    have HQL := Lib.hid hql
    clear hR hf hown hql
    by_cases hz : q.size = 0
    · have hnil : q.data.toList = [] := List.length_eq_zero_iff.1 (by rw [HQL.out]; exact hz)
      have hE : q.toList.isEmpty = true := by rw [ByteArray.toList_eq, hnil]; rfl
      have HN := Lib.hid (show rowD 1000 s.data.toList = some acc by rw [HR.out, hnil, rowD_nil]; simp)
      clear hnil
      go_wp2_with (go_at_call 21; refine (clone_own HO.out (by omega)).mono ?_; rintro e w1 ⟨v', rfl, ho1, f1⟩)
      go_ret2
      exact ⟨DecIs.some HN.out (ownsRow_base ho1 HF.out.size), HF.out.trans f1⟩
    · have hne : q.data.toList ≠ [] := fun e => hz (by have := HQL.out; rw [e] at this; exact this.symm)
      have hE : q.toList.isEmpty = false := by rw [ByteArray.toList_eq]; cases h : q.data.toList with | nil => exact absurd h hne | cons a l => rfl
      have hq0 : 0 < q.size := by omega
      have hTr := tabs_fr HT.out HF.out (by simp) (by simp)
      have HTr := Lib.hid hTr
      have HNE := Lib.hid hne
      clear hTr hne
      go_upto_region 4 with (go_at_call 20; refine (value_any q _ hq0 hqs HTr.out).mono ?_; rintro e w1 ⟨⟨d, r, ok, rfl, hV⟩, f1⟩)
      have HV := Lib.hid hV
      clear hV
      obtain ⟨x0, x1, x2, z0, z1, z2⟩ := blk3 (heap_alloc_new w1 (.cells #[.int .i64 d.kind, .int .i64 d.i, .string ⟨d.s.toArray⟩] 32))
      have HA := Lib.hid ((ownsRow_fr HO.out f1 (by simp)).alloc (.cells #[.int .i64 d.kind, .int .i64 d.i, .string ⟨d.s.toArray⟩] 32))
      have hf2 := (HF.out.trans f1).alloc (.cells #[.int .i64 d.kind, .int .i64 d.i, .string ⟨d.s.toArray⟩] 32)
      generalize w1.alloc (.cells #[.int .i64 d.kind, .int .i64 d.i, .string ⟨d.s.toArray⟩] 32) = w2 at *
      cases ok
      · have HN := Lib.hid (show rowD 1000 s.data.toList = none by rw [HR.out, rowD_none HNE.out (by simpa using HV.out)]; rfl)
        go_wp2_with fail
        go_ret2
        exact ⟨DecIs.none HN.out, hf2⟩
      · by_cases hfull : acc.length = 1000
        · have HN := Lib.hid (show rowD 1000 s.data.toList = none by rw [HR.out, hfull, rowD_full HNE.out]; rfl)
          go_wp2_with fail
          go_ret2
          exact ⟨DecIs.none HN.out, hf2⟩
        · have hlt : acc.length < 1000 := by omega
          clear hfull
          have hV' : valB q.data.toList = some (d, r.data.toList) := by simpa using HV.out
          have hrl := valB_lt hV'
          have hrs : r.size < q.size := by
            have e1 : r.data.toList.length = r.size := by rw [Array.length_toList]; rfl
            have := HQL.out; omega
          have HN := Lib.hid (rowD_some HNE.out hV' (show 0 < 1000 - acc.length by omega))
          clear hV' hrl
          have k3 := hf2.size
          go_wp2_with (at_builtin; refine wpList_append_own _ rfl (.tmp 23) (.tmp 25) 23 rfl w.heap.size 32 i0 _ 3 32 Tryd.underlying23 hi hz0 hz1 hz2 rfl (by decide) _ _ _ rfl (HA.out.alloc _) ⟨w2.heap.size, 0, none⟩ 1 1 d.cells rfl rfl (cell_three_new _ _ _ _ _) (dtsC_one' d) (by unfold maxLen; omega) (by omega) (by simp; omega) ?_; intro v'' w3 hown3 hgrow3 _)
          go_wp2_with fail
          go_roundw
          case rel => exact ⟨r, acc ++ [d], rfl, by omega, by simp; omega, by rw [HR.out, HN.out]; simp [Nat.sub_sub, Option.map_map]; rfl, by rw [dtsC_snoc]; simpa using hown3, (hf2.alloc _).fresh hgrow3 (fun r e => Or.inl (HO.out.lt r e).1)⟩
          case measure => simp [sLen]; omega
end Go.Proofs.YtpcmibimglkocaaDoor
