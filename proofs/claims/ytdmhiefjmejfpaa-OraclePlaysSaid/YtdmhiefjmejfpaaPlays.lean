/- The walk of OraclePlays. -/
import Derived.Test.YtdmhiefjmejfpaaItems
import Derived.Deep.RegionHeld3
import Derived.Deep.CutBlock
import Derived.Deep.DeepCutAuto
import Derived.Maps.AppendAt
namespace Go.Proofs.Ytdmhiefjmejfpaa
open Go.RowKit Go.Maps

theorem plays_bad (F : Int) (v : Value) (w : World) (hF : F < 0 ∨ 1099511627776 < F) :
    Calls Try.prog 5 #[.int .i64 F, v] w fun e w' => e = .returned (.bool true) ∧ Below w.heap.size w w' := by
  have HF := Lib.hid hF
  clear hF
  go_enter Try.func5, Try.ntmps5
  go_wp2_with fail
  refine (new_no F HF.out).mono ?_
  rintro e w' ⟨rfl, rfl⟩
  go_wp2_with fail
  refine (rnew_no F HF.out).mono ?_
  rintro e w' ⟨rfl, rfl⟩
  go_wp2_with fail
  refine (known_any _).mono ?_
  rintro e w1 ⟨rfl, f1⟩
  go_wp2_with fail
  go_ret
  exact ⟨rfl, f1.below (Nat.le_refl _) (by simp)⟩

theorem info24 : (Try.prog.info? 24).map (fun i => (i.zero, i.size, i.bytes)) = some (some (.pointer none), 1, 8) := by kernel_rfl
theorem info47 : (Try.prog.info? 47).map (fun i => (i.zero, i.size, i.bytes)) = some (some (.pointer none), 1, 8) := by kernel_rfl

/-- An operation that may be taken first, its slot written out. -/
theorem take_lit {P : Program} {ops : Array Oper} {Q : Exit → Act → World → Prop} {md : Region.Mode} {S : World → Prop} {i d : Nat} {op : Op} {ty : TypeId} {pos : String} {af : Array Edge} {g : Option (Nat × Bool)} {v : Value} {fuel : Nat} {listed : Array Bool} {tm : Array Value} {df : List Deferred} {w : World}
    (hi : ops[i]? = some ⟨some d, op, ty, pos, af, g⟩) (hs : Region.noSelect ops = true) (hf : Region.free md ops listed i = true) (hr : (Region.ready md ops listed).contains i = true)
    (hQ : ∀ c a w, Q (.panic c) (a.put (some d) v) w → Q (.panic c) a w) (hy : YieldsIf P ops S ⟨some d, op, ty, pos, af, g⟩ v ⟨tm, df⟩) (hS : S w)
    (h : wpAnyH P md ops Q S fuel (listed.setIfInBounds i true) ⟨tm.setIfInBounds d v, df⟩ w) : wpAnyH P md ops Q S (fuel + 1) listed ⟨tm, df⟩ w :=
  wpAnyH_take hi hs hf hr hQ hy hS h

theorem oneRow {w : World} {base e g : Nat} {v : Value} (hb : w.heap[g]? = some (.cells #[v] e (0, 0))) (hB : base ≤ g) : w.ownsRow base e 1 (.slice (some ⟨g, 0, none⟩) 1 1) 1 [v] :=
  ⟨rfl, .inr ⟨g, 1, #[v], rfl, hB, hb, Nat.le_refl _, by unfold maxLen; omega, rfl, rfl⟩⟩

theorem wpAnyH_mono {P : Program} {ops : Array Oper} {Q : Exit → Act → World → Prop} {md : Region.Mode} {S S' : World → Prop} (hS : ∀ w, S' w → S w) :
    ∀ (fuel : Nat) (listed : Array Bool) (a : Act) (w : World), wpAnyH P md ops Q S' fuel listed a w → wpAnyH P md ops Q S fuel listed a w
  | 0, _, _, _, h => h
  | fuel + 1, _, _, _, h => ⟨h.1, fun i hi => wpOp_mono (fun a' w' h' => ⟨hS _ h'.1, wpAnyH_mono hS fuel _ a' w' h'.2⟩) (h.2 i hi)⟩

/-- One pair more, in blocks that are newer than all that were there at a world before. -/
theorem AllOk.add {w w' : World} {B k : Nat} {l : List Item} {it : Item} (h : AllOk w' B k l) (h0 : AllOk w B k l) (hi : Okay w' B k it) (h1 : w.heap.size ≤ it.x) (h2 : w.heap.size ≤ it.m) (h3 : w.heap.size ≤ it.r) : AllOk w' B k (l ++ [it]) := by
  refine ⟨?_, ?_⟩
  · intro a ha
    rcases List.mem_append.1 ha with ha | ha
    · exact h.each a ha
    · rw [List.mem_singleton] at ha; subst ha; exact hi
  · simp only [List.pairwise_append, List.pairwise_singleton, true_and, List.mem_singleton]
    refine ⟨h.apart, ?_⟩
    rintro a ha b rfl
    have := (h0.each a ha).lt
    exact ⟨by omega, by omega, by omega⟩

/-- Behind the append to 'all'. -/
theorem push_all {w0 w w' : World} {base B k n m gx cx : Nat} {l : List Item} {v : Value} {xs ys : List Value} {o : Obj} {bx bm : Nat} {s : Orc} (hrx : w.ownsRow base 24 1 (.slice (some ⟨gx, 0, none⟩) n cx) n xs) (hrr : w.ownsRow base 47 1 v m ys)
    (hall : AllOk w B k l) (hfr : Fr [] w0 w) (hg : (w.alloc o).grownBy w' (Value.slice (some ⟨gx, 0, none⟩) n cx).ownBlock) (hb : w0.heap.size ≤ base) (ho : Own w bx bm s) :
    Fr [] w0 w' ∧ w.heap.size ≤ w'.heap.size ∧ Fr [gx] w w' ∧ AllOk w' B k l ∧ w'.ownsRow base 47 1 v m ys ∧ Own w' bx bm s := by
  obtain ⟨cur, hbk⟩ := row_block hrx
  have f : Fr [gx] w w' := ((Fr.refl [gx] w).alloc o).trans ((Fr.grown hg).mono (by simp [Value.ownBlock]))
  have hp : PtrRows w [gx] := by
    intro x hx
    rw [List.mem_singleton] at hx
    subst hx
    exact ⟨cur, 24, _, hbk, Or.inl rfl⟩
  obtain ⟨f0, h2, ho'⟩ := append_step hrx hg hfr hb
  refine ⟨f0, h2, f, hall.frx f hp, ownsRow_far hrr f hbk (by decide), ho.fr f ?_ ?_⟩
  · intro hx
    rw [List.mem_singleton] at hx
    have := ho.blk
    rw [hx, hbk] at this
    simp at this
  · intro hx
    rw [List.mem_singleton] at hx
    obtain ⟨es, c, h3, -⟩ := ho.map
    rw [hx, hbk] at h3
    simp at h3

/-- Behind the append to 'refs'. -/
theorem push_refs {w0 w w' : World} {base B k n m gr cr : Nat} {l : List Item} {v vr : Value} {xs ys : List Value} {o : Obj} {bx bm br : Nat} {s : Orc} (hrr : w.ownsRow base 47 1 (.slice (some ⟨gr, 0, none⟩) n cr) n xs) (hrx : w.ownsRow base 24 1 v m ys)
    (hall : AllOk w B k l) (hfr : Fr [] w0 w) (hg : (w.alloc o).grownBy w' (Value.slice (some ⟨gr, 0, none⟩) n cr).ownBlock) (hb : w0.heap.size ≤ base) (ho : Own w bx bm s) (hr : RefAt w br vr s) :
    Fr [] w0 w' ∧ w.heap.size ≤ w'.heap.size ∧ Fr [gr] w w' ∧ AllOk w' B k l ∧ w'.ownsRow base 24 1 v m ys ∧ Own w' bx bm s ∧ RefAt w' br vr s := by
  obtain ⟨cur, hbk⟩ := row_block hrr
  have f : Fr [gr] w w' := ((Fr.refl [gr] w).alloc o).trans ((Fr.grown hg).mono (by simp [Value.ownBlock]))
  have hp : PtrRows w [gr] := by
    intro x hx
    rw [List.mem_singleton] at hx
    subst hx
    exact ⟨cur, 47, _, hbk, Or.inr rfl⟩
  obtain ⟨f0, h2, -⟩ := append_step hrr hg hfr hb
  refine ⟨f0, h2, f, hall.frx f hp, ownsRow_far hrx f hbk (by decide), ho.fr f ?_ ?_, hr.fr f ?_ ?_⟩
  · intro hx
    rw [List.mem_singleton] at hx
    have := ho.blk
    rw [hx, hbk] at this
    simp at this
  · intro hx
    rw [List.mem_singleton] at hx
    obtain ⟨es, c, h3, -⟩ := ho.map
    rw [hx, hbk] at h3
    simp at h3
  · intro hx
    rw [List.mem_singleton] at hx
    have := hr.blk
    rw [hx, hbk] at this
    simp at this
  · intro x hx cs fz e
    rw [List.mem_singleton] at hx
    subst hx
    rw [hbk] at e
    simp at e

set_option maxHeartbeats 40000000 in
set_option maxRecDepth 100000 in
theorem plays_good (F : Int) (ad : Option Addr) (len cap : Nat) (ops : Nat → OpV) (w : World) (h0 : 0 ≤ F) (h1 : F ≤ 1099511627776) (hcut : ∀ w0 : World, Calls Try.prog 10 #[.slice ad len cap, .int .i64 400] w0 fun e w' => e = .returned (.slice ad (min len 400) cap) ∧ w0 = w')
    (hops : ∀ i, i < min len 400 → (ops i).wf ∧ ∃ b off, ad = some ⟨b, off, none⟩ ∧ b < w.heap.size ∧ ∀ j, j < 5 → w.cell? ⟨b, off + i * 5 + j, none⟩ = (ops i).cells[j]?) :
    Calls Try.prog 5 #[.int .i64 F, .slice ad len cap] w fun e w' => e = .returned (.bool true) ∧ Below w.heap.size w w' := by
  obtain ⟨i0, hi, hz0, hz1, hz2⟩ := info_parts info24
  obtain ⟨j0, hjj, hy0, hy1, hy2⟩ := info_parts info47
  have HC := Lib.hid hcut
  have HO := Lib.hid hops
  clear hcut hops
  obtain ⟨n, hn⟩ : ∃ n, min len 400 = n := ⟨_, rfl⟩
  have hn400 : n ≤ 400 := by omega
  rw [hn] at HC HO
  clear hn
  go_enter Try.func5, Try.ntmps5
  go_wp2_with fail
  refine (new_yes F h0 h1).mono ?_
  rintro e w1 ⟨bx, bm, rfl, hbx, hbm, o1, f1⟩
  go_wp2_with fail
  refine (rnew_yes F h0 h1).mono ?_
  rintro e w2 ⟨br, rfl, hbr, r2, f2⟩
  have o2 := o1.fr f2 (by simp) (by simp)
  have f12 := f1.trans f2
  have hbr' := Nat.le_trans f1.size hbr
  clear f1 f2 o1 hbr
  go_wp2_with fail
  refine (known_any _).mono ?_
  rintro e w3 ⟨rfl, f3⟩
  have o3 := o2.fr f3 (by simp) (by simp)
  have r3 := r2.fr f3 (by simp) (NoRow.nil _)
  have f13 := f12.trans f3
  clear f12 f3 o2 r2
  have hall0 : AllOk w3 w.heap.size 0 [⟨bx, bm, br, ⟨F, F, [], 0⟩⟩] := ⟨by
    intro it hit
    rw [List.mem_singleton] at hit
    subst hit
    exact ⟨o3, r3, new_good F h0 h1, Int.le_refl _, hbx, hbm, hbr'⟩, List.pairwise_singleton _ _⟩
  go_wp2_with fail
  refine (HC.out _).mono ?_
  rintro e w' ⟨rfl, rfl⟩
  go_wp2_with fail
  have row1 : ((w3.alloc (.cells #[.pointer (some ⟨bx, 0, none⟩)] 24)).alloc (.cells #[.pointer (some ⟨br, 0, none⟩)] 47)).ownsRow w3.heap.size 24 1 (.slice (some ⟨w3.heap.size, 0, none⟩) 1 1) 1 [.pointer (some ⟨bx, 0, none⟩)] := oneRow (heap_under (heap_top rfl)) (Nat.le_refl _)
  have row2 : ((w3.alloc (.cells #[.pointer (some ⟨bx, 0, none⟩)] 24)).alloc (.cells #[.pointer (some ⟨br, 0, none⟩)] 47)).ownsRow w3.heap.size 47 1 (.slice (some ⟨w3.heap.size + 1, 0, none⟩) 1 1) 1 [.pointer (some ⟨br, 0, none⟩)] := oneRow (heap_top (by simp)) (by omega)
  have fa := ((Fr.refl [] w3).alloc (.cells #[.pointer (some ⟨bx, 0, none⟩)] 24)).alloc (.cells #[.pointer (some ⟨br, 0, none⟩)] 47)
  have hall1 := hall0.fr fa
  have f14 := f13.trans fa
  have hs4 := fa.size
  generalize (w3.alloc (.cells #[.pointer (some ⟨bx, 0, none⟩)] 24)).alloc (.cells #[.pointer (some ⟨br, 0, none⟩)] 47) = w4 at *
  clear hall0 fa o3 r3
  go_loopw [9, 10, 49] (fun a9 a10 i wr => ∃ (k : Nat) (l : List Item), k ≤ n ∧ i = .int .i64 k ∧ 1 ≤ l.length ∧ l.length ≤ 4 ∧ wr.ownsRow w3.heap.size 24 1 a9 l.length (ptrs Item.x l) ∧ wr.ownsRow w3.heap.size 47 1 a10 l.length (ptrs Item.r l) ∧
      AllOk wr w.heap.size k l ∧ Fr [] w wr ∧ w3.heap.size ≤ wr.heap.size)
    (fun _ _ i _ => n - (intOf i).toNat)
  case atStart => exact ⟨0, [⟨bx, bm, br, ⟨F, F, [], 0⟩⟩], by omega, rfl, by simp, by simp, row1, row2, hall1, f14, hs4⟩
  case round =>
    obtain ⟨k, l, hk, rfl, hl1, hl4, hrx, hrr, hall, hfr, hsz⟩ := hrel
    obtain ⟨gx, cx, rfl, hcx, hgx, -, -, -⟩ := row_shape hrx (by omega)
    obtain ⟨gr, cr, rfl, hcr, hgr, -, -, -⟩ := row_shape hrr (by omega)
    clear hall1 row1 row2 hs4
    by_cases hlt : k < n
    · obtain ⟨hwf, b, off, had, hbw, hcs⟩ := HO.out k hlt
      subst had
      have hbf : ∀ j, j < 5 → wr.cell? ⟨b, off + k * 5 + j, none⟩ = (ops k).cells[j]? := fun j hj => (World.cell?_of_block (hfr.block b hbw (by simp))).trans (hcs j hj)
      have hc0 := hbf 0 (by omega)
      have hc1 := hbf 1 (by omega)
      have hc2 := hbf 2 (by omega)
      have hc3 := hbf 3 (by omega)
      have hc4 := hbf 4 (by omega)
      generalize ops k = o at *
      obtain ⟨kd, on, no, t, fm⟩ := o
      simp [OpV.cells] at hc0 hc1 hc2 hc3 hc4
      clear hbf hcs
      obtain ⟨j, hjm⟩ : ∃ j : Nat, on % (l.length : Int) = j := ⟨(on % (l.length : Int)).toNat, by have := Int.emod_nonneg on (b := l.length) (by omega); omega⟩
      have hj : j < l.length := by have := Int.emod_lt_of_pos on (b := l.length) (by omega); omega
      have HJ := Lib.hid hjm
      clear hjm
      go_wp2_with fail
      refine (place_any on l.length _ (by omega) (by omega)).mono ?_
      rintro e w' ⟨rfl, rfl⟩
      rw [HJ.out]
      have hblk := heap_alloc_new wr (.cells #[.int .i64 kd, .int .i64 on, .int .i64 no, .int .i64 t, .bool fm] 32)
      have fo := (Fr.refl [] wr).alloc (.cells #[.int .i64 kd, .int .i64 on, .int .i64 no, .int .i64 t, .bool fm] 32)
      have hall1 := hall.fr fo
      have hrx1 := ownsRow_fr hrx fo (by simp)
      have hrr1 := ownsRow_fr hrr fo (by simp)
      have hfr1 := hfr.trans fo
      have hsz1 := fo.size
      have hbo : wr.heap.size < (wr.alloc (.cells #[.int .i64 kd, .int .i64 on, .int .i64 no, .int .i64 t, .bool fm] 32)).heap.size := by simp
      generalize wr.alloc (.cells #[.int .i64 kd, .int .i64 on, .int .i64 no, .int .i64 t, .bool fm] 32) = w5 at *
      generalize hbo' : wr.heap.size = bo at *
      clear hc0 hc1 hc2 hc3 hc4 hall hrx hrr hfr fo hbo'
      have d0 : w5.cell? ⟨bo, 0, none⟩ = some (.int .i64 kd) := by simp [World.cell?, hblk]
      have ex := ((row_cells hrx1).1 j (by omega)).trans (ptrs_get Item.x l hj)
      have er := ((row_cells hrr1).1 j (by omega)).trans (ptrs_get Item.r l hj)
      have hjo := hall1.each _ (List.getElem_mem hj)
      by_cases hk6 : kd = 6
      · subst hk6
        obtain ⟨vr, hra⟩ := hjo.ref
        go_wp2_with fail
        refine (clone_any hjo.own).mono ?_
        rintro e w6 ⟨bx', bm', rfl, hbx', hbm', o6, f6⟩
        have hall6 := hall1.fr f6
        have hrx6 := ownsRow_fr hrx1 f6 (by simp)
        have hrr6 := ownsRow_fr hrr1 f6 (by simp)
        have hfr6 := hfr1.trans f6
        have hs6 := f6.size
        by_cases hl : l.length < 4
        · have hl' : (l.length : Int) < 4 := by omega
          go_wp2_with (at_builtin; refine wpList_append_own _ rfl _ _ 50 rfl w3.heap.size 24 i0 (.pointer none) 1 8 Try.underlying50 hi hz0 hz1 hz2 rfl (by decide) _ _ _ rfl (hrx6.alloc _) ⟨w6.heap.size, 0, none⟩ 1 1 [.pointer (some ⟨bx', 0, none⟩)] rfl rfl (cell_one_new _ _ _) (by simp [Value.oneCell']) (by unfold maxLen; omega) (by omega) (by simp; omega) ?_; intro v7 w7 hrx7 hg7 _; obtain ⟨hfr7, hs7, f7, hall7, hrr7, o7⟩ := push_all hrx6 hrr6 hall6 hfr6 hg7 f13.size o6; have er7 := ((row_cells hrr7).1 j (by omega)).trans (ptrs_get Item.r l hj))
          obtain ⟨vr7, hra7⟩ := (hall7.each _ (List.getElem_mem hj)).ref
          go_wp2_with fail
          refine (rclone_any hra7).mono ?_
          rintro e w8 ⟨rfl, hra8, f8⟩
          have hall8 := hall7.fr f8
          have hrx8 := ownsRow_fr hrx7 f8 (by simp)
          have hrr8 := ownsRow_fr hrr7 f8 (by simp)
          have hfr8 := hfr7.trans f8
          have hs8 := f8.size
          have o8 := o7.fr f8 (by simp) (by simp)
          go_wp2_with (at_builtin; refine wpList_append_own _ rfl _ _ 51 rfl w3.heap.size 47 j0 (.pointer none) 1 8 Try.underlying51 hjj hy0 hy1 hy2 rfl (by decide) _ _ _ rfl (hrr8.alloc _) ⟨w8.heap.size, 0, none⟩ 1 1 [.pointer (some ⟨w7.heap.size, 0, none⟩)] rfl rfl (cell_one_new _ _ _) (by simp [Value.oneCell']) (by unfold maxLen; omega) (by omega) (by simp; omega) ?_; intro v9 w9 hrr9 hg9 _)
          obtain ⟨hfr9, hs9, f9, hall9, hrx9, o9, hra9⟩ := push_refs hrr8 hrx8 hall8 hfr8 hg9 f13.size o8 hra8
          go_roundw
          case rel =>
            have hnew : Okay w9 w.heap.size k ⟨bx', bm', w7.heap.size, (l[j]).s⟩ := ⟨o9, ⟨_, hra9⟩, hjo.good, hjo.few, by have := hfr1.size; simp only; omega, by have := hfr1.size; simp only; omega, by have := hfr1.size; simp only; omega⟩
            refine ⟨k + 1, l ++ [⟨bx', bm', w7.heap.size, (l[j]).s⟩], by omega, by go_num, by simp, by simp; omega, ?_, ?_, ((hall9.add hall1 hnew hbx' hbm' (by simp only; omega)).mono (by omega)), hfr9, by omega⟩
            · rw [ptrs_snoc]; simpa using hrx9
            · rw [ptrs_snoc]; simpa using hrr9
          case measure => simp [intOf]; omega
        · have hl' : (4 : Int) ≤ (l.length : Int) := by omega
          go_wp2_with fail
          go_roundw
          case rel => exact ⟨k + 1, l, by omega, by go_num, hl1, hl4, hrx6, hrr6, hall6.mono (by omega), hfr6, by omega⟩
          case measure => simp [intOf]; omega
      · have hb6 : (kd == 6) = false := by simpa using hk6
        obtain ⟨vr, hra⟩ := hjo.ref
        have hown := hjo.own
        have hgood := hjo.good
        have hfew := hjo.few
        have HG := Lib.hid hjo.good
        have hklt := hjo.lt
        obtain ⟨curx, hbx1⟩ := row_block hrx1
        obtain ⟨curr, hbr1⟩ := row_block hrr1
        obtain ⟨es1, cl1, hbm1, -⟩ := hown.map
        have nx : gx ∉ [(l[j]).x, (l[j]).m, (l[j]).r] := by
          simp only [List.mem_cons, List.not_mem_nil, or_false]
          rintro (e | e | e)
          · have := hown.blk; rw [← e, hbx1] at this; simp at this
          · rw [← e, hbx1] at hbm1; simp at hbm1
          · have := hra.blk; rw [← e, hbx1] at this; simp at this
        have nr : gr ∉ [(l[j]).x, (l[j]).m, (l[j]).r] := by
          simp only [List.mem_cons, List.not_mem_nil, or_false]
          rintro (e | e | e)
          · have := hown.blk; rw [← e, hbr1] at this; simp at this
          · rw [← e, hbr1] at hbm1; simp at hbm1
          · have := hra.blk; rw [← e, hbr1] at this; simp at this
        have no' : bo ∉ [(l[j]).x, (l[j]).m, (l[j]).r] := by
          simp only [List.mem_cons, List.not_mem_nil, or_false]
          rintro (e | e | e)
          · have := hown.blk; rw [← e, hblk] at this; simp at this
          · rw [← e, hblk] at hbm1; simp at hbm1
          · have := hra.blk; rw [← e, hblk] at this; simp at this
        have d1 : w5.cell? ⟨bo, 1, none⟩ = some (.int .i64 on) := by simp [World.cell?, hblk]
        have d2 : w5.cell? ⟨bo, 2, none⟩ = some (.int .i64 no) := by simp [World.cell?, hblk]
        have d3 : w5.cell? ⟨bo, 3, none⟩ = some (.int .i64 t) := by simp [World.cell?, hblk]
        have d4 : w5.cell? ⟨bo, 4, none⟩ = some (.bool fm) := by simp [World.cell?, hblk]
        have hS : ∀ w', Fr [(l[j]).x, (l[j]).m, (l[j]).r] w5 w' → (w'.cell? ⟨gx, j, none⟩ = some (.pointer (some ⟨(l[j]).x, 0, none⟩)) ∧ w'.cell? ⟨gr, j, none⟩ = some (.pointer (some ⟨(l[j]).r, 0, none⟩)) ∧
            w'.cell? ⟨bo, 0, none⟩ = some (.int .i64 kd) ∧ w'.cell? ⟨bo, 1, none⟩ = some (.int .i64 on) ∧ w'.cell? ⟨bo, 2, none⟩ = some (.int .i64 no) ∧ w'.cell? ⟨bo, 3, none⟩ = some (.int .i64 t) ∧ w'.cell? ⟨bo, 4, none⟩ = some (.bool fm) ∧
            Fr [(l[j]).x, (l[j]).m, (l[j]).r] w5 w') :=
          fun w' f => ⟨f.cell ex nx, f.cell er nr, f.cell d0 no', f.cell d1 no', f.cell d2 no', f.cell d3 no', f.cell d4 no', f⟩
        have HS := Lib.hid hS
        have HA := Lib.hid hall1
        have HX := Lib.hid hrx1
        have HY := Lib.hid hrr1
        have HB : Hid (Both w5 (l[j]).x (l[j]).m (l[j]).r vr (l[j]).s) := ⟨hown, hra, hjo.kinds hjo |>.2.1, hjo.kinds hjo |>.2.2.2.1⟩
        have hj0 : (0 : Int) ≤ (j : Int) := by omega
        have hj1 : (j : Int) < (l.length : Int) := by omega
        go_wp2_with fail
        clear hS nx nr no' ex er d0 d1 d2 d3 d4 hbx1 hbr1 hbm1 hall1 hjo hown hgood hra hrx1 hrr1 hblk
        go_cut [121] (fun a121 wx => ∃ s' : Orc, a121 = .bool false ∧ Own wx (l[j]).x (l[j]).m s' ∧ RefOwn wx (l[j]).r s' ∧ Good s' ∧ s'.made ≤ (k : Int) + 1 ∧ Fr [(l[j]).x, (l[j]).m, (l[j]).r] w5 wx)
        case first =>
          as_aux_lemma =>
          refine wp_region_held_drew (S := fun w' => w'.cell? ⟨gx, j, none⟩ = some (.pointer (some ⟨(l[j]).x, 0, none⟩)) ∧ w'.cell? ⟨gr, j, none⟩ = some (.pointer (some ⟨(l[j]).r, 0, none⟩)) ∧
            w'.cell? ⟨bo, 0, none⟩ = some (.int .i64 kd) ∧ w'.cell? ⟨bo, 1, none⟩ = some (.int .i64 on) ∧ w'.cell? ⟨bo, 2, none⟩ = some (.int .i64 no) ∧ w'.cell? ⟨bo, 3, none⟩ = some (.int .i64 t) ∧ w'.cell? ⟨bo, 4, none⟩ = some (.bool fm) ∧
            Fr [(l[j]).x, (l[j]).m, (l[j]).r] w5 w') (by kernel_rfl) (HS.out _ (Fr.drew (Fr.refl _ _))) (fun hHeld => ?_)
          refine take_lit (i := 0) (v := ?v0) rfl (by kernel_rfl) (by kernel_rfl) (by kernel_rfl) (fun _ _ _ h => h) (Or.inl ⟨by rfl, ?y0⟩) (by assumption) ?r0
          case y0 => intro w hSw; (try dsimp only at hSw); go_simp; (try with_reducible rfl)
          (try simp only [List.setIfInBounds_toArray, List.set_cons_zero, List.set_cons_succ])
          refine take_lit (i := 1) (v := ?v1) rfl (by kernel_rfl) (by kernel_rfl) (by kernel_rfl) (fun _ _ _ h => h) (Or.inl ⟨by rfl, ?y1⟩) (by assumption) ?r1
          case y1 => intro w hSw; (try dsimp only at hSw); go_simp; (try with_reducible rfl)
          (try simp only [List.setIfInBounds_toArray, List.set_cons_zero, List.set_cons_succ])
          refine take_lit (i := 2) (v := ?v2) rfl (by kernel_rfl) (by kernel_rfl) (by kernel_rfl) (fun _ _ _ h => h) (Or.inl ⟨by rfl, ?y2⟩) (by assumption) ?r2
          case y2 => intro w hSw; (try dsimp only at hSw); go_simp; (try with_reducible rfl)
          (try simp only [List.setIfInBounds_toArray, List.set_cons_zero, List.set_cons_succ])
          refine take_lit (i := 3) (v := ?v3) rfl (by kernel_rfl) (by kernel_rfl) (by kernel_rfl) (fun _ _ _ h => h) (Or.inl ⟨by rfl, ?y3⟩) (by assumption) ?r3
          case y3 => intro w hSw; (try dsimp only at hSw); go_simp; (try with_reducible rfl)
          (try simp only [List.setIfInBounds_toArray, List.set_cons_zero, List.set_cons_succ])
          refine take_lit (i := 4) (v := ?v4) rfl (by kernel_rfl) (by kernel_rfl) (by kernel_rfl) (fun _ _ _ h => h) (Or.inl ⟨by rfl, ?y4⟩) (by assumption) ?r4
          case y4 => intro w hSw; (try dsimp only at hSw); go_simp; (try with_reducible rfl)
          (try simp only [List.setIfInBounds_toArray, List.set_cons_zero, List.set_cons_succ])
          refine take_lit (i := 5) (v := ?v5) rfl (by kernel_rfl) (by kernel_rfl) (by kernel_rfl) (fun _ _ _ h => h) (Or.inl ⟨by rfl, ?y5⟩) (by assumption) ?r5
          case y5 => intro w hSw; (try dsimp only at hSw); go_simp; (try with_reducible rfl)
          (try simp only [List.setIfInBounds_toArray, List.set_cons_zero, List.set_cons_succ])
          refine take_lit (i := 6) (v := ?v6) rfl (by kernel_rfl) (by kernel_rfl) (by kernel_rfl) (fun _ _ _ h => h) (Or.inl ⟨by rfl, ?y6⟩) (by assumption) ?r6
          case y6 => intro w hSw; (try dsimp only at hSw); go_simp; (try with_reducible rfl)
          (try simp only [List.setIfInBounds_toArray, List.set_cons_zero, List.set_cons_succ])
          refine take_lit (i := 7) (v := ?v7) rfl (by kernel_rfl) (by kernel_rfl) (by kernel_rfl) (fun _ _ _ h => h) (Or.inl ⟨by rfl, ?y7⟩) (by assumption) ?r7
          case y7 => intro w hSw; (try dsimp only at hSw); go_simp; (try with_reducible rfl)
          (try simp only [List.setIfInBounds_toArray, List.set_cons_zero, List.set_cons_succ])
          refine take_lit (i := 8) (v := ?v8) rfl (by kernel_rfl) (by kernel_rfl) (by kernel_rfl) (fun _ _ _ h => h) (Or.inl ⟨by rfl, ?y8⟩) (by assumption) ?r8
          case y8 => intro w hSw; (try dsimp only at hSw); go_simp; (try with_reducible rfl)
          (try simp only [List.setIfInBounds_toArray, List.set_cons_zero, List.set_cons_succ])
          have hstep := step_any kd on no t fm (HB.out.fr (Fr.drew (Fr.refl [] w5))) HG.out (by omega) hwf
          unfold OpV.cells at hstep
          refine wpAnyH_ready (rs := [9]) (by kernel_rfl) (by simp) ?_
          refine AllReadyH.cons rfl (fun K hK => ?_) AllReadyH.nil
          go_simp
          go_wp2_with (go_at_call 21; refine hstep.mono ?_; rintro e w6 ⟨rfl, s', o6, r6, g6, m6, f6⟩; have F6 : Fr [(l[j]).x, (l[j]).m, (l[j]).r] w5 w6 := (Fr.drew (Fr.refl _ _)).trans f6)
          refine hK.out _ _ (HS.out _ F6) (fun hHeld => ?_)
          clear hK K
          clear hHeld hstep
          obtain ⟨vr6, ra6⟩ := r6
          have R6 := ra6.cells.2.1
          have hS6 : ∀ w', Fr [] w6 w' → (w'.cell? ⟨gx, j, none⟩ = some (.pointer (some ⟨(l[j]).x, 0, none⟩)) ∧ w'.cell? ⟨gr, j, none⟩ = some (.pointer (some ⟨(l[j]).r, 0, none⟩)) ∧ w'.cell? ⟨(l[j]).r, 1, none⟩ = some (.int .i64 s'.read) ∧ Fr [] w6 w') :=
            fun w' f => ⟨f.cell (HS.out _ F6).1 (by simp), f.cell (HS.out _ F6).2.1 (by simp), f.cell R6 (by simp), f⟩
          have HS6 := Lib.hid hS6
          have hb1 : (s'.read != s'.read) = false := by simp
          have hb2 : (leastOf s'.read s'.L != leastOf s'.read s'.L) = false := by simp
          clear hS6 R6
          have hm6 : ∀ w', (w'.cell? ⟨gx, j, none⟩ = some (.pointer (some ⟨(l[j]).x, 0, none⟩)) ∧ w'.cell? ⟨gr, j, none⟩ = some (.pointer (some ⟨(l[j]).r, 0, none⟩)) ∧ w'.cell? ⟨(l[j]).r, 1, none⟩ = some (.int .i64 s'.read) ∧ Fr [] w6 w') → (w'.cell? ⟨gx, j, none⟩ = some (.pointer (some ⟨(l[j]).x, 0, none⟩)) ∧ w'.cell? ⟨gr, j, none⟩ = some (.pointer (some ⟨(l[j]).r, 0, none⟩)) ∧ w'.cell? ⟨bo, 0, none⟩ = some (.int .i64 kd) ∧ w'.cell? ⟨bo, 1, none⟩ = some (.int .i64 on) ∧ w'.cell? ⟨bo, 2, none⟩ = some (.int .i64 no) ∧ w'.cell? ⟨bo, 3, none⟩ = some (.int .i64 t) ∧ w'.cell? ⟨bo, 4, none⟩ = some (.bool fm) ∧ Fr [(l[j]).x, (l[j]).m, (l[j]).r] w5 w') := fun w' h => HS.out _ (F6.trans h.2.2.2.nil)
          refine wpAnyH_mono (S' := fun w' => w'.cell? ⟨gx, j, none⟩ = some (.pointer (some ⟨(l[j]).x, 0, none⟩)) ∧ w'.cell? ⟨gr, j, none⟩ = some (.pointer (some ⟨(l[j]).r, 0, none⟩)) ∧ w'.cell? ⟨(l[j]).r, 1, none⟩ = some (.int .i64 s'.read) ∧ Fr [] w6 w') hm6 _ _ _ _ ?_
          clear hm6
          have hHeld : (fun w' => w'.cell? ⟨gx, j, none⟩ = some (.pointer (some ⟨(l[j]).x, 0, none⟩)) ∧ w'.cell? ⟨gr, j, none⟩ = some (.pointer (some ⟨(l[j]).r, 0, none⟩)) ∧ w'.cell? ⟨(l[j]).r, 1, none⟩ = some (.int .i64 s'.read) ∧ Fr [] w6 w') w6 := HS6.out _ (Fr.refl _ _)
          refine take_lit (i := 10) (v := ?v10) rfl (by kernel_rfl) (by kernel_rfl) (by kernel_rfl) (fun _ _ _ h => h) (Or.inl ⟨by rfl, ?y10⟩) (by assumption) ?r10
          case y10 => intro w hSw; (try dsimp only at hSw); go_simp; (try with_reducible rfl)
          (try simp only [List.setIfInBounds_toArray, List.set_cons_zero, List.set_cons_succ])
          refine take_lit (i := 11) (v := ?v11) rfl (by kernel_rfl) (by kernel_rfl) (by kernel_rfl) (fun _ _ _ h => h) (Or.inl ⟨by rfl, ?y11⟩) (by assumption) ?r11
          case y11 => intro w hSw; (try dsimp only at hSw); go_simp; (try with_reducible rfl)
          (try simp only [List.setIfInBounds_toArray, List.set_cons_zero, List.set_cons_succ])
          refine take_lit (i := 12) (v := ?v12) rfl (by kernel_rfl) (by kernel_rfl) (by kernel_rfl) (fun _ _ _ h => h) (Or.inl ⟨by rfl, ?y12⟩) (by assumption) ?r12
          case y12 => intro w hSw; (try dsimp only at hSw); go_simp; (try with_reducible rfl)
          (try simp only [List.setIfInBounds_toArray, List.set_cons_zero, List.set_cons_succ])
          refine take_lit (i := 13) (v := ?v13) rfl (by kernel_rfl) (by kernel_rfl) (by kernel_rfl) (fun _ _ _ h => h) (Or.inl ⟨by rfl, ?y13⟩) (by assumption) ?r13
          case y13 => intro w hSw; (try dsimp only at hSw); go_simp; (try with_reducible rfl)
          (try simp only [List.setIfInBounds_toArray, List.set_cons_zero, List.set_cons_succ])
          refine take_lit (i := 14) (v := ?v14) rfl (by kernel_rfl) (by kernel_rfl) (by kernel_rfl) (fun _ _ _ h => h) (Or.inl ⟨by rfl, ?y14⟩) (by assumption) ?r14
          case y14 => intro w hSw; (try dsimp only at hSw); go_simp; (try with_reducible rfl)
          (try simp only [List.setIfInBounds_toArray, List.set_cons_zero, List.set_cons_succ])
          refine take_lit (i := 15) (v := ?v15) rfl (by kernel_rfl) (by kernel_rfl) (by kernel_rfl) (fun _ _ _ h => h) (Or.inl ⟨by rfl, ?y15⟩) (by assumption) ?r15
          case y15 => intro w hSw; (try dsimp only at hSw); go_simp; (try with_reducible rfl)
          (try simp only [List.setIfInBounds_toArray, List.set_cons_zero, List.set_cons_succ])
          refine take_lit (i := 17) (v := ?v17) rfl (by kernel_rfl) (by kernel_rfl) (by kernel_rfl) (fun _ _ _ h => h) (Or.inl ⟨by rfl, ?y17⟩) (by assumption) ?r17
          case y17 => intro w hSw; (try dsimp only at hSw); go_simp; (try with_reducible rfl)
          (try simp only [List.setIfInBounds_toArray, List.set_cons_zero, List.set_cons_succ])
          refine take_lit (i := 18) (v := ?v18) rfl (by kernel_rfl) (by kernel_rfl) (by kernel_rfl) (fun _ _ _ h => h) (Or.inl ⟨by rfl, ?y18⟩) (by assumption) ?r18
          case y18 => intro w hSw; (try dsimp only at hSw); go_simp; (try with_reducible rfl)
          (try simp only [List.setIfInBounds_toArray, List.set_cons_zero, List.set_cons_succ])
          refine take_lit (i := 19) (v := ?v19) rfl (by kernel_rfl) (by kernel_rfl) (by kernel_rfl) (fun _ _ _ h => h) (Or.inl ⟨by rfl, ?y19⟩) (by assumption) ?r19
          case y19 => intro w hSw; (try dsimp only at hSw); go_simp; (try with_reducible rfl)
          (try simp only [List.setIfInBounds_toArray, List.set_cons_zero, List.set_cons_succ])
          refine take_lit (i := 20) (v := ?v20) rfl (by kernel_rfl) (by kernel_rfl) (by kernel_rfl) (fun _ _ _ h => h) (Or.inl ⟨by rfl, ?y20⟩) (by assumption) ?r20
          case y20 => intro w hSw; (try dsimp only at hSw); go_simp; (try with_reducible rfl)
          (try simp only [List.setIfInBounds_toArray, List.set_cons_zero, List.set_cons_succ])
          refine take_lit (i := 21) (v := ?v21) rfl (by kernel_rfl) (by kernel_rfl) (by kernel_rfl) (fun _ _ _ h => h) (Or.inl ⟨by rfl, ?y21⟩) (by assumption) ?r21
          case y21 => intro w hSw; (try dsimp only at hSw); go_simp; (try with_reducible rfl)
          (try simp only [List.setIfInBounds_toArray, List.set_cons_zero, List.set_cons_succ])
          refine take_lit (i := 22) (v := ?v22) rfl (by kernel_rfl) (by kernel_rfl) (by kernel_rfl) (fun _ _ _ h => h) (Or.inl ⟨by rfl, ?y22⟩) (by assumption) ?r22
          case y22 => intro w hSw; (try dsimp only at hSw); go_simp; (try with_reducible rfl)
          (try simp only [List.setIfInBounds_toArray, List.set_cons_zero, List.set_cons_succ])
          refine take_lit (i := 23) (v := ?v23) rfl (by kernel_rfl) (by kernel_rfl) (by kernel_rfl) (fun _ _ _ h => h) (Or.inl ⟨by rfl, ?y23⟩) (by assumption) ?r23
          case y23 => intro w hSw; (try dsimp only at hSw); go_simp; (try with_reducible rfl)
          (try simp only [List.setIfInBounds_toArray, List.set_cons_zero, List.set_cons_succ])
          refine wpAnyH_ready (rs := [16]) (by kernel_rfl) (by simp) ?_
          refine AllReadyH.cons rfl (fun K hK => ?_) AllReadyH.nil
          go_simp
          go_wp2_with (go_at_call 8; refine (read_any o6).mono ?_; rintro e w' ⟨rfl, rfl⟩)
          refine hK.out _ _ (HS6.out _ (Fr.refl _ _)) (fun hHeld => ?_)
          clear hK K
          refine take_lit (i := 24) (v := ?v24) rfl (by kernel_rfl) (by kernel_rfl) (by kernel_rfl) (fun _ _ _ h => h) (Or.inl ⟨by rfl, ?y24⟩) (by assumption) ?r24
          case y24 => intro w hSw; (try dsimp only at hSw); go_simp; (try with_reducible rfl)
          (try simp only [List.setIfInBounds_toArray, List.set_cons_zero, List.set_cons_succ])
          refine take_lit (i := 25) (v := ?v25) rfl (by kernel_rfl) (by kernel_rfl) (by kernel_rfl) (fun _ _ _ h => h) (Or.inl ⟨by rfl, ?y25⟩) (by assumption) ?r25
          case y25 => intro w hSw; (try dsimp only at hSw); go_simp; (try with_reducible rfl)
          (try simp only [List.setIfInBounds_toArray, List.set_cons_zero, List.set_cons_succ])
          refine take_lit (i := 26) (v := ?v26) rfl (by kernel_rfl) (by kernel_rfl) (by kernel_rfl) (fun _ _ _ h => h) (Or.inl ⟨by rfl, ?y26⟩) (by assumption) ?r26
          case y26 => intro w hSw; (try dsimp only at hSw); go_simp; (try with_reducible rfl)
          (try simp only [List.setIfInBounds_toArray, List.set_cons_zero, List.set_cons_succ])
          refine take_lit (i := 27) (v := ?v27) rfl (by kernel_rfl) (by kernel_rfl) (by kernel_rfl) (fun _ _ _ h => h) (Or.inl ⟨by rfl, ?y27⟩) (by assumption) ?r27
          case y27 => intro w hSw; (try dsimp only at hSw); go_simp; (try with_reducible rfl)
          (try simp only [List.setIfInBounds_toArray, List.set_cons_zero, List.set_cons_succ])
          refine take_lit (i := 28) (v := ?v28) rfl (by kernel_rfl) (by kernel_rfl) (by kernel_rfl) (fun _ _ _ h => h) (Or.inl ⟨by rfl, ?y28⟩) (by assumption) ?r28
          case y28 => intro w hSw; (try dsimp only at hSw); go_simp; (try with_reducible rfl)
          (try simp only [List.setIfInBounds_toArray, List.set_cons_zero, List.set_cons_succ])
          refine take_lit (i := 29) (v := ?v29) rfl (by kernel_rfl) (by kernel_rfl) (by kernel_rfl) (fun _ _ _ h => h) (Or.inl ⟨by rfl, ?y29⟩) (by assumption) ?r29
          case y29 => intro w hSw; (try dsimp only at hSw); go_simp; (try with_reducible rfl)
          (try simp only [List.setIfInBounds_toArray, List.set_cons_zero, List.set_cons_succ])
          refine take_lit (i := 30) (v := ?v30) rfl (by kernel_rfl) (by kernel_rfl) (by kernel_rfl) (fun _ _ _ h => h) (Or.inl ⟨by rfl, ?y30⟩) (by assumption) ?r30
          case y30 => intro w hSw; (try dsimp only at hSw); go_simp; (try with_reducible rfl)
          (try simp only [List.setIfInBounds_toArray, List.set_cons_zero, List.set_cons_succ])
          refine take_lit (i := 32) (v := ?v32) rfl (by kernel_rfl) (by kernel_rfl) (by kernel_rfl) (fun _ _ _ h => h) (Or.inl ⟨by rfl, ?y32⟩) (by assumption) ?r32
          case y32 => intro w hSw; (try dsimp only at hSw); go_simp; (try with_reducible rfl)
          (try simp only [List.setIfInBounds_toArray, List.set_cons_zero, List.set_cons_succ])
          refine take_lit (i := 33) (v := ?v33) rfl (by kernel_rfl) (by kernel_rfl) (by kernel_rfl) (fun _ _ _ h => h) (Or.inl ⟨by rfl, ?y33⟩) (by assumption) ?r33
          case y33 => intro w hSw; (try dsimp only at hSw); go_simp; (try with_reducible rfl)
          (try simp only [List.setIfInBounds_toArray, List.set_cons_zero, List.set_cons_succ])
          refine take_lit (i := 34) (v := ?v34) rfl (by kernel_rfl) (by kernel_rfl) (by kernel_rfl) (fun _ _ _ h => h) (Or.inl ⟨by rfl, ?y34⟩) (by assumption) ?r34
          case y34 => intro w hSw; (try dsimp only at hSw); go_simp; (try with_reducible rfl)
          (try simp only [List.setIfInBounds_toArray, List.set_cons_zero, List.set_cons_succ])
          refine take_lit (i := 35) (v := ?v35) rfl (by kernel_rfl) (by kernel_rfl) (by kernel_rfl) (fun _ _ _ h => h) (Or.inl ⟨by rfl, ?y35⟩) (by assumption) ?r35
          case y35 => intro w hSw; (try dsimp only at hSw); go_simp; (try with_reducible rfl)
          (try simp only [List.setIfInBounds_toArray, List.set_cons_zero, List.set_cons_succ])
          refine wpAnyH_ready (rs := [31]) (by kernel_rfl) (by simp) ?_
          refine AllReadyH.cons rfl (fun K hK => ?_) AllReadyH.nil
          go_simp
          go_wp2_with (go_at_call 9; refine (least_any o6 g6).mono ?_; rintro e w7 ⟨rfl, f7⟩)
          refine hK.out _ _ (HS6.out _ f7) (fun hHeld => ?_)
          clear hK K
          refine wpAnyH_ready (rs := [36]) (by kernel_rfl) (by simp) ?_
          refine AllReadyH.cons rfl (fun K hK => ?_) AllReadyH.nil
          go_simp
          go_wp2_with (go_at_call 22; refine (rleast_any (ra6.fr f7 (by simp) (NoRow.nil _)) g6).mono ?_; rintro e w8 ⟨rfl, f8⟩)
          refine hK.out _ _ (HS6.out _ (f7.trans f8)) (fun hHeld => ?_)
          clear hK K
          refine take_lit (i := 37) (v := ?v37) rfl (by kernel_rfl) (by kernel_rfl) (by kernel_rfl) (fun _ _ _ h => h) (Or.inl ⟨by rfl, ?y37⟩) (by assumption) ?r37
          case y37 => intro w hSw; (try dsimp only at hSw); go_simp; (try with_reducible rfl)
          (try simp only [List.setIfInBounds_toArray, List.set_cons_zero, List.set_cons_succ])
          refine take_lit (i := 38) (v := ?v38) rfl (by kernel_rfl) (by kernel_rfl) (by kernel_rfl) (fun _ _ _ h => h) (Or.inl ⟨by rfl, ?y38⟩) (by assumption) ?r38
          case y38 => intro w hSw; (try dsimp only at hSw); go_simp; (try with_reducible rfl)
          (try simp only [List.setIfInBounds_toArray, List.set_cons_zero, List.set_cons_succ])
          refine wpAnyH_done (by kernel_rfl) ?_ _
          go_wp2_with fail
          go_meet
          have f68 := f7.trans f8
          exact ⟨s', by simp, o6.fr f68 (by simp) (by simp), ⟨vr6, ra6.fr f68 (by simp) (NoRow.nil _)⟩, g6, by omega, F6.trans f68.nil⟩
        case rest =>
          generalize wc = w6 at *
          obtain ⟨s', rfl, o6, r6, g6, m6, f6⟩ := hcut
          go_wp2_with fail
          go_roundw
          case rel =>
            have hf : Fr [] w w6 := hfr1.past f6 (by
              have h3 := HA.out.each _ (List.getElem_mem hj)
              intro y hy
              simp only [List.mem_cons, List.not_mem_nil, or_false] at hy
              left
              rcases hy with rfl | rfl | rfl
              · exact h3.bx
              · exact h3.bm
              · exact h3.br)
            refine ⟨k + 1, l.set j { l[j] with s := s' }, by omega, by go_num, by simpa using hl1, by simpa using hl4, ?_, ?_, HA.out.step hj o6 r6 g6 (by omega) f6, hf, by have := f6.size; omega⟩
            · rw [ptrs_set Item.x l hj (it := { l[j] with s := s' }) rfl, List.length_set]
              exact ownsRow_beside HX.out (HA.out.each _ (List.getElem_mem hj)) (Or.inl rfl) f6
            · rw [ptrs_set Item.r l hj (it := { l[j] with s := s' }) rfl, List.length_set]
              exact ownsRow_beside HY.out (HA.out.each _ (List.getElem_mem hj)) (Or.inr rfl) f6
          case measure => simp [intOf]; omega
    · obtain rfl : k = n := by omega
      go_wp2_with fail
      obtain ⟨wo, rfl⟩ : ∃ wo : World, wo = wr := ⟨_, rfl⟩
      go_loopw [125] (fun i wr => ∃ q : Nat, q ≤ l.length ∧ i = .int .i64 q ∧ Fr [] wo wr)
        (fun i _ => l.length - (intOf i).toNat)
      case atStart => exact ⟨0, by omega, rfl, Fr.refl _ _⟩
      case round =>
        obtain ⟨q, hq, rfl, hfq⟩ := hrel
        by_cases hlq : q < l.length
        · have hrx1 := ownsRow_fr hrx hfq (by simp)
          have hrr1 := ownsRow_fr hrr hfq (by simp)
          have ex := ((row_cells hrx1).1 q (by omega)).trans (ptrs_get Item.x l hlq)
          have er := ((row_cells hrr1).1 q (by omega)).trans (ptrs_get Item.r l hlq)
          have hall1 := hall.fr hfq
          have hjo := hall1.each _ (List.getElem_mem hlq)
          have hown := hjo.own
          have hgood := hjo.good
          obtain ⟨vr, hra⟩ := hjo.ref
          have hR := hra.cells.2.1
          generalize l[q] = it at *
          have hS : ∀ w', Fr [] wr w' → (w'.cell? ⟨gx, q, none⟩ = some (.pointer (some ⟨it.x, 0, none⟩)) ∧ w'.cell? ⟨gr, q, none⟩ = some (.pointer (some ⟨it.r, 0, none⟩)) ∧ w'.cell? ⟨it.r, 1, none⟩ = some (.int .i64 it.s.read) ∧ Fr [] wr w') :=
            fun w' f => ⟨f.cell ex (by simp), f.cell er (by simp), f.cell hR (by simp), f⟩
          have HS := Lib.hid hS
          have hb1 : (it.s.read != it.s.read) = false := by simp
          have hb2 : (leastOf it.s.read it.s.L != leastOf it.s.read it.s.L) = false := by simp
          have hq1 : (q : Int) < (l.length : Int) := by omega
          have hq0 : (0 : Int) ≤ (q : Int) := by omega
          clear hS
          go_wp2_with fail
          clear ex er hR
          go_cut [153] (fun a153 wx => a153 = .bool false ∧ Fr [] wr wx)
          case first =>
            go_region_held3 (fun w' => w'.cell? ⟨gx, q, none⟩ = some (.pointer (some ⟨it.x, 0, none⟩)) ∧ w'.cell? ⟨gr, q, none⟩ = some (.pointer (some ⟨it.r, 0, none⟩)) ∧ w'.cell? ⟨it.r, 1, none⟩ = some (.int .i64 it.s.read) ∧ Fr [] wr w')
              (first
                | exact HS.out _ (Fr.drew (Fr.refl _ _))
                | (go_split_ands; exact HS.out _ (by assumption))
                | (go_split_ands; exact HS.out _ (Fr.trans (by assumption) f6))
                | (go_split_ands; exact HS.out _ (Fr.trans (by assumption) f7)))
              (first
                | (go_at_call 8; go_split_ands; refine (read_any (hown.fr (by assumption) (by simp) (by simp))).mono ?_; rintro e w6 ⟨rfl, rfl⟩)
                | (go_at_call 9; go_split_ands; refine (least_any (hown.fr (by assumption) (by simp) (by simp)) hgood).mono ?_; rintro e w6 ⟨rfl, f6⟩)
                | (go_at_call 22; go_split_ands; refine (rleast_any (hra.fr (by assumption) (by simp) (NoRow.nil _)) hgood).mono ?_; rintro e w7 ⟨rfl, f7⟩))
            all_goals (go_wp2_with fail; go_meet; go_split_ands; refine ⟨?_, by assumption⟩; simp; done)
          case rest =>
            obtain ⟨rfl, hfc⟩ := hcut
            go_wp2_with fail
            go_roundw
            case rel => exact ⟨q + 1, by omega, by go_num, hfq.trans hfc⟩
            case measure => simp [intOf]; omega
        · obtain rfl : q = l.length := by omega
          go_wp2_with fail
          go_ret
          exact ⟨rfl, (hfr.trans hfq).below (Nat.le_refl _) (by simp)⟩

end Go.Proofs.Ytdmhiefjmejfpaa
