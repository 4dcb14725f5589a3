/- The walk of ZsetOrder. No condition but the sizes. -/
import Derived.Test.YtmionipeoffnhaaUf
import Derived.Deep.RegionHeld3
namespace Go.Proofs.Ytmionipeoffnhaa
open Go.RowKit srt grp

/-- A row of updates is in no block of counted rows, and the other way round. -/
theorem ownU_far {w w' : World} {b1 b2 n m : Nat} {v x : Value} {xs ys : List Value} (h : w.ownsRow b1 41 3 v n xs) (ho : w.ownsRow b2 31 2 x m ys) (hg : w.grownBy w' x.ownBlock) : w'.ownsRow b1 41 3 v n xs := by
  obtain ⟨h1, h2⟩ := h
  refine ⟨h1, ?_⟩
  rcases h2 with h2 | ⟨g, cap, cur, hv, hb, hh, r⟩
  · exact Or.inl h2
  · have hlt : g < w.heap.size := (Array.getElem?_eq_some_iff.1 hh).1
    refine Or.inr ⟨g, cap, cur, hv, hb, ?_, r⟩
    rw [hg.block g hlt (fun e => ?_)]
    · exact hh
    · rcases ho.2 with ⟨rfl, -⟩ | ⟨g2, c2, cur2, rfl, -, h2, -⟩
      · simp [Value.ownBlock] at e
      · simp only [Value.ownBlock, Option.some.injEq] at e
        subst e
        rw [h2] at hh
        simp at hh
theorem ownC_far {w w' : World} {b1 b2 n m : Nat} {v x : Value} {xs ys : List Value} (h : w.ownsRow b1 31 2 v n xs) (ho : w.ownsRow b2 41 3 x m ys) (hg : w.grownBy w' x.ownBlock) : w'.ownsRow b1 31 2 v n xs := by
  obtain ⟨h1, h2⟩ := h
  refine ⟨h1, ?_⟩
  rcases h2 with h2 | ⟨g, cap, cur, hv, hb, hh, r⟩
  · exact Or.inl h2
  · have hlt : g < w.heap.size := (Array.getElem?_eq_some_iff.1 hh).1
    refine Or.inr ⟨g, cap, cur, hv, hb, ?_, r⟩
    rw [hg.block g hlt (fun e => ?_)]
    · exact hh
    · rcases ho.2 with ⟨rfl, -⟩ | ⟨g2, c2, cur2, rfl, -, h2, -⟩
      · simp [Value.ownBlock] at e
      · simp only [Value.ownBlock, Option.some.injEq] at e
        subst e
        rw [h2] at hh
        simp at hh

/-- A counted row, at a time. -/
def toU (t : Int) (e : El) : upd.El := ⟨e.ra, e.rl, e.rc, t, e.n, e.rd⟩
/-- A counted row, cut into two. -/
def halves (e : El) : List El := [{ e with n := Int.tdiv e.n 2 }, { e with n := e.n - Int.tdiv e.n 2 }]

/-- Behind the first loop's rounds: j are still to come. -/
def OrdR (w : World) (sx : List El) (t : Int) (x y z : Value) (wr : World) : Prop :=
  ∃ (j : Nat) (A : List El) (D : List upd.El), z = .int .i64 ((j : Int) - 1) ∧ j ≤ sx.length ∧ Fr [] w wr ∧ wr.ownsRow w.heap.size 31 2 x A.length (elsC A) ∧ wr.ownsRow w.heap.size 41 3 y D.length (upd.elsC D) ∧
    A.length ≤ 120 ∧ D.length ≤ 60 ∧ Hid (A = (sx.drop j).reverse.flatMap halves ∧ D = (sx.drop j).reverse.map (toU t))
theorem halves_len (l : List El) : (l.flatMap halves).length = l.length * 2 := by
  induction l with
  | nil => rfl
  | cons e l ih => rw [List.flatMap_cons, List.length_append, ih]; simp [halves]; omega

theorem drop_rev (sx : List El) (j : Nat) (h : j < sx.length) : (sx.drop j).reverse = (sx.drop (j + 1)).reverse ++ [nth sx j] := by
  have e : sx[j] = nth sx j := by
    have := nth_at h; rw [List.getElem?_eq_getElem h] at this; exact Option.some.inj this
  rw [List.drop_eq_getElem_cons h, List.reverse_cons, e]

theorem sum_rev (l : List El) (r : List Dt) : sumK (l.reverse.map pr) r = sumK (l.map pr) r := by
  rw [List.map_reverse]; exact sumK_perm (List.reverse_perm _) r
theorem sum_halves (l : List El) (r : List Dt) : sumK ((l.flatMap halves).map pr) r = sumK (l.map pr) r := by
  induction l with
  | nil => rfl
  | cons e l ih =>
    rw [List.flatMap_cons, List.map_append, sumK_append, ih, List.map_cons, sumK_cons]
    simp only [halves, List.map_cons, List.map_nil, sumK_cons, sumK_nil, pr]
    generalize Int.tdiv e.n 2 = hv
    by_cases h : e.rd = r
    · simp only [h, if_true]; omega
    · simp only [h, if_false]; omega
theorem toC_toU (t : Int) (e : El) : toC (toU t e) = e := rfl
theorem atL_all (l : List El) {t t' : Int} (h : t ≤ t') : atL (l.map (toU t)) t' = l := by
  unfold atL
  rw [List.filter_eq_self.2 (fun e he => by obtain ⟨e0, -, rfl⟩ := List.mem_map.1 he; exact decide_eq_true h), List.map_map]
  exact List.map_id' l
theorem atL_none (l : List El) {t t' : Int} (h : ¬ t ≤ t') : atL (l.map (toU t)) t' = [] := by
  unfold atL
  rw [List.filter_eq_nil_iff.2 (fun e he => by obtain ⟨e0, -, rfl⟩ := List.mem_map.1 he; exact fun hx => h (of_decide_eq_true hx))]
  rfl
theorem sumU (l : List El) (t : Int) (q : Int × List Dt) : sumK ((l.map (toU t)).map upd.pr) q = if t = q.1 then sumK (l.map pr) q.2 else 0 := by
  induction l with
  | nil => simp [sumK_nil]
  | cons e l ih =>
    rw [List.map_cons, List.map_cons, sumK_cons, ih, List.map_cons, sumK_cons]
    by_cases h : t = q.1
    · rw [if_pos h, if_pos h]
      by_cases h2 : e.rd = q.2
      · rw [if_pos (show (upd.pr (toU t e)).1 = q from Prod.ext h h2), if_pos (show (pr e).1 = q.2 from h2)]; rfl
      · rw [if_neg (show ¬ (upd.pr (toU t e)).1 = q from fun x => h2 (congrArg Prod.snd x)), if_neg (show ¬ (pr e).1 = q.2 from h2)]
    · rw [if_neg h, if_neg h, if_neg (show ¬ (upd.pr (toU t e)).1 = q from fun x => h (congrArg Prod.fst x))]; rfl
/-- What is told at one time. -/
theorem canonU {os : List (List Dt × Int)} {S : List Dt → Int} (h : Canon cmpR os S) (t : Int) : Canon upd.cmpU (os.map fun p => ((t, p.1), p.2)) (fun q => if t = q.1 then S q.2 else 0) := by
  refine ⟨List.pairwise_map.2 (h.up.imp fun {a b} hab => ?_), fun p hp => ?_, fun q => ?_⟩
  · unfold upd.cmpU
    rw [if_neg (by simp [cmpI_self])]
    exact hab
  · obtain ⟨p0, h0, rfl⟩ := List.mem_map.1 hp
    exact h.nz p0 h0
  · rw [← h.sum]
    clear h
    induction os with
    | nil => simp [sumK_nil]
    | cons p os ih =>
      rw [List.map_cons, sumK_cons, ih, sumK_cons]
      by_cases h : t = q.1
      · rw [if_pos h, if_pos h]
        by_cases h2 : p.1 = q.2
        · rw [if_pos (show (t, p.1) = q from Prod.ext h h2), if_pos h2]
        · rw [if_neg (show ¬ (t, p.1) = q from fun x => h2 (congrArg Prod.snd x)), if_neg h2]
      · rw [if_neg h, if_neg h, if_neg (show ¬ (t, p.1) = q from fun x => h (congrArg Prod.fst x))]; rfl

/-- What the lists are to one another. -/
theorem order_plain {sx l1 l2 l5 : List El} {l3 l4 : List upd.El} {A B : List El} {D U : List upd.El} {t : Int} (hA : A = sx.reverse.flatMap halves) (hD : D = sx.reverse.map (toU t)) (hU : U = sx.map (toU t)) (hB : B = sx.reverse)
    (n1 : Canon cmpR (l1.map pr) fun r => 1 * sumK (sx.map pr) r) (n2 : Canon cmpR (l2.map pr) fun r => 1 * sumK (A.map pr) r)
    (n3 : Canon upd.cmpU (l3.map upd.pr) fun r => 1 * sumK (U.map upd.pr) r) (n4 : Canon upd.cmpU (l4.map upd.pr) fun r => 1 * sumK (D.map upd.pr) r) (n5 : Canon cmpR (l5.map pr) fun r => 1 * sumK (B.map pr) r) :
    l1.map pr = l2.map pr ∧ l3.map upd.pr = l4.map upd.pr ∧ l5.map pr = l1.map pr ∧ l3.length = l1.length := by
  subst hA hD hU hB
  refine ⟨n1.uniq cmpRS (n2.of fun r => by rw [sum_halves, sum_rev]), n3.uniq upd.cmpUS (n4.of fun q => by rw [sumU, sumU, sum_rev]), n5.uniq cmpRS (n1.of fun r => by rw [sum_rev]), ?_⟩
  have h := n3.uniq upd.cmpUS ((canonU n1 t).of fun q => by rw [sumU]; split <;> omega)
  have := congrArg List.length h
  simpa using this

theorem half_bound (n : Int) : n - 1 ≤ 2 * n.tdiv 2 ∧ 2 * n.tdiv 2 ≤ n + 1 := by
  have h1 := Int.mul_tdiv_add_tmod n 2
  have h3 := Int.tmod_lt_of_pos n (show (0 : Int) < 2 by decide)
  have h4 := Int.lt_tmod_of_pos n (show (0 : Int) < 2 by decide)
  omega
theorem small_n (l : List El) : ∀ e ∈ smL l, -1000000 < e.n ∧ e.n < 1000000 := fun e he => by
  obtain ⟨e0, -, rfl⟩ := List.mem_map.1 he
  simp only [sm]
  have h3 := Int.tmod_lt_of_pos e0.n (show (0 : Int) < 1000000 by decide)
  have h4 := Int.lt_tmod_of_pos e0.n (show (0 : Int) < 1000000 by decide)
  exact ⟨h4, h3⟩

set_option maxRecDepth 100000
set_option maxHeartbeats 6400000 in
theorem order_walk {w : World} {a0 : Option Addr} {c0 : Nat} {lx : List El} {t : Int} (hx : Cts w (.slice a0 lx.length c0) lx) (hcx : lx.length ≤ c0) (hax : a0 = none → c0 = 0) (hmx : c0 ≤ 9223372036854775807) (ht : -9223372036854775808 ≤ t ∧ t ≤ 9223372036854775807) :
    Calls Try.prog 5 #[.slice a0 lx.length c0, .int .i64 t] w fun e w' => e = .returned (.bool true) ∧ Fr [] w w' := by
  obtain ⟨i0, hi, hz0, hz1, hz2⟩ := info_parts infoC
  obtain ⟨i1, hj, hy0, hy1, hy2⟩ := info_parts upd.infoU
  have SX := Lib.hid (small_at hx hcx hax hmx)
  have BX := Lib.hid (small_bound lx)
  have RX := Lib.hid (small_rows hx)
  have NX := Lib.hid (small_n lx)
  have q1 := smL_len lx
  clear hx hcx hax hmx
  generalize hsx : smL lx = sx at *
  go_enter Try.func5, Try.ntmps5
  go_upto_region 4 with (first
    | (go_at_call 22; refine (alive_any _).mono ?_; rintro e wk ⟨rfl, fk⟩)
    | (go_at_call 18; refine (SX.out _ fk).mono ?_; rintro e w0 ⟨x0, y0, rfl, g1, s1⟩; rw [hsx] at s1))
  have T := Lib.hid (fk.trans g1)
  have K0 := Lib.hid s1
  clear fk g1 s1 SX
  go_wp2_with fail
  go_loopw [6, 8, 9] (fun x y z wr => OrdR w0 sx t x y z wr) (fun _ _ z _ => (intOf z + 1).toNat)
  case atStart => exact ⟨sx.length, [], [], rfl, Nat.le_refl _, Fr.refl _ _, World.ownsRow_nil _ _ _ _, World.ownsRow_nil _ _ _ _, by simp, by simp, Lib.hid (by rw [List.drop_length]; exact ⟨rfl, rfl⟩)⟩
  case round =>
    obtain ⟨j, A, D, rfl, hj2, hf, ho1, ho2, hA, hD, HAD⟩ := hrel
    by_cases hlt : 0 < j
    · as_aux_lemma =>
      obtain ⟨k, rfl⟩ : ∃ k, j = k + 1 := ⟨j - 1, by omega⟩
      have hbl : ∀ b off, x0 = some ⟨b, off, none⟩ → 0 < sx.length → b < w0.heap.size := fun b off e h => by
        obtain ⟨b', off', e', c0, -⟩ := K0.out.cell (k := 0) h
        rw [e] at e'
        cases e'
        exact World.block_lt_of_cell? w0 _ c0
      obtain ⟨b, off, e1, z0, z1⟩ := (K0.out.fr hf).cell (show k < sx.length by omega)
      have hb0 := hbl b off e1 (by omega)
      clear hbl
      subst e1
      have hdr := drop_rev sx k (by omega)
      have hn2 := NX.out _ (nth_mem (show k < sx.length by omega))
      have hhb := half_bound (nth sx k).n
      obtain ⟨va, vc, rfl⟩ := ownsRow_shape ho1
      obtain ⟨vb, vd, rfl⟩ := ownsRow_shape ho2
      have HF := Lib.hid hf
      have hsz := hf.size
      have HO1 := Lib.hid ho1
      have HO2 := Lib.hid ho2
      have HDr := Lib.hid hdr
      have k1 : IntKind.i64.wrap (k : Int) = (k : Int) := by rw [IntKind.wrap_i64]; omega
      have k2 : (k : Int) < (sx.length : Int) := by omega
      clear hf ho1 ho2 hdr
      go_upto_region 10 with fail
      generalize hh : (nth sx k).n.tdiv 2 = hv at *
      have HH := Lib.hid hh
      clear hh
      have k3 : IntKind.i64.wrap ((nth sx k).n - hv) = (nth sx k).n - hv := by rw [IntKind.wrap_i64]; omega
      go_region_held3 (fun w' => w'.cell? ⟨b, off + k * 2, none⟩ = some (.slice (nth sx k).ra (nth sx k).rl (nth sx k).rc) ∧ w'.cell? ⟨b, off + k * 2 + 1, none⟩ = some (.int .i64 (nth sx k).n)) (first | go_keep | exact ⟨z2, z3⟩) (
        (refine step_append_src _ (by rfl) _ _ 22 (by rfl) w0.heap.size 31 i0 _ 2 32 Try.underlying22 hi hz0 hz1 hz2 rfl (by omega) (.slice va A.length vc) A.length (elsC A) rfl (ownsRow_fr HO1.out (((Fr.refl [] wr).drew).alloc _) (by simp)) (.slice (some ⟨wr.heap.size, 0, none⟩) 2 2) 2 [.slice (nth sx k).ra (nth sx k).rl (nth sx k).rc, .int .i64 hv, .slice (nth sx k).ra (nth sx k).rl (nth sx k).rc, .int .i64 ((nth sx k).n - hv)] rfl ?src (by unfold maxLen; omega) (by omega) ?bs ?_
         case src => exact Src.block (heap_alloc_new wr.drew _) rfl (by intro u hu; simp at hu; rcases hu with rfl | rfl | rfl | rfl <;> rfl)
         case bs => simp; omega
         intro v2 w6 hown6 hgrow6 hblk6
         have k6 : Fr (Value.slice va A.length vc).ownBlock.toList wr w6 := ((((Fr.refl [] wr).drew).alloc _).nil).trans (Fr.grown hgrow6)
         have hfar : ∀ r, r ∈ (Value.slice va A.length vc).ownBlock.toList → w0.heap.size ≤ r := fun r hr => (HO1.out.lt r (by simpa using hr)).1
         have z2 := k6.cell z0 (fun hx => by have := hfar _ hx; simp at this; omega)
         have z3 := k6.cell z1 (fun hx => by have := hfar _ hx; simp at this; omega)
         have HOwn6 := Lib.hid hown6
         have F6 := Lib.hid ((HF.out.drew.alloc _).fresh hgrow6 (fun r e => Or.inl (HO1.out.lt r e).1))
         have HO26 := Lib.hid (ownU_far (ownsRow_fr HO2.out (((Fr.refl [] wr).drew).alloc _) (by simp)) (ownsRow_fr HO1.out (((Fr.refl [] wr).drew).alloc _) (by simp)) hgrow6)
         obtain ⟨a6, c6, rfl⟩ := ownsRow_shape hown6
         clear hown6 hgrow6 k6 hfar hblk6))
      go_upto_region 11 with fail
      go_region_held3 (fun w' => w'.cell? ⟨b, off + k * 2, none⟩ = some (.slice (nth sx k).ra (nth sx k).rl (nth sx k).rc) ∧ w'.cell? ⟨b, off + k * 2 + 1, none⟩ = some (.int .i64 (nth sx k).n)) (first | go_keep | exact ⟨z4, z5⟩) (
        (refine step_append_src _ (by rfl) _ _ 39 (by rfl) w0.heap.size 41 i1 _ 3 40 Try.underlying39 hj hy0 hy1 hy2 rfl (by omega) (.slice vb D.length vd) D.length (upd.elsC D) rfl (ownsRow_fr HO26.out (((Fr.refl [] w6).drew).alloc _) (by simp)) (.slice (some ⟨w6.heap.size, 0, none⟩) 1 1) 1 [.slice (nth sx k).ra (nth sx k).rl (nth sx k).rc, .int .i64 t, .int .i64 (nth sx k).n] rfl ?src (by unfold maxLen; omega) (by omega) ?bs ?_
         case src => exact Src.block (heap_alloc_new w6.drew _) rfl (by intro u hu; simp at hu; rcases hu with rfl | rfl | rfl <;> rfl)
         case bs => have := F6.out.size; simp; omega
         intro v2 w7 hown7 hgrow7 hblk7
         have k7 : Fr (Value.slice vb D.length vd).ownBlock.toList w6 w7 := ((((Fr.refl [] w6).drew).alloc _).nil).trans (Fr.grown hgrow7)
         have hfar : ∀ r, r ∈ (Value.slice vb D.length vd).ownBlock.toList → w0.heap.size ≤ r := fun r hr => (HO26.out.lt r (by simpa using hr)).1
         have z4 := k7.cell z2 (fun hx => by have := hfar _ hx; simp at this; omega)
         have z5 := k7.cell z3 (fun hx => by have := hfar _ hx; simp at this; omega)
         have HOwn7 := Lib.hid hown7
         have F7 := Lib.hid ((F6.out.drew.alloc _).fresh hgrow7 (fun r e => Or.inl (HO26.out.lt r e).1))
         have HO17 := Lib.hid (ownC_far (ownsRow_fr HOwn6.out (((Fr.refl [] w6).drew).alloc _) (by simp)) (ownsRow_fr HO26.out (((Fr.refl [] w6).drew).alloc _) (by simp)) hgrow7)
         obtain ⟨a7, c7, rfl⟩ := ownsRow_shape hown7
         clear hown7 hgrow7 k7 hfar hblk7))
      go_wp2_with fail
      go_roundw
      case rel =>
        obtain ⟨e1, e2⟩ := HAD.out
        have hl1 : A.length = (sx.length - (k + 1)) * 2 := by rw [e1, halves_len, List.length_reverse, List.length_drop]
        have hl2 : D.length = sx.length - (k + 1) := by rw [e2, List.length_map, List.length_reverse, List.length_drop]
        refine ⟨k, A ++ halves (nth sx k), D ++ [toU t (nth sx k)], by rfl, by omega, F7.out, ?_, ?_, by simp [halves]; omega, by simp; omega, Lib.hid ⟨?_, ?_⟩⟩
        · have h9 := HO17.out
          rw [elsC_append, List.length_append]
          simpa [elsC, El.cells, halves, HH.out] using h9
        · have h9 := HOwn7.out
          rw [upd.elsC_append, List.length_append]
          simpa [upd.elsC, upd.El.cells, toU] using h9
        · rw [HDr.out, List.flatMap_append, ← e1]; simp
        · rw [HDr.out, List.map_append, ← e2]; rfl
      case measure => simp [intOf] <;> omega
    · as_aux_lemma =>
      obtain rfl : j = 0 := by omega
      obtain ⟨va, vc, rfl⟩ := ownsRow_shape ho1
      obtain ⟨vb, vd, rfl⟩ := ownsRow_shape ho2
      have hAD2 : A = sx.reverse.flatMap halves ∧ D = sx.reverse.map (toU t) := by have := HAD.out; rwa [List.drop_zero] at this
      have HAD2 := Lib.hid hAD2
      have hst : Fr [] w0 wr := hf
      replace T := Lib.hid (T.out.trans hst)
      replace K0 := Lib.hid (K0.out.fr hst)
      have HO1 := Lib.hid ho1
      have HO2 := Lib.hid ho2
      clear hf ho1 ho2 HAD hAD2 hst
      have hbm : ∀ e ∈ sx, RowAt w e.rv e.rd ∧ ElOk e := RX.out
      clear hbm
      obtain ⟨wz, rfl⟩ : ∃ wz, wz = wr := ⟨wr, rfl⟩
      go_wp2_with fail
      rw [show (((0 : Nat) : Int) - 1) = -1 from rfl]
      go_loopw [7, 82] (fun v x w2 => ∃ k : Nat, x = .int .i64 k ∧ k ≤ sx.length ∧ Fr [] wz w2 ∧ w2.ownsRow wz.heap.size 41 3 v k (upd.elsC ((sx.take k).map (toU t)))) (fun _ x _ => sx.length - (intOf x).toNat)
      case atStart => exact ⟨0, rfl, Nat.zero_le _, Fr.refl _ _, World.ownsRow_nil _ _ _ _⟩
      case round =>
        obtain ⟨k, rfl, hk, hf, ho⟩ := hrel
        obtain ⟨vu, vq, rfl⟩ := ownsRow_shape ho
        have HF := Lib.hid hf
        have HO := Lib.hid ho
        have hsz := hf.size
        by_cases hlt : k < sx.length
        · as_aux_lemma =>
          obtain ⟨b, off, e1, z0, z1⟩ := (K0.out.fr hf).cell hlt
          subst e1
          have hts : sx.take (k + 1) = sx.take k ++ [nth sx k] := by rw [List.take_add_one, nth_at hlt]; rfl
          have HTs := Lib.hid hts
          clear hf ho hts
          go_upto_region 15 with fail
          have fa : Fr [] wr (wr.alloc (.cells #[.slice (nth sx k).ra (nth sx k).rl (nth sx k).rc, .int .i64 (nth sx k).n] 31)) := (Fr.refl [] wr).alloc _
          have hb1 := heap_alloc_new wr (.cells #[.slice (nth sx k).ra (nth sx k).rl (nth sx k).rc, .int .i64 (nth sx k).n] 31)
          have HOA := Lib.hid (ownsRow_fr HO.out fa (by simp))
          have HFA := Lib.hid (HF.out.trans fa)
          have hsz := (HF.out.trans fa).size
          clear fa HO HF z0 z1
          generalize wr.heap.size = bx at *
          generalize wr.alloc (.cells #[.slice (nth sx k).ra (nth sx k).rl (nth sx k).rc, .int .i64 (nth sx k).n] 31) = wa at *
          have y1 := cell_blk hb1 0 (.slice (nth sx k).ra (nth sx k).rl (nth sx k).rc) rfl
          have y2 := cell_blk hb1 1 (.int .i64 (nth sx k).n) rfl
          clear hb1
          have hsrc : Src (wa.alloc (.cells #[.slice (nth sx k).ra (nth sx k).rl (nth sx k).rc, .int .i64 t, .int .i64 (nth sx k).n] 41)) 3 (.slice (some ⟨wa.heap.size, 0, none⟩) 1 1) 1 [.slice (nth sx k).ra (nth sx k).rl (nth sx k).rc, .int .i64 t, .int .i64 (nth sx k).n] := Src.block (heap_alloc_new wa _) rfl (by intro u hu; simp at hu; rcases hu with rfl | rfl | rfl <;> rfl)
          have HSrc := Lib.hid hsrc
          clear hsrc
          go_wp2_with (at_builtin; refine wpList_append_src _ rfl (.tmp 86) (.tmp 93) 39 rfl wz.heap.size 41 i1 _ 3 40 Try.underlying39 hj hy0 hy1 hy2 rfl (by decide) (.slice vu k vq) k _ rfl (HOA.out.alloc _) (.slice (some ⟨wa.heap.size, 0, none⟩) 1 1) 1 [.slice (nth sx k).ra (nth sx k).rl (nth sx k).rc, .int .i64 t, .int .i64 (nth sx k).n] rfl HSrc.out (by unfold maxLen; omega) (by omega) (by simp; omega) ?_; intro v' w1 hown1 hgrow1 _)
          have HOwn1 := Lib.hid hown1
          have HG1 := Lib.hid hgrow1
          clear hown1 hgrow1
          go_roundw
          case rel => exact ⟨k + 1, by go_num, by omega, (HFA.out.alloc _).fresh HG1.out (fun r e => Or.inl (HOA.out.lt r e).1), by
            rw [HTs.out, List.map_append, upd.elsC_append]
            simpa [upd.elsC, upd.El.cells, toU] using HOwn1.out⟩
          case measure => simp [intOf] <;> omega
        · as_aux_lemma =>
          have hkM : k = sx.length := by omega
          subst hkM
          rw [List.take_length] at ho
          replace T := Lib.hid (T.out.trans hf)
          replace K0 := Lib.hid (K0.out.fr hf)
          have hAl : A.length ≤ 1000 := by omega
          have KA : Hid (Cts wr (.slice va A.length vc) A) := Lib.hid (own_cts (ownsRow_fr HO1.out hf (by simp)) fun e he => by
            rw [HAD2.out.1] at he
            obtain ⟨e0, h0, he⟩ := List.mem_flatMap.1 he
            have h1 := K0.out.row e0 (List.mem_reverse.1 h0)
            have h2 := NX.out e0 (List.mem_reverse.1 h0)
            have h3 := half_bound e0.n
            simp only [halves, List.mem_cons, List.not_mem_nil, or_false] at he
            rcases he with rfl | rfl
            · exact ⟨h1.1, ⟨h1.2.len, by show _ ≤ Int.tdiv e0.n 2 ∧ Int.tdiv e0.n 2 ≤ _; omega⟩⟩
            · exact ⟨h1.1, ⟨h1.2.len, by show _ ≤ e0.n - Int.tdiv e0.n 2 ∧ e0.n - Int.tdiv e0.n 2 ≤ _; omega⟩⟩)
          have hrowU : ∀ e ∈ sx, RowAt wr (toU t e).rv (toU t e).rd ∧ upd.ElOk (toU t e) := fun e he => by
            have h1 := K0.out.row e he
            exact ⟨h1.1, ⟨h1.2.len, ht, h1.2.n⟩⟩
          have hUl : (sx.map (toU t)).length = sx.length := by simp
          have KU : Hid (upd.Cts wr (.slice vu sx.length vq) (sx.map (toU t))) := Lib.hid (by
            have h9 := upd.own_cts (l := sx.map (toU t)) (v := .slice vu sx.length vq) (w := wr) (base := wz.heap.size) (by rw [hUl]; exact ho) (fun e he => by
              obtain ⟨e0, h0, rfl⟩ := List.mem_map.1 he
              exact hrowU e0 h0)
            exact h9)
          have KD : Hid (upd.Cts wr (.slice vb D.length vd) D) := Lib.hid (upd.own_cts (ownsRow_fr HO2.out hf (by simp)) fun e he => by
            rw [HAD2.out.2] at he
            obtain ⟨e0, h0, rfl⟩ := List.mem_map.1 he
            exact hrowU e0 (List.mem_reverse.1 h0))
          have SA := Lib.hid (fun r => show sumK (A.map pr) r = sumK (sx.map pr) r by rw [HAD2.out.1, sum_halves, sum_rev])
          have SU := Lib.hid (fun q : Int × List Dt => show fitB (1 * sumK ((sx.map (toU t)).map upd.pr) q) = true by rw [sumU]; have := BX.out q.2; split <;> exact fit_of (by omega) (by omega))
          have SD := Lib.hid (fun q : Int × List Dt => show fitB (1 * sumK (D.map upd.pr) q) = true by rw [HAD2.out.2, sumU, sum_rev]; have := BX.out q.2; split <;> exact fit_of (by omega) (by omega))
          have AD := Lib.hid (show atL D t = sx.reverse by rw [HAD2.out.2]; exact atL_all _ (Int.le_refl _))
          have HUl := Lib.hid hUl
          clear ho hf HO HF HO1 HO2 hrowU hlt hk RX NX hsx hUl
          go_upto_region 18 with (go_at_call 16; refine (tidyFit K0.out (by omega) (fun r => by have := BX.out r; exact fit_of (by omega) (by omega))).mono ?_; rintro e w1 ⟨l1, x1, y1, rfl, f1, k1, n1, m1⟩)
          replace T := Lib.hid (T.out.trans f1)
          replace KA := Lib.hid (KA.out.fr f1)
          replace KU := Lib.hid (KU.out.fr f1)
          replace KD := Lib.hid (KD.out.fr f1)
          have K1 := Lib.hid k1.cts
          have N1 := Lib.hid n1
          clear f1 k1 n1 K0
          go_upto_region 19 with (go_at_call 16; refine (tidyFit KA.out (by omega) (fun r => by rw [SA.out]; have := BX.out r; exact fit_of (by omega) (by omega))).mono ?_; rintro e w2 ⟨l2, x2, y2, rfl, f2, k2, n2, m2⟩)
          replace T := Lib.hid (T.out.trans f2)
          replace KU := Lib.hid (KU.out.fr f2)
          replace KD := Lib.hid (KD.out.fr f2)
          replace K1 := Lib.hid (K1.out.fr f2)
          have K2 := Lib.hid k2.cts
          have N2 := Lib.hid n2
          clear f2 k2 n2 KA
          go_upto_region 20 with (go_at_call 23; refine (settleFit KU.out HUl.out (by omega) SU.out).mono ?_; rintro e w3 ⟨l3, x3, y3, rfl, f3, k3, n3, m3⟩)
          replace T := Lib.hid (T.out.trans f3)
          replace KU := Lib.hid (KU.out.fr f3)
          replace KD := Lib.hid (KD.out.fr f3)
          replace K1 := Lib.hid (K1.out.fr f3)
          replace K2 := Lib.hid (K2.out.fr f3)
          have K3 := Lib.hid k3.cts
          have N3 := Lib.hid n3
          clear f3 k3 n3
          go_upto_region 21 with (go_at_call 23; refine (settleFit KD.out rfl (by omega) SD.out).mono ?_; rintro e w4 ⟨l4, x4, y4, rfl, f4, k4, n4, m4⟩)
          replace T := Lib.hid (T.out.trans f4)
          replace KU := Lib.hid (KU.out.fr f4)
          replace KD := Lib.hid (KD.out.fr f4)
          replace K1 := Lib.hid (K1.out.fr f4)
          replace K2 := Lib.hid (K2.out.fr f4)
          replace K3 := Lib.hid (K3.out.fr f4)
          have K4 := Lib.hid k4.cts
          have N4 := Lib.hid n4
          clear f4 k4 n4
          go_upto_region 22 with (go_at_call 24; refine (atFit KD.out rfl (by omega) (fun r => by rw [AD.out, sum_rev]; have := BX.out r; exact fit_of (by omega) (by omega))).mono ?_; rintro e w5 ⟨l5, x5, y5, rfl, f5, k5, n5, m5⟩)
          replace T := Lib.hid (T.out.trans f5)
          replace KU := Lib.hid (KU.out.fr f5)
          replace K1 := Lib.hid (K1.out.fr f5)
          replace K2 := Lib.hid (K2.out.fr f5)
          replace K3 := Lib.hid (K3.out.fr f5)
          replace K4 := Lib.hid (K4.out.fr f5)
          have K5 := Lib.hid k5.cts
          rw [AD.out] at n5
          have PL := Lib.hid (order_plain (B := sx.reverse) HAD2.out.1 HAD2.out.2 rfl rfl N1.out N2.out N3.out N4.out n5)
          rw [List.length_map] at m3
          have m6 : l5.length ≤ 1000 := by have := atL_len D t; omega
          clear f5 k5 n5 N1 N2 N3 N4 KD SA SU SD AD m5
          by_cases hmin : t = -9223372036854775808
          · as_aux_lemma =>
            have hw : IntKind.i64.wrap (t - 1) = 9223372036854775807 := by rw [hmin]; decide
            have AU := Lib.hid (show atL (sx.map (toU t)) 9223372036854775807 = sx from atL_all _ (by omega))
            have hmb : (t == -9223372036854775808) = true := by simpa using hmin
            clear hmin
            go_upto_region 23 with (go_at_call 24; refine (atFit KU.out HUl.out (by omega) (fun r => by rw [AU.out]; have := BX.out r; exact fit_of (by omega) (by omega))).mono ?_; rintro e w6 ⟨l6, x6, y6, rfl, f6, k6, n6, m7⟩)
            have st22 : Fr [] w5 w6 := f6
            clear f6 k6 n6 m7 KU
            replace T := Lib.hid (T.out.trans st22)
            replace K1 := Lib.hid (K1.out.fr st22)
            replace K2 := Lib.hid (K2.out.fr st22)
            replace K3 := Lib.hid (K3.out.fr st22)
            replace K4 := Lib.hid (K4.out.fr st22)
            replace K5 := Lib.hid (K5.out.fr st22)
            clear st22
            obtain ⟨p1, p2, p3, p4⟩ := PL.out
            have L1 := Lib.hid (fun wi (fi : Fr [] w6 wi) => like_true (K1.out.fr fi) (K2.out.fr fi) p1 (by omega))
            have L2 := Lib.hid (fun wi (fi : Fr [] w6 wi) => likeU_true (K3.out.fr fi) (K4.out.fr fi) p2 (by omega))
            have L3 := Lib.hid (fun wi (fi : Fr [] w6 wi) => like_true (K5.out.fr fi) (K1.out.fr fi) p3 (by omega))
            have P4 : ((l3.length : Int) == (l1.length : Int)) = true := by rw [p4]; simp
            clear p1 p2 p3 p4 PL K1 K2 K3 K4 K5
            have tok1 : Nat := 0
            go_wp2_with (first
              | (go_at_call 17; have _t := tok1; clear _t tok1; refine (L1.out _ (Fr.refl _ _)).mono ?_; rintro e wl1 ⟨rfl, fl1⟩)
              | (go_at_call 25; refine (L2.out _ fl1).mono ?_; rintro e wl2 ⟨rfl, fl2⟩)
              | (go_at_call 17; refine (L3.out _ (fl1.trans fl2)).mono ?_; rintro e wl3 ⟨rfl, fl3⟩))
            go_ret
            exact ⟨rfl, T.out.trans ((fl1.trans fl2).trans fl3)⟩
          · as_aux_lemma =>
            have hw : IntKind.i64.wrap (t - 1) = t - 1 := by rw [IntKind.wrap_i64]; omega
            have AU := Lib.hid (show atL (sx.map (toU t)) (t - 1) = [] from atL_none _ (by omega))
            go_upto_region 23 with (go_at_call 24; refine (atFit KU.out HUl.out (by omega) (fun r => by rw [AU.out]; exact fit_of (by simp [sumK_nil]) (by simp [sumK_nil]))).mono ?_; rintro e w6 ⟨l6, x6, y6, rfl, f6, k6, n6, m7⟩)
            have st22 : Fr [] w5 w6 := f6
            rw [AU.out] at m7
            obtain rfl : l6 = [] := List.length_eq_zero_iff.1 (Nat.le_zero.1 m7)
            have hmb : (t == -9223372036854775808) = false := by simpa using hmin
            clear f6 k6 n6 m7 KU
            replace T := Lib.hid (T.out.trans st22)
            replace K1 := Lib.hid (K1.out.fr st22)
            replace K2 := Lib.hid (K2.out.fr st22)
            replace K3 := Lib.hid (K3.out.fr st22)
            replace K4 := Lib.hid (K4.out.fr st22)
            replace K5 := Lib.hid (K5.out.fr st22)
            clear st22
            obtain ⟨p1, p2, p3, p4⟩ := PL.out
            have L1 := Lib.hid (fun wi (fi : Fr [] w6 wi) => like_true (K1.out.fr fi) (K2.out.fr fi) p1 (by omega))
            have L2 := Lib.hid (fun wi (fi : Fr [] w6 wi) => likeU_true (K3.out.fr fi) (K4.out.fr fi) p2 (by omega))
            have L3 := Lib.hid (fun wi (fi : Fr [] w6 wi) => like_true (K5.out.fr fi) (K1.out.fr fi) p3 (by omega))
            have P4 : ((l3.length : Int) == (l1.length : Int)) = true := by rw [p4]; simp
            clear p1 p2 p3 p4 PL K1 K2 K3 K4 K5
            have tok1 : Nat := 0
            go_wp2_with (first
              | (go_at_call 17; have _t := tok1; clear _t tok1; refine (L1.out _ (Fr.refl _ _)).mono ?_; rintro e wl1 ⟨rfl, fl1⟩)
              | (go_at_call 25; refine (L2.out _ fl1).mono ?_; rintro e wl2 ⟨rfl, fl2⟩)
              | (go_at_call 17; refine (L3.out _ (fl1.trans fl2)).mono ?_; rintro e wl3 ⟨rfl, fl3⟩))
            go_ret
            exact ⟨rfl, T.out.trans ((fl1.trans fl2).trans fl3)⟩
end Go.Proofs.Ytmionipeoffnhaa
