/- The walk of ZsetGroup, whole. No condition but the sizes. -/
import Derived.Test.YtmionipeoffnhaaZg
namespace Go.Proofs.Ytmionipeoffnhaa
open Go.RowKit srt grp

theorem tidyFitN {w : World} {aa : Option Addr} {n ac : Nat} {l : List El} (h : Cts w (.slice aa n ac) l) (hn : n = l.length) (hm : l.length ≤ 1000) (hf : ∀ r, fitB (1 * sumK (l.map pr) r) = true) :
    Calls Try.prog 16 #[.slice aa n ac] w (TidyOk w l 1) := by
  subst hn; exact tidyFit h hm hf

theorem empty_own (w : World) : (w.alloc (.cells #[] 31)).ownsRow w.heap.size 31 2 (.slice (some ⟨w.heap.size, 0, none⟩) 0 0) 0 [] := World.ownsRow_made w #[] 0 (Nat.le_refl _) (by decide) rfl

/-- append onto counted rows of the call's own. -/
theorem wpList_counts {w : World} {ops : Array Oper} {rest : List Oper} {o : Oper} {a : Act} {Q : Exit → Act → World → Prop} (hgd : o.guard = none) (s x : Operand)
    (ho : o.op = .call { callee := .builtin .append, args := #[s, x], argTypes := #[22, 22] }) {base n : Nat} {v : Value} {xs : List Value} (hs : a.eval s = v) (hown : w.ownsRow base 31 2 v n xs)
    {xv : Value} {l : List El} (hx : a.eval x = xv) (hc : Cts w xv l) (hn : n + l.length ≤ 100000) (hbase : base ≤ w.heap.size)
    (h : ∀ a' c' w', w'.ownsRow base 31 2 (.slice a' (n + l.length) c') (n + l.length) (xs ++ elsC l) → w.grownBy w' v.ownBlock → wpList Try.prog ops Q rest (a.put o.dst (.slice a' (n + l.length) c')) w') : wpList Try.prog ops Q (o :: rest) a w := by
  obtain ⟨i0, hi, hz0, hz1, hz2⟩ := info_parts infoC
  refine wpList_append_src w hgd s x 22 ho base 31 i0 _ 2 32 Try.underlying22 hi hz0 hz1 hz2 rfl (by decide) v n xs hs hown xv l.length (elsC l) hx hc.src (by unfold maxLen; omega) (by omega) hbase ?_
  intro v' w' h1 h2 _
  obtain ⟨a', c', rfl⟩ := ownsRow_shape h1
  exact h a' c' w' h1 h2

theorem wpList_counts0 {w : World} {ops : Array Oper} {rest : List Oper} {o : Oper} {a : Act} {Q : Exit → Act → World → Prop} (hgd : o.guard = none) (s x : Operand)
    (ho : o.op = .call { callee := .builtin .append, args := #[s, x], argTypes := #[22, 22] }) {base : Nat} {v : Value} (hs : a.eval s = v) (hown : w.ownsRow base 31 2 v 0 [])
    {xv : Value} {l : List El} (hx : a.eval x = xv) (hc : Cts w xv l) (hn : l.length ≤ 100000) (hbase : base ≤ w.heap.size)
    (h : ∀ a' c' w', w'.ownsRow base 31 2 (.slice a' l.length c') l.length (elsC l) → w.grownBy w' v.ownBlock → wpList Try.prog ops Q rest (a.put o.dst (.slice a' l.length c')) w') : wpList Try.prog ops Q (o :: rest) a w :=
  wpList_counts hgd s x ho hs hown hx hc (by omega) hbase fun a' c' w' h1 h2 => by
    rw [Nat.zero_add] at h1 ⊢
    exact h a' c' w' (by simpa using h1) h2

/-- Two lists, one behind the other, in memory of the call's own. -/
theorem two_cts {wp wq w2 : World} {base : Nat} {p q : List El} (hp : ∀ e ∈ p, RowAt wp e.rv e.rd ∧ ElOk e) (hq : ∀ e ∈ q, RowAt wq e.rv e.rd ∧ ElOk e) (fp : Fr [] wp w2) (fq : Fr [] wq w2) {a : Option Addr} {n c : Nat} (hn : n = p.length + q.length) (ho : w2.ownsRow base 31 2 (.slice a n c) n (elsC p ++ elsC q)) : Cts w2 (.slice a n c) (p ++ q) := by
  subst hn
  rw [← elsC_append] at ho
  have e : p.length + q.length = (p ++ q).length := by simp
  rw [e] at ho ⊢
  refine own_cts ho fun x hx => ?_
  rcases List.mem_append.1 hx with hx | hx
  · exact ⟨(hp x hx).1.fr fp, (hp x hx).2⟩
  · exact ⟨(hq x hx).1.fr fq, (hq x hx).2⟩

theorem small_rows {w : World} {v : Value} {l : List El} (h : Cts w v l) : ∀ e ∈ smL l, RowAt w e.rv e.rd ∧ ElOk e := fun e he => by
  obtain ⟨e0, h0, rfl⟩ := List.mem_map.1 he
  have h1 := h.row e0 (List.mem_of_mem_take h0)
  refine ⟨h1.1, ⟨h1.2.len, ?_⟩⟩
  simp only [sm]
  have h3 := Int.tmod_lt_of_pos e0.n (show (0 : Int) < 1000000 by decide)
  have h4 := Int.lt_tmod_of_pos e0.n (show (0 : Int) < 1000000 by decide)
  omega

/-- Behind two appends: memory that is newer alone has turned. -/
theorem app_fr {w v u : World} {b : Option Addr} {n c : Nat} {xs : List Value} (f : Fr [] w v) (ho : v.ownsRow w.heap.size 31 2 (.slice b n c) n xs) (hg : v.grownBy u (Value.slice b n c).ownBlock) : Fr [] w u :=
  f.fresh hg (fun r e => Or.inl (ho.lt r e).1)

theorem Canon.neg {os : List (List Dt × Int)} {S T : List Dt → Int} (h : Canon cmpR os S) (e : ∀ r, T r = - S r) : Canon cmpR (os.map fun p => (p.1, -p.2)) T := by
  refine ⟨List.pairwise_map.2 h.up, fun p hp => ?_, fun r => ?_⟩
  · obtain ⟨q, hq, rfl⟩ := List.mem_map.1 hp
    have := h.nz q hq
    simp only
    omega
  · rw [e, ← h.sum]
    clear h e
    induction os with
    | nil => simp [sumK_nil]
    | cons p os ih =>
      rw [List.map_cons, sumK_cons, sumK_cons, ih]
      simp only
      split <;> omega

theorem zero8 {k : Nat} (h : k < 8) : (#[Value.int .i64 0, .int .i64 0, .int .i64 0, .int .i64 0, .int .i64 0, .int .i64 0, .int .i64 0, .int .i64 0] : Array Value)[k]? = some (.int .i64 0) := by
  match k, h with
  | 0, _ => rfl
  | 1, _ => rfl
  | 2, _ => rfl
  | 3, _ => rfl
  | 4, _ => rfl
  | 5, _ => rfl
  | 6, _ => rfl
  | 7, _ => rfl

theorem canon_lt {l : List El} {S : List Dt → Int} (h : Canon cmpR (l.map pr) S) {k : Nat} (hk : k + 1 < l.length) : cmpR (nth l k).rd (nth l (k + 1)).rd < 0 := by
  have h1 := List.pairwise_iff_getElem.1 h.up k (k + 1) (by simp; omega) (by simp; omega) (by omega)
  have e : ∀ i (hi : i < l.length), l[i] = nth l i := fun i hi => by
    have := nth_at hi; rw [List.getElem?_eq_getElem hi] at this; exact Option.some.inj this
  simp only [List.getElem_map, pr] at h1
  rw [e k (by omega), e (k + 1) hk] at h1
  exact h1
theorem canon_nz {l : List El} {S : List Dt → Int} (h : Canon cmpR (l.map pr) S) {k : Nat} (hk : k < l.length) : ((nth l k).n == 0) = false := by
  have := h.nz _ (List.mem_map_of_mem (f := pr) (nth_mem hk))
  simpa [pr] using this

/-- What the eight lists are to one another. -/
theorem group_plain {l1 l2 l3 l4 l5 l6 l7 l8 : List El} {sx sy : List El} (n1 : Canon cmpR (l1.map pr) fun r => 1 * sumK (sx.map pr) r) (n2 : Canon cmpR (l2.map pr) fun r => 1 * sumK (sy.map pr) r) (n3 : Canon cmpR (l3.map pr) fun r => 1 * sumK ((sx ++ sy).map pr) r)
    (n4 : Canon cmpR (l4.map pr) fun r => 1 * sumK ((l2 ++ l1).map pr) r) (n5 : Canon cmpR (l5.map pr) fun r => 1 * sumK (l1.map pr) r) (n6 : Canon cmpR (l6.map pr) fun r => -1 * sumK (sx.map pr) r)
    (n7 : Canon cmpR (l7.map pr) fun r => -1 * sumK (l6.map pr) r) (n8 : Canon cmpR (l8.map pr) fun r => 1 * sumK ((l6 ++ l1).map pr) r) :
    l3.map pr = l4.map pr ∧ l5.map pr = l1.map pr ∧ l7.map pr = l1.map pr ∧ l8.length = 0 ∧ l6.length = l1.length := by
  have a1 := fun r => (n1.sum r).trans (Int.one_mul _)
  have a2 := fun r => (n2.sum r).trans (Int.one_mul _)
  have a6 := fun r => (n6.sum r).trans (Int.neg_one_mul _)
  refine ⟨n3.uniq cmpRS (n4.of fun r => ?_), n5.uniq cmpRS (n1.of fun r => ?_), n7.uniq cmpRS (n1.of fun r => ?_), ?_, ?_⟩
  · rw [List.map_append, sumK_append, List.map_append, sumK_append, a1, a2]; omega
  · rw [a1]
  · rw [a6]; omega
  · have : l8.map pr = [] := n8.uniq cmpRS (Canon.nil fun r => by rw [List.map_append, sumK_append, a1, a6]; omega)
    have := congrArg List.length this
    simpa using this
  · have : l6.map pr = (l1.map pr).map fun p => (p.1, -p.2) := n6.uniq cmpRS (Canon.neg n1 fun r => by omega)
    have := congrArg List.length this
    simpa using this

def SmallAt (w wi : World) (v : Value) (l : List El) : Prop := Fr [] w wi → Calls Try.prog 18 #[v] wi fun e w' => ∃ (a' : Option Addr) (c' : Nat), e = .returned (.slice a' (smL l).length c') ∧ Fr [] wi w' ∧ Cts w' (.slice a' (smL l).length c') (smL l)

theorem small_at {w : World} {a : Option Addr} {c : Nat} {l : List El} (h : Cts w (.slice a l.length c) l) (hc : l.length ≤ c) (ha : a = none → c = 0) (hm : c ≤ 9223372036854775807) (wi : World) : SmallAt w wi (.slice a l.length c) l := fun f =>
  (small_any (h.fr f) hc ha hm).mono fun _ _ ⟨a', c', he, hf, ho⟩ => ⟨a', c', he, hf, small_cts (h.fr f) hf ho⟩

theorem fit_small (l : List El) (r : List Dt) : fitB (1 * sumK ((smL l).map pr) r) = true := by
  have := small_bound l r
  exact fit_of (by omega) (by omega)

set_option maxRecDepth 100000
set_option maxHeartbeats 6400000 in
theorem group_walk {w : World} {a0 a1 : Option Addr} {c0 c1 : Nat} {lx ly : List El} (hx : Cts w (.slice a0 lx.length c0) lx) (hcx : lx.length ≤ c0) (hax : a0 = none → c0 = 0) (hmx : c0 ≤ 9223372036854775807)
    (hy : Cts w (.slice a1 ly.length c1) ly) (hcy : ly.length ≤ c1) (hay : a1 = none → c1 = 0) (hmy : c1 ≤ 9223372036854775807) :
    Calls Try.prog 4 #[.slice a0 lx.length c0, .slice a1 ly.length c1] w fun e w' => e = .returned (.bool true) ∧ Fr [] w w' := by
  have SX := Lib.hid (small_at hx hcx hax hmx)
  have SY := Lib.hid (small_at hy hcy hay hmy)
  have BX := Lib.hid (small_bound lx)
  have BY := Lib.hid (small_bound ly)
  have RX := Lib.hid (small_rows hx)
  have RY := Lib.hid (small_rows hy)
  have q1 := smL_len lx
  have q2 := smL_len ly
  clear hx hy hcx hcy hax hay hmx hmy
  generalize hsx : smL lx = sx at *
  generalize hsy : smL ly = sy at *
  go_enter Try.func4, Try.ntmps4
  go_upto_region 2 with (first | (go_at_call 18; refine (SX.out _ (Fr.refl _ _)).mono ?_; rintro e v1 ⟨b1, d1, rfl, g1, s1⟩; rw [hsx] at s1; have S1 := Lib.hid s1; clear s1) | (go_at_call 16; refine (tidyFit S1.out (by omega) (fun r => by have := BX.out r; exact fit_of (by omega) (by omega))).mono ?_; rintro e w1 ⟨l1, x1, y1, rfl, f1, k1, n1, m1⟩))
  have st1 : Fr [] w w1 := g1.trans f1
  have T := Lib.hid st1
  have K1 := Lib.hid k1.cts
  have N1 := Lib.hid n1
  clear st1 k1 n1 g1 f1
  have hl60 : l1.length ≤ 60 := by omega
  go_upto_region 3 with (first | (go_at_call 18; refine (SY.out _ T.out).mono ?_; rintro e v2 ⟨b2, d2, rfl, g2, s2⟩; rw [hsy] at s2; have S2 := Lib.hid s2; clear s2) | (go_at_call 16; refine (tidyFit S2.out (by omega) (fun r => by have := BY.out r; exact fit_of (by omega) (by omega))).mono ?_; rintro e w2 ⟨l2, x2, y2, rfl, f2, k2, n2, m2⟩))
  have st2 : Fr [] w1 w2 := g2.trans f2
  replace T := Lib.hid (T.out.trans st2)
  replace K1 := Lib.hid (K1.out.fr st2)
  have K2 := Lib.hid k2.cts
  have N2 := Lib.hid n2
  clear st2 k2 n2 g2 f2
  have A1 := Lib.hid (fun r => (N1.out.sum r).trans (Int.one_mul _))
  have A2 := Lib.hid (fun r => (N2.out.sum r).trans (Int.one_mul _))
  have tok1 : True := trivial
  go_upto_region 4 with (first | (go_at_call 18; have _t := tok1; clear _t tok1; refine (SX.out _ (T.out.alloc _)).mono ?_; rintro e v3a ⟨b3a, d3a, rfl, g3a, s3a⟩; rw [hsx] at s3a; have S3a := Lib.hid s3a; clear s3a) | (at_builtin; refine wpList_counts0 rfl (.tmp 38) (.tmp 40) rfl rfl (ownsRow_fr (empty_own w2) g3a (by simp)) rfl S3a.out (by omega) (by have := g3a.size; simp at this; omega) ?_; intro a3 c3 u3 o3 h3; have p3 : Fr [] w2 u3 := app_fr (((Fr.refl [] w2).alloc _).trans g3a) (ownsRow_fr (empty_own w2) g3a (by simp)) h3) | (go_at_call 18; refine (SY.out _ (T.out.trans p3)).mono ?_; rintro e v3b ⟨b3b, d3b, rfl, g3b, s3b⟩; rw [hsy] at s3b; have S3b := Lib.hid s3b; clear s3b) | (at_builtin; refine wpList_counts rfl (.tmp 41) (.tmp 43) rfl rfl (ownsRow_fr o3 g3b (by simp)) rfl S3b.out (by omega) (Nat.le_trans p3.size g3b.size) ?_; intro aa3 cc3 uu3 oo3 hh3; have pp3 : Fr [] w2 uu3 := app_fr (p3.trans g3b) (ownsRow_fr o3 g3b (by simp)) hh3) | (go_at_call 16; refine (tidyFitN (two_cts RX.out RY.out (T.out.trans pp3) (T.out.trans pp3) rfl oo3) (by simp) (by simp; omega) (fun r => by rw [List.map_append, sumK_append]; have := BX.out r; have := BY.out r; exact fit_of (by omega) (by omega))).mono ?_; rintro e w3 ⟨l3, x3, y3, rfl, f3, k3, n3, m3⟩))
  have st3 : Fr [] w2 w3 := pp3.trans f3
  replace T := Lib.hid (T.out.trans st3)
  replace K1 := Lib.hid (K1.out.fr st3)
  replace K2 := Lib.hid (K2.out.fr st3)
  have K3 := Lib.hid k3.cts
  have N3 := Lib.hid n3
  clear st3 k3 n3 g3a o3 h3 p3 g3b oo3 hh3 pp3 f3
  go_upto_region 5 with (first | (at_builtin; refine wpList_counts0 rfl (.tmp 49) (.tmp 50) rfl rfl (empty_own w3) rfl (K2.out.fr ((Fr.refl [] w3).alloc _)) (by omega) (by simp) ?_; intro a4 c4 u4 o4 h4; have p4 : Fr [] w3 u4 := app_fr (((Fr.refl [] w3).alloc _)) (empty_own w3) h4) | (at_builtin; refine wpList_counts rfl (.tmp 51) (.tmp 52) rfl rfl o4 rfl (K1.out.fr p4) (by omega) p4.size ?_; intro aa4 cc4 uu4 oo4 hh4; have pp4 : Fr [] w3 uu4 := app_fr p4 o4 hh4) | (go_at_call 16; refine (tidyFitN (two_cts K2.out.row K1.out.row pp4 pp4 rfl oo4) (by simp) (by simp; omega) (fun r => by rw [List.map_append, sumK_append, A1.out, A2.out]; have := BX.out r; have := BY.out r; exact fit_of (by omega) (by omega))).mono ?_; rintro e w4 ⟨l4, x4, y4, rfl, f4, k4, n4, m4⟩))
  have st4 : Fr [] w3 w4 := pp4.trans f4
  replace T := Lib.hid (T.out.trans st4)
  replace K1 := Lib.hid (K1.out.fr st4)
  replace K2 := Lib.hid (K2.out.fr st4)
  replace K3 := Lib.hid (K3.out.fr st4)
  have K4 := Lib.hid k4.cts
  have N4 := Lib.hid n4
  clear st4 k4 n4 o4 h4 p4 oo4 hh4 pp4 f4
  go_upto_region 6 with (go_at_call 16; refine (tidyFit K1.out (by omega) (fun r => by rw [A1.out]; have := BX.out r; exact fit_of (by omega) (by omega))).mono ?_; rintro e w5 ⟨l5, x5, y5, rfl, f5, k5, n5, m5⟩)
  have st5 : Fr [] w4 w5 := f5
  replace T := Lib.hid (T.out.trans st5)
  replace K1 := Lib.hid (K1.out.fr st5)
  replace K2 := Lib.hid (K2.out.fr st5)
  replace K3 := Lib.hid (K3.out.fr st5)
  replace K4 := Lib.hid (K4.out.fr st5)
  have K5 := Lib.hid k5.cts
  have N5 := Lib.hid n5
  clear st5 k5 n5 f5
  go_upto_region 7 with (first | (go_at_call 18; refine (SX.out _ T.out).mono ?_; rintro e v6 ⟨b6, d6, rfl, g6, s6⟩; rw [hsx] at s6; have S6 := Lib.hid s6; clear s6) | (go_at_call 19; refine (negFit S6.out (by omega) (fun r => by have := BX.out r; exact fit_of (by omega) (by omega))).mono ?_; rintro e w6 ⟨l6, x6, y6, rfl, f6, k6, n6, m6⟩))
  have st6 : Fr [] w5 w6 := g6.trans f6
  replace T := Lib.hid (T.out.trans st6)
  replace K1 := Lib.hid (K1.out.fr st6)
  replace K2 := Lib.hid (K2.out.fr st6)
  replace K3 := Lib.hid (K3.out.fr st6)
  replace K4 := Lib.hid (K4.out.fr st6)
  replace K5 := Lib.hid (K5.out.fr st6)
  have K6 := Lib.hid k6.cts
  have N6 := Lib.hid n6
  clear st6 k6 n6 g6 f6
  have A6 := Lib.hid (fun r => (N6.out.sum r).trans (Int.neg_one_mul _))
  go_upto_region 8 with (go_at_call 19; refine (negFit K6.out (by omega) (fun r => by rw [A6.out]; have := BX.out r; exact fit_of (by omega) (by omega))).mono ?_; rintro e w7 ⟨l7, x7, y7, rfl, f7, k7, n7, m7⟩)
  have st7 : Fr [] w6 w7 := f7
  replace T := Lib.hid (T.out.trans st7)
  replace K1 := Lib.hid (K1.out.fr st7)
  replace K2 := Lib.hid (K2.out.fr st7)
  replace K3 := Lib.hid (K3.out.fr st7)
  replace K4 := Lib.hid (K4.out.fr st7)
  replace K5 := Lib.hid (K5.out.fr st7)
  replace K6 := Lib.hid (K6.out.fr st7)
  have K7 := Lib.hid k7.cts
  have N7 := Lib.hid n7
  clear st7 k7 n7 f7
  go_upto_region 9 with (first | (at_builtin; refine wpList_counts0 rfl (.tmp 74) (.tmp 75) rfl rfl (empty_own w7) rfl (K6.out.fr ((Fr.refl [] w7).alloc _)) (by omega) (by simp) ?_; intro a8 c8 u8 o8 h8; have p8 : Fr [] w7 u8 := app_fr (((Fr.refl [] w7).alloc _)) (empty_own w7) h8) | (at_builtin; refine wpList_counts rfl (.tmp 76) (.tmp 77) rfl rfl o8 rfl (K1.out.fr p8) (by omega) p8.size ?_; intro aa8 cc8 uu8 oo8 hh8; have pp8 : Fr [] w7 uu8 := app_fr p8 o8 hh8) | (go_at_call 16; refine (tidyFitN (two_cts K6.out.row K1.out.row pp8 pp8 rfl oo8) (by simp) (by simp; omega) (fun r => by rw [List.map_append, sumK_append, A1.out, A6.out]; have := BX.out r; exact fit_of (by omega) (by omega))).mono ?_; rintro e w8 ⟨l8, x8, y8, rfl, f8, k8, n8, m8⟩))
  have st8 : Fr [] w7 w8 := pp8.trans f8
  replace T := Lib.hid (T.out.trans st8)
  replace K1 := Lib.hid (K1.out.fr st8)
  replace K2 := Lib.hid (K2.out.fr st8)
  replace K3 := Lib.hid (K3.out.fr st8)
  replace K4 := Lib.hid (K4.out.fr st8)
  replace K5 := Lib.hid (K5.out.fr st8)
  replace K6 := Lib.hid (K6.out.fr st8)
  replace K7 := Lib.hid (K7.out.fr st8)
  have K8 := Lib.hid k8.cts
  have N8 := Lib.hid n8
  clear st8 k8 n8 o8 h8 p8 oo8 hh8 pp8 f8
  have hl3 : l3.length ≤ 1000 := by simp at m3; omega
  have PL := Lib.hid (group_plain N1.out N2.out N3.out N4.out N5.out N6.out N7.out N8.out)
  clear N2 N3 N4 N5 N6 N7 N8 A1 A2 A6 SX SY BX BY RX RY K2 K6 K8
  have hb9 := heap_alloc_new w8 (.cells #[.int .i64 0, .int .i64 0, .int .i64 0, .int .i64 0, .int .i64 0, .int .i64 0, .int .i64 0, .int .i64 0] 24)
  have st9 : Fr [] w8 (w8.alloc (.cells #[.int .i64 0, .int .i64 0, .int .i64 0, .int .i64 0, .int .i64 0, .int .i64 0, .int .i64 0, .int .i64 0] 24)) := (Fr.refl [] w8).alloc _
  replace T := Lib.hid (T.out.trans st9)
  replace K1 := Lib.hid (K1.out.fr st9)
  replace K3 := Lib.hid (K3.out.fr st9)
  replace K4 := Lib.hid (K4.out.fr st9)
  replace K5 := Lib.hid (K5.out.fr st9)
  replace K7 := Lib.hid (K7.out.fr st9)
  have HB9 := Lib.hid hb9
  clear hb9 st9
  go_wp2_with fail
  generalize w8.heap.size = b9 at *
  generalize w8.alloc (.cells #[.int .i64 0, .int .i64 0, .int .i64 0, .int .i64 0, .int .i64 0, .int .i64 0, .int .i64 0, .int .i64 0] 24) = w9 at *
  go_loop [92] (fun x => ∃ k : Nat, x = .int .i64 k ∧ k ≤ 8) (fun x => 8 - (intOf x).toNat)
  case atStart => exact ⟨0, rfl, Nat.zero_le _⟩
  case round =>
    obtain ⟨k, rfl, hk⟩ := hrel
    by_cases hlt : k < 8
    · have c0 := cell_blk HB9.out k _ (zero8 hlt)
      go_wp2_with fail
      go_round
      case rel => exact ⟨k + 1, by go_num, by omega⟩
      case measure => simp [intOf] <;> omega
    · go_upto_region 17 with (go_at_call 20; refine (known_any _).mono ?_; rintro e w10 ⟨rfl, f10⟩)
      replace T := Lib.hid (T.out.trans f10)
      replace K1 := Lib.hid (K1.out.fr f10)
      replace K3 := Lib.hid (K3.out.fr f10)
      replace K4 := Lib.hid (K4.out.fr f10)
      replace K5 := Lib.hid (K5.out.fr f10)
      replace K7 := Lib.hid (K7.out.fr f10)
      clear f10
      go_wp2_with fail
      go_loopw [103] (fun x wr => ∃ k : Nat, x = .int .i64 k ∧ k ≤ l1.length ∧ Fr [] w10 wr) (fun x _ => l1.length - (intOf x).toNat)
      case atStart => exact ⟨0, rfl, Nat.zero_le _, Fr.refl _ _⟩
      case round =>
        obtain ⟨k, rfl, hk, hf⟩ := hrel
        have HF := Lib.hid hf
        by_cases hlt : k < l1.length
        · as_aux_lemma =>
          obtain ⟨b, off, e1, z0, z1⟩ := (K1.out.fr hf).cell hlt
          have hnz := canon_nz N1.out hlt
          subst e1
          obtain rfl | ⟨j, rfl⟩ : k = 0 ∨ ∃ j, k = j + 1 := by cases k with | zero => exact Or.inl rfl | succ j => exact Or.inr ⟨j, rfl⟩
          · clear hf
            simp only [Nat.zero_mul, Nat.add_zero] at z0 z1
            go_upto_region 20 with fail
            have fv : Fr [] wr (wr.alloc (.cells #[.slice (nth l1 0).ra (nth l1 0).rl (nth l1 0).rc, .int .i64 (nth l1 0).n] 31)) := (Fr.refl [] wr).alloc _
            have hbv := heap_alloc_new wr (.cells #[.slice (nth l1 0).ra (nth l1 0).rl (nth l1 0).rc, .int .i64 (nth l1 0).n] 31)
            have HFv := Lib.hid (HF.out.trans fv)
            clear fv z0 z1
            generalize wr.heap.size = bv at *
            generalize wr.alloc (.cells #[.slice (nth l1 0).ra (nth l1 0).rl (nth l1 0).rc, .int .i64 (nth l1 0).n] 31) = wv at *
            have q1 : ∀ p : FrBy wv, p.wn.cell? ⟨bv, 1, none⟩ = some (.int .i64 (nth l1 0).n) := fun p => p.fr.cell (cell_blk hbv 1 _ rfl) (by simp)
            clear hbv
            refine wp_region_fr (by kernel_rfl) (by kernel_rfl) ?_
            repeat (go_big_quiet_step (fail))
            refine wpQuiet_nil ?_
            intro wn hwn
            have fn : Fr [] wv wn := by obtain ⟨p, rfl⟩ := hwn; exact p.fr
            have FN := Lib.hid fn
            clear hwn q1 fn
            go_wp2_with fail
            go_roundw
            case rel => exact ⟨1, by rfl, by omega, HFv.out.trans FN.out⟩
            case measure => simp [intOf] <;> omega
          · obtain ⟨b2, off2, e2, z2, z3⟩ := (K1.out.fr hf).cell (show j < l1.length by omega)
            simp only [Option.some.injEq, Addr.mk.injEq, and_true] at e2
            obtain ⟨rfl, rfl⟩ := e2
            have hlt2 := canon_lt N1.out hlt
            have r1 := (K1.out.fr hf).row _ (nth_mem (show j < l1.length by omega))
            have r2 := (K1.out.fr hf).row _ (nth_mem hlt)
            have fv : Fr [] wr (wr.alloc (.cells #[.slice (nth l1 (j + 1)).ra (nth l1 (j + 1)).rl (nth l1 (j + 1)).rc, .int .i64 (nth l1 (j + 1)).n] 31)) := (Fr.refl [] wr).alloc _
            have hcm : ∀ p : FrBy (wr.alloc (.cells #[.slice (nth l1 (j + 1)).ra (nth l1 (j + 1)).rl (nth l1 (j + 1)).rc, .int .i64 (nth l1 (j + 1)).n] 31)), Calls Try.prog 21 #[.slice (nth l1 j).ra (nth l1 j).rl (nth l1 j).rc, .slice (nth l1 (j + 1)).ra (nth l1 (j + 1)).rl (nth l1 (j + 1)).rc] p.wn fun e w' => e = .returned (.int .i64 (cmpR (nth l1 j).rd (nth l1 (j + 1)).rd)) ∧ Fr [] p.wn w' := fun p => rrow_cmp (r1.1.fr (fv.trans p.fr)) (r2.1.fr (fv.trans p.fr)) (by have := r1.2.len; omega)
            have HCm := Lib.hid hcm
            have j1 : IntKind.i64.wrap (j : Int) = (j : Int) := by rw [IntKind.wrap_i64]; have := r1; omega
            have j2 : (0 : Int) < (j : Int) + 1 := by omega
            have j3 : (j : Int) < (l1.length : Int) := by omega
            clear hf r1 r2 hcm
            go_upto_region 20 with fail
            have hbv := heap_alloc_new wr (.cells #[.slice (nth l1 (j + 1)).ra (nth l1 (j + 1)).rl (nth l1 (j + 1)).rc, .int .i64 (nth l1 (j + 1)).n] 31)
            have HFv := Lib.hid (HF.out.trans fv)
            have a2 := fv.cell z2 (by simp)
            clear fv z0 z1 z2 z3
            generalize wr.heap.size = bv at *
            generalize wr.alloc (.cells #[.slice (nth l1 (j + 1)).ra (nth l1 (j + 1)).rl (nth l1 (j + 1)).rc, .int .i64 (nth l1 (j + 1)).n] 31) = wv at *
            have q0 : ∀ p : FrBy wv, p.wn.cell? ⟨bv, 0, none⟩ = some (.slice (nth l1 (j + 1)).ra (nth l1 (j + 1)).rl (nth l1 (j + 1)).rc) := fun p => p.fr.cell (cell_blk hbv 0 _ rfl) (by simp)
            have q1 : ∀ p : FrBy wv, p.wn.cell? ⟨bv, 1, none⟩ = some (.int .i64 (nth l1 (j + 1)).n) := fun p => p.fr.cell (cell_blk hbv 1 _ rfl) (by simp)
            have q2 : ∀ p : FrBy wv, p.wn.cell? ⟨b, off + j * 2, none⟩ = some (.slice (nth l1 j).ra (nth l1 j).rl (nth l1 j).rc) := fun p => p.fr.cell a2 (by simp)
            generalize cmpR (nth l1 j).rd (nth l1 (j + 1)).rd = cv at HCm hlt2
            clear hbv a2
            refine wp_region_fr (by kernel_rfl) (by kernel_rfl) ?_
            repeat (go_big_quiet_step ((go_at_call 21; exact Calls.fr_of (HCm.out _))))
            refine wpQuiet_nil ?_
            intro wn hwn
            have fn : Fr [] wv wn := by obtain ⟨p, rfl⟩ := hwn; exact p.fr
            have FN := Lib.hid fn
            clear hwn q0 q1 q2 fn HCm
            go_wp2_with fail
            go_roundw
            case rel => exact ⟨j + 1 + 1, by go_num, by omega, HFv.out.trans FN.out⟩
            case measure => simp [intOf] <;> omega
        · as_aux_lemma =>
          obtain ⟨p1, p2, p3, p4, p5⟩ := PL.out
          have L1 := Lib.hid (fun wi (fi : Fr [] w10 wi) => like_true (K3.out.fr fi) (K4.out.fr fi) p1 (by omega))
          have L2 := Lib.hid (fun wi (fi : Fr [] w10 wi) => like_true (K5.out.fr fi) (K1.out.fr fi) p2 (by omega))
          have L3 := Lib.hid (fun wi (fi : Fr [] w10 wi) => like_true (K7.out.fr fi) (K1.out.fr fi) p3 (by omega))
          have p4' := Lib.hid p4
          have p5' := Lib.hid p5
          have b4 : ((l8.length : Int) == 0) = true := by simp [p4]
          have b5 : ((l6.length : Int) == (l1.length : Int)) = true := by simp [p5]
          have tok1 : True := trivial
          have tok2 : True := trivial
          have hF1 := hf
          clear p1 p2 p3 p4 p5 hf
          go_wp2_with (first
            | (go_at_call 17; have _t := tok1; clear _t tok1; refine (L1.out _ hF1).mono ?_; rintro e wa ⟨rfl, fa⟩; replace hF1 := hF1.trans fa)
            | (go_at_call 17; have _t := tok2; clear _t tok2; refine (L2.out _ hF1).mono ?_; rintro e wb ⟨rfl, fb⟩; replace hF1 := hF1.trans fb)
            | (go_at_call 17; refine (L3.out _ hF1).mono ?_; rintro e wc ⟨rfl, fc⟩; replace hF1 := hF1.trans fc))
          go_ret
          exact ⟨rfl, T.out.trans hF1⟩
end Go.Proofs.Ytmionipeoffnhaa
