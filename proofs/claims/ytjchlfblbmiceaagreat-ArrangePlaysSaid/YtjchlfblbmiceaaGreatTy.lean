/- zset.tidy: what is there of each row, in order, none 0 times. No condition but the sizes. -/
import Derived.Test.YtjchlfblbmiceaaGreatGc
namespace Go.Proofs.YtjchlfblbmiceaaGreat
open Go.RowKit srt grp

set_option maxRecDepth 100000
theorem insertion_none (w : World) : Calls Tryz.prog 122 #[.slice none 0 0, .int .i64 0, .int .i64 0, .func (.func 101) #[] #[]] w fun e w' => e = .returned (.tuple #[]) ∧ w = w' := by
  go_enter Tryz.func122, Tryz.ntmps122
  go_wp2_with fail
  refine wp_loop_rounds 1 ?_
  rw [rounds_succ]
  go_wp2_with fail
  go_end0
  exact ⟨rfl, rfl⟩
theorem stable_none (w : World) : Calls Tryz.prog 117 #[.slice none 0 0, .int .i64 0, .func (.func 101) #[] #[]] w fun e w' => e = .returned (.tuple #[]) ∧ w = w' := by
  go_enter Tryz.func117, Tryz.ntmps117
  go_wp2_with fail
  refine wp_loop_rounds 1 ?_
  rw [rounds_succ]
  go_wp2_with (go_at_call 122; refine (insertion_none _).mono ?_; rintro e w' ⟨rfl, rfl⟩)
  refine wp_loop_rounds 1 ?_
  rw [rounds_succ]
  go_wp2_with fail
  go_end0
  exact ⟨rfl, rfl⟩
theorem sort_none (w : World) : Calls Tryz.prog 100 #[.slice none 0 0, .func (.func 101) #[] #[]] w fun e w' => e = .returned (.tuple #[]) ∧ w = w' := by
  go_enter Tryz.func100, Tryz.ntmps100
  go_wp2_with (go_at_call 117; refine (stable_none _).mono ?_; rintro e5 w5 ⟨rfl, rfl⟩)
  go_end0
  exact ⟨rfl, rfl⟩
theorem groups_none (w : World) (ms : Bool) (p : Value) : Calls Tryz.prog 103 #[.slice none 0 0, .func (.func 102) #[] #[], .func (.func 104) #[] #[], .bool ms, p] w fun e w' => e = .returned (.int .i64 0) ∧ w = w' := by
  go_enter Tryz.func103, Tryz.ntmps103
  go_wp2_with fail
  refine wp_loop_rounds 1 ?_
  rw [rounds_succ]
  go_wp2_with fail
  go_ret
  exact ⟨rfl, rfl⟩

/-- A list in blocks from base on. -/
def ListIn (base : Nat) (w : World) (v : Value) (l : List El) : Prop :=
  ((∃ a c, v = .slice a 0 c ∧ (a = none → c = 0) ∧ l = []) ∨ ∃ g c cur, base ≤ g ∧ v = .slice (some ⟨g, 0, none⟩) l.length c ∧ l.length ≤ c ∧ w.heap[g]? = some (.cells cur 68) ∧ cur.toList.take (l.length * 2) = elsC l) ∧ ∀ e ∈ l, RowIn base w e.rv e.rd ∧ ElOk e

theorem ListIn.shape {base : Nat} {w : World} {v : Value} {l : List El} (h : ListIn base w v l) : ∃ a c, v = .slice a l.length c := by
  rcases h.1 with ⟨a, c, rfl, -, rfl⟩ | ⟨g, c, cur, -, rfl, -⟩
  · exact ⟨a, c, rfl⟩
  · exact ⟨_, c, rfl⟩
theorem ListIn.src {base : Nat} {w : World} {v : Value} {l : List El} (h : ListIn base w v l) : Src w 2 v l.length (elsC l) := by
  refine ⟨elsC_len l, elsC_one l, ?_⟩
  rcases h.1 with ⟨a, c, rfl, hn, rfl⟩ | ⟨g, c, cur, -, rfl, hc, hg, htk⟩
  · cases a with
    | none => rw [hn rfl]; exact Or.inl ⟨rfl, rfl⟩
    | some ad => exact Or.inr ⟨ad, c, rfl, by simp [elsC]⟩
  · refine Or.inr ⟨⟨g, 0, none⟩, c, rfl, fun j u hj => ?_⟩
    have hadd : (⟨g, 0, none⟩ : Addr).add j = ⟨g, j, none⟩ := by unfold Addr.add; split <;> simp_all
    rw [hadd]
    have hjl : j < l.length * 2 := by rw [← elsC_len]; exact (List.getElem?_eq_some_iff.1 hj).1
    rw [← htk, List.getElem?_take_of_lt hjl] at hj
    exact cell_blk hg j u (by simpa using hj)
theorem ListIn.fr {base : Nat} {S : List Nat} {w w' : World} {v : Value} {l : List El} (h : ListIn base w v l) (f : Fr S w w') (hS : ∀ x ∈ S, x < base) : ListIn base w' v l := by
  refine ⟨?_, fun e he => ⟨(h.2 e he).1.fr f hS, (h.2 e he).2⟩⟩
  rcases h.1 with h | ⟨g, c, cur, hb, hv, hc, hg, htk⟩
  · exact Or.inl h
  · exact Or.inr ⟨g, c, cur, hb, hv, hc, f.heap hg (fun hx => by have := hS g hx; omega), htk⟩
theorem ListIn.base {b base : Nat} {w : World} {v : Value} {l : List El} (h : ListIn base w v l) (hb : b ≤ base) : ListIn b w v l := by
  refine ⟨?_, fun e he => ⟨(h.2 e he).1.base hb, (h.2 e he).2⟩⟩
  rcases h.1 with h | ⟨g, c, cur, hb2, hv, hc, hg, htk⟩
  · exact Or.inl h
  · exact Or.inr ⟨g, c, cur, by omega, hv, hc, hg, htk⟩

/-- A list that can be read: its cells, its rows. -/
structure Cts (w : World) (v : Value) (l : List El) : Prop where
  src : Src w 2 v l.length (elsC l)
  row : ∀ e ∈ l, RowAt w e.rv e.rd ∧ ElOk e
theorem ListIn.cts {base : Nat} {w : World} {v : Value} {l : List El} (h : ListIn base w v l) : Cts w v l := ⟨h.src, fun e he => ⟨(h.2 e he).1.row, (h.2 e he).2⟩⟩
theorem Src.fr {w w' : World} {size m : Nat} {x : Value} {news : List Value} (h : Src w size x m news) (f : Fr [] w w') : Src w' size x m news := by
  obtain ⟨h1, h2, h3⟩ := h
  refine ⟨h1, h2, ?_⟩
  rcases h3 with h3 | ⟨ad, c, h3, h4⟩
  · exact Or.inl h3
  · exact Or.inr ⟨ad, c, h3, fun j u hj => f.cell (h4 j u hj) (by simp)⟩
theorem Cts.fr {w w' : World} {v : Value} {l : List El} (h : Cts w v l) (f : Fr [] w w') : Cts w' v l := ⟨h.src.fr f, fun e he => ⟨(h.row e he).1.fr f, (h.row e he).2⟩⟩
theorem Cts.shape {w : World} {v : Value} {l : List El} (h : Cts w v l) : ∃ a c, v = .slice a l.length c := by
  rcases h.src.2.2 with ⟨hv, h2⟩ | ⟨ad, c, hv, -⟩
  · exact ⟨none, 0, by rw [hv, h2]⟩
  · exact ⟨_, c, hv⟩

theorem clip_any (w : World) (a : Option Addr) (n c : Nat) (h : n ≤ c) (ha : a = none → c = 0) :
    Calls Tryz.prog 106 #[.slice a n c] w fun e w' => e = .returned (.slice a n n) ∧ w = w' := by
  cases a with
  | none =>
    obtain rfl := ha rfl
    obtain rfl : n = 0 := by omega
    go_enter Tryz.func106, Tryz.ntmps106
    go_wp2_with fail
    go_ret
    exact ⟨rfl, rfl⟩
  | some ad =>
    have h1 : (n : Int) ≤ (c : Int) := by omega
    go_enter Tryz.func106, Tryz.ntmps106
    go_wp2_with fail
    go_ret
    exact ⟨rfl, rfl⟩

/-- What tidy answers. -/
def TidyPost (w : World) (l : List El) (s : Int) (e : Ending) (w' : World) : Prop :=
  Fr [] w w' ∧ (((∀ r, fitB (s * sumK (l.map pr) r) = true) ∧ ∃ (outs : List El) (a : Option Addr) (c : Nat), e = .returned (.tuple #[.slice a outs.length c, .int .i64 0]) ∧ ListIn w.heap.size w' (.slice a outs.length c) outs ∧ Canon cmpR (outs.map pr) (fun r => s * sumK (l.map pr) r) ∧ outs.length ≤ l.length ∧ Hid (c = outs.length)) ∨
    ((∃ r, fitB (s * sumK (l.map pr) r) = false) ∧ e = .returned (.tuple #[.slice none 0 0, .int .i64 30])))

theorem firsts_sum {l : List El} {f : Nat → El} (h : Pm 0 l.length (nth l) f) (r : List Dt) : sumK (firsts (fun k => pr (f k)) l.length) r = sumK (l.map pr) r := by
  have h1 := h.perm
  rw [range_nth] at h1
  have h2 := h1.map pr
  rw [List.map_map] at h2
  exact sumK_perm h2 r

/-- Behind groups: what the variable holds, shut. -/
theorem TidyPost.ok {w w3 w4 : World} {l outs : List El} {f : Nat → El} {s : Int} {bo c : Nat} {a : Option Addr} (hf : Fr [] w w4) (hsz : w.heap.size ≤ w3.heap.size) (hp : Pm 0 l.length (nth l) f) (h1 : ∀ r, fitB (s * sumK (firsts (fun k => pr (f k)) l.length) r) = true)
    (hout : OutAt w3 w4 bo outs) (hv : w4.heap[bo]? = some (.cells #[.slice a outs.length c] 31)) (hc : Canon cmpR (outs.map pr) (fun r => s * sumK (firsts (fun k => pr (f k)) l.length) r)) (hok : ∀ x ∈ outs, ElOk x) (hol : outs.length ≤ l.length) :
    TidyPost w l s (.returned (.tuple #[.slice a outs.length outs.length, .int .i64 0])) w4 := by
  refine ⟨hf, Or.inl ⟨fun r => by rw [← firsts_sum hp]; exact h1 r, outs, a, outs.length, rfl, ?_, hc.of fun r => by rw [firsts_sum hp], hol, Lib.hid rfl⟩⟩
  obtain ⟨hbo, hfr, v, hcell, hown, hrows⟩ := hout
  rw [hv] at hcell
  simp only [Option.some.injEq, Obj.cells.injEq, Array.mk.injEq, List.cons.injEq, and_true] at hcell
  obtain rfl := hcell
  refine ⟨?_, fun e he => ⟨(hrows e he).base hsz, hok e he⟩⟩
  rcases hown.2 with ⟨hv2, h2⟩ | ⟨g, c2, cur, hv2, hb, hg, hcl, hmx, hszc, htk⟩
  · simp only [Value.slice.injEq] at hv2
    refine Or.inl ⟨a, outs.length, ?_, fun _ => h2, List.length_eq_zero_iff.1 h2⟩
    rw [h2]
  · simp only [Value.slice.injEq] at hv2
    exact Or.inr ⟨g, outs.length, cur, by omega, by rw [hv2.1], Nat.le_refl _, hg, htk⟩

set_option maxHeartbeats 3200000 in
theorem tidy_any {w : World} {aa : Option Addr} {ac : Nat} {l : List El} {ms : Bool} (h : Cts w (.slice aa l.length ac) l) (hn : l.length ≤ 4398046511102) :
    Calls Tryz.prog 85 #[.slice aa l.length ac, .bool ms] w (TidyPost w l (sgn ms)) := by
  have HC := Lib.hid h
  have hcl := cloneC_any h.src (by omega)
  clear h
  go_enter Tryz.func85, Tryz.ntmps85
  go_upto_region 2 with (go_at_call 99; refine hcl.mono ?_; rintro e w1 ⟨⟨a1, c1, rfl, ho1⟩, f1⟩)
  rcases Srt.own ho1 with ⟨rfl, rfl, rfl⟩ | ⟨g, rfl, hgb, hlc, hsr⟩
  · have F1 := Lib.hid f1
    clear hcl ho1 f1
    go_wp2_with (first
      | (go_at_call 100; refine (sort_none _).mono ?_; rintro e w2 ⟨rfl, rfl⟩)
      | (go_at_call 103; refine (groups_none _ _ _).mono ?_; rintro e w2 ⟨rfl, rfl⟩)
      | (go_at_call 106; refine (clip_any _ none 0 0 (by omega) (fun _ => rfl)).mono ?_; rintro e w5 ⟨rfl, rfl⟩))
    go_ret2
    exact ⟨F1.out.alloc _, Or.inl ⟨fun r => by simp [sumK_nil, fitB], [], none, 0, rfl, ⟨Or.inl ⟨none, 0, rfl, fun _ => rfl, rfl⟩, by simp⟩, Canon.nil fun r => by simp [sumK_nil], Nat.le_refl _, Lib.hid rfl⟩⟩
  · have hrow : ∀ k, 0 ≤ k → k < l.length → RowOk g w1 (nth l k) := fun k _ hk => by
      have h5 := HC.out.row _ (nth_mem hk)
      exact ⟨by have := h5.2.len; omega, fun wi fi => h5.1.fr (f1.past fi (by simpa using hgb))⟩
    have hso := sort_any (cap := c1) hsr hrow (by omega)
    have F1 := Lib.hid f1
    clear hcl ho1 hsr hrow f1
    go_upto_region 5 with (go_at_call 100; refine hso.mono ?_; rintro e w2 ⟨rfl, f', hs2, f2, hp2, ho2⟩)
    have hgl : g < w2.heap.size := by obtain ⟨cur, hb, -⟩ := hs2; exact (Array.getElem?_eq_some_iff.1 hb).1
    have F2 : Fr [] w w2 := F1.out.past f2 (by simpa using hgb)
    have fa : Fr [] w2 (w2.alloc (.cells #[.slice none 0 0] 31)) := (Fr.refl [] w2).alloc _
    have hb3 : (w2.alloc (.cells #[.slice none 0 0] 31)).heap[w2.heap.size]? = some (.cells #[.slice none 0 0] 31) := heap_alloc_new w2 _
    have hbz : w2.heap.size < (w2.alloc (.cells #[.slice none 0 0] 31)).heap.size := by simp
    have hs3 := hs2.fr fa
    have F3 := F2.trans fa
    have hb0 : w.heap.size ≤ w2.heap.size := F2.size
    have hgb3 : g ≠ w2.heap.size := by omega
    clear hs2 f2 F2 fa
    generalize w2.heap.size = bo at *
    generalize w2.alloc (.cells #[.slice none 0 0] 31) = w3 at *
    have hout3 : OutAt w3 w3 bo [] := ⟨hbz, Fr.refl _ _, _, hb3, World.ownsRow_nil _ _ _ _, by simp⟩
    have hall := hp2.all (P := fun e => RowAt w e.rv e.rd ∧ ElOk e) (fun k _ hk => HC.out.row _ (nth_mem hk))
    have hrow3 : ∀ k, k < l.length → ElOk (f' k) ∧ ∀ wi, Fr [bo] w3 wi → RowAt wi (f' k).rv (f' k).rd := fun k hk => ⟨(hall k (Nat.zero_le _) hk).2, fun wi fi => (hall k (Nat.zero_le _) hk).1.fr (F3.past fi (by simpa using hb0))⟩
    have hgr := groups_any (cap := c1) (ms := ms) hs3 hgb3 hout3 hrow3 ho2 (by omega) hlc
    have HP2 := Lib.hid hp2
    have F3' := Lib.hid F3
    have hw3 := F3.size
    clear hs3 hout3 hall hrow3 ho2 hp2 F3 hb3 hso
    by_cases hfit : ∀ r, fitB (sgn ms * sumK (firsts (fun k => pr (f' k)) l.length) r) = true
    · have hg2 : Calls Tryz.prog 103 #[.slice (some ⟨g, 0, none⟩) l.length c1, .func (.func 102) #[] #[], .func (.func 104) #[] #[], .bool ms, .func (.func 105) #[] #[.pointer (some ⟨bo, 0, none⟩)]] w3 fun e w' => e = .returned (.int .i64 0) ∧
          ∃ (outs : List El) (a : Option Addr) (c : Nat), OutAt w3 w' bo outs ∧ w'.heap[bo]? = some (.cells #[.slice a outs.length c] 31) ∧ outs.length ≤ c ∧ (a = none → c = 0) ∧ Canon cmpR (outs.map pr) (fun r => sgn ms * sumK (firsts (fun k => pr (f' k)) l.length) r) ∧ (∀ x ∈ outs, ElOk x) ∧ outs.length ≤ l.length := hgr.mono fun e w' hx => by
        rcases hx with ⟨rfl, -, outs, ho, hc, hk, hl⟩ | ⟨-, ⟨r, hr⟩, -⟩
        · refine ⟨rfl, outs, ?_⟩
          have ho' := ho
          obtain ⟨hbo, hfr, v, hcell, hown, hrows⟩ := ho
          rcases hown.2 with ⟨rfl, h2⟩ | ⟨g2, c2, cur, rfl, hb, hg, hcl, -⟩
          · exact ⟨none, 0, ho', by rw [h2]; exact hcell, by omega, fun _ => rfl, hc, hk, hl⟩
          · exact ⟨_, c2, ho', hcell, hcl, (fun h => by cases h), hc, hk, hl⟩
        · rw [hfit r] at hr; cases hr
      have HFit := Lib.hid hfit
      have HG2 := Lib.hid hg2
      clear hfit hg2 hgr
      go_wp2_with (first
        | (go_at_call 103; refine HG2.out.mono ?_; rintro e w4 ⟨rfl, outs, a, c, ho4, hv4, hcc, han, hc4, hk4, hl4⟩; have x4 : w4.cell? ⟨bo, 0, none⟩ = some (.slice a outs.length c) := by { simp [World.cell?, hv4] }; have HO4 := Lib.hid ho4; have HV4 := Lib.hid hv4; have HC4 := Lib.hid hc4; have HK4 := Lib.hid hk4; have HAn := Lib.hid han; clear ho4 hv4 hc4 hk4 han)
        | (go_at_call 106; refine (clip_any _ _ _ _ hcc HAn.out).mono ?_; rintro e w5 ⟨rfl, rfl⟩))
      go_ret2
      exact TidyPost.ok (F3'.out.past HO4.out.2.1 (by simpa using hb0)) hw3 HP2.out HFit.out HO4.out HV4.out HC4.out HK4.out hl4
    · have hbad : ∃ r, fitB (sgn ms * sumK (firsts (fun k => pr (f' k)) l.length) r) = false := by
        by_cases hx : ∃ r, fitB (sgn ms * sumK (firsts (fun k => pr (f' k)) l.length) r) = false
        · exact hx
        · exact absurd (fun r => by by_cases h9 : fitB (sgn ms * sumK (firsts (fun k => pr (f' k)) l.length) r) = true; exact h9; exact absurd ⟨r, by simpa using h9⟩ hx) hfit
      have hg2 : Calls Tryz.prog 103 #[.slice (some ⟨g, 0, none⟩) l.length c1, .func (.func 102) #[] #[], .func (.func 104) #[] #[], .bool ms, .func (.func 105) #[] #[.pointer (some ⟨bo, 0, none⟩)]] w3 fun e w' => e = .returned (.int .i64 30) ∧ Fr [bo] w3 w' := hgr.mono fun e w' hx => by
        rcases hx with ⟨-, h9, -⟩ | ⟨rfl, -, hf⟩
        · obtain ⟨r, hr⟩ := hbad
          rw [h9 r] at hr; cases hr
        · exact ⟨rfl, hf⟩
      have HBad := Lib.hid hbad
      have HG2 := Lib.hid hg2
      clear hfit hg2 hgr hbad
      go_wp2_with (go_at_call 103; refine HG2.out.mono ?_; rintro e w4 ⟨rfl, f4⟩)
      go_ret2
      refine ⟨F3'.out.past f4 (by simpa using hb0), Or.inr ⟨?_, rfl⟩⟩
      obtain ⟨r, hr⟩ := HBad.out
      exact ⟨r, by rw [← firsts_sum HP2.out]; exact hr⟩
end Go.Proofs.YtjchlfblbmiceaaGreat
