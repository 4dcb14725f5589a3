/- zset.Tidy and Negate; the reference's Like; what the laws of counted rows have in common. No condition but the sizes. -/
import Derived.Test.YtmionipeoffnhaaTy
namespace Go.Proofs.Ytmionipeoffnhaa
open Go.RowKit srt grp

/-- What Tidy answers where all sums have room. -/
def TidyOk (w : World) (l : List El) (s : Int) (e : Ending) (w' : World) : Prop :=
  ∃ (outs : List El) (a : Option Addr) (c : Nat), e = .returned (.tuple #[.slice a outs.length c, .int .i64 0]) ∧ Fr [] w w' ∧ ListIn w.heap.size w' (.slice a outs.length c) outs ∧ Canon cmpR (outs.map pr) (fun r => s * sumK (l.map pr) r) ∧ outs.length ≤ l.length ∧ Hid (c = outs.length)

set_option maxRecDepth 100000
theorem Tidy_any {w : World} {aa : Option Addr} {ac : Nat} {l : List El} (h : Cts w (.slice aa l.length ac) l) (hn : l.length ≤ 4398046511102) :
    Calls Try.prog 16 #[.slice aa l.length ac] w (TidyPost w l 1) := by
  have ht := tidy_any (ms := false) h hn
  have es : sgn false = 1 := rfl
  rw [es] at ht
  clear h es
  go_enter Try.func16, Try.ntmps16
  go_wp2_with (go_at_call 57; refine ht.mono ?_; rintro e w1 ⟨f1, ⟨h1, outs, a, c, rfl, h2⟩ | ⟨h1, rfl⟩⟩)
  · go_ret2
    exact ⟨f1, Or.inl ⟨h1, outs, a, c, rfl, h2⟩⟩
  · go_ret2
    exact ⟨f1, Or.inr ⟨h1, rfl⟩⟩
theorem Negate_any {w : World} {aa : Option Addr} {ac : Nat} {l : List El} (h : Cts w (.slice aa l.length ac) l) (hn : l.length ≤ 4398046511102) :
    Calls Try.prog 19 #[.slice aa l.length ac] w (TidyPost w l (-1)) := by
  have ht := tidy_any (ms := true) h hn
  have es : sgn true = -1 := rfl
  rw [es] at ht
  clear h es
  go_enter Try.func19, Try.ntmps19
  go_wp2_with (go_at_call 57; refine ht.mono ?_; rintro e w1 ⟨f1, ⟨h1, outs, a, c, rfl, h2⟩ | ⟨h1, rfl⟩⟩)
  · go_ret2
    exact ⟨f1, Or.inl ⟨h1, outs, a, c, rfl, h2⟩⟩
  · go_ret2
    exact ⟨f1, Or.inr ⟨h1, rfl⟩⟩

theorem TidyPost.fit {w w' : World} {l : List El} {s : Int} {e : Ending} (hf : ∀ r, fitB (s * sumK (l.map pr) r) = true) (h : TidyPost w l s e w') : TidyOk w l s e w' := by
  obtain ⟨f1, ⟨-, outs, a, c, rfl, h2, h3, h4⟩ | ⟨⟨r, hr⟩, -⟩⟩ := h
  · exact ⟨outs, a, c, rfl, f1, h2, h3, h4⟩
  · rw [hf r] at hr; cases hr

theorem Cts.cell {w : World} {a : Option Addr} {n c : Nat} {l : List El} (h : Cts w (.slice a n c) l) {k : Nat} (hk : k < l.length) :
    ∃ b off, a = some ⟨b, off, none⟩ ∧ w.cell? ⟨b, off + k * 2, none⟩ = some (.slice (nth l k).ra (nth l k).rl (nth l k).rc) ∧ w.cell? ⟨b, off + k * 2 + 1, none⟩ = some (.int .i64 (nth l k).n) := by
  rcases h.src.2.2 with ⟨-, h2⟩ | ⟨ad, c, hv, hc⟩
  · omega
  · simp only [Value.slice.injEq] at hv
    obtain ⟨e0, e1⟩ := elsC_at l k _ (nth_at hk)
    have c0 := hc _ _ e0
    have c1 := hc _ _ e1
    obtain ⟨e2, e3⟩ := elsC_at l 0 _ (nth_at (show 0 < l.length by omega))
    have hp := addr_plain (a := ad) (hc 0 _ e2)
    refine ⟨ad.block, ad.off, by rw [hv.1]; exact congrArg some hp, cell_add c0, ?_⟩
    have := cell_add c1
    rwa [← Nat.add_assoc] at this

set_option maxHeartbeats 1600000 in
theorem like_true {w : World} {a b : Option Addr} {c d : Nat} {l m : List El} (h : Cts w (.slice a l.length c) l) (h' : Cts w (.slice b m.length d) m) (he : l.map pr = m.map pr) (hn : l.length ≤ 4398046511103) :
    Calls Try.prog 17 #[.slice a l.length c, .slice b m.length d] w fun e w' => e = .returned (.bool true) ∧ Fr [] w w' := by
  have hlen : l.length = m.length := by have := congrArg List.length he; simpa using this
  have hel : ∀ k, k < l.length → (nth l k).rd = (nth m k).rd ∧ (nth l k).n = (nth m k).n := fun k hk => by
    have h1 := congrArg (fun x => x[k]?) he
    simp only [List.getElem?_map, nth_at hk, nth_at (show k < m.length by omega), Option.map_some, Option.some.injEq, pr, Prod.mk.injEq] at h1
    exact h1
  rw [← hlen]
  have H := Lib.hid h
  have H' := Lib.hid h'
  have HEl := Lib.hid hel
  have HLen := Lib.hid hlen
  have hlz : ((l.length : Int) != (l.length : Int)) = false := by simp
  clear h h' he hel hlen
  go_enter Try.func17, Try.ntmps17
  go_wp2_with fail
  go_loopw [13] (fun x wr => ∃ k : Nat, x = .int .i64 k ∧ k ≤ l.length ∧ Fr [] w wr) (fun x _ => l.length - (intOf x).toNat)
  case atStart => exact ⟨0, rfl, Nat.zero_le _, Fr.refl _ _⟩
  case round =>
    obtain ⟨k, rfl, hk, hf⟩ := hrel
    have HF := Lib.hid hf
    by_cases hlt : k < l.length
    · obtain ⟨b1, o1, e1, x0, x1⟩ := (H.out.fr hf).cell hlt
      obtain ⟨b2, o2, e2, y0, y1⟩ := (H'.out.fr hf).cell (show k < m.length by have := HLen.out; omega)
      obtain ⟨q1, q2⟩ := HEl.out k hlt
      subst e1
      subst e2
      rw [← q2] at y1
      have r1 := H.out.row _ (nth_mem hlt)
      have r2 := H'.out.row _ (nth_mem (show k < m.length by have := HLen.out; omega))
      have hs : ∀ p : FrBy wr, Calls Try.prog 36 #[.slice (nth l k).ra (nth l k).rl (nth l k).rc, .slice (nth m k).ra (nth m k).rl (nth m k).rc] p.wn fun e w' => e = .returned (.bool true) ∧ Fr [] p.wn w' := fun p => (rsame_any (r1.1.fr (hf.trans p.fr)) (r2.1.fr (hf.trans p.fr)) (by have := r1.2.len; omega)).mono fun e w' ⟨he, hf⟩ => ⟨by rw [he, q1, cmpR_self]; rfl, hf⟩
      have u0 : ∀ p : FrBy wr, p.wn.cell? ⟨b1, o1 + k * 2, none⟩ = some (.slice (nth l k).ra (nth l k).rl (nth l k).rc) := fun p => p.fr.cell x0 (by simp)
      have u1 : ∀ p : FrBy wr, p.wn.cell? ⟨b1, o1 + k * 2 + 1, none⟩ = some (.int .i64 (nth l k).n) := fun p => p.fr.cell x1 (by simp)
      have v0 : ∀ p : FrBy wr, p.wn.cell? ⟨b2, o2 + k * 2, none⟩ = some (.slice (nth m k).ra (nth m k).rl (nth m k).rc) := fun p => p.fr.cell y0 (by simp)
      have v1 : ∀ p : FrBy wr, p.wn.cell? ⟨b2, o2 + k * 2 + 1, none⟩ = some (.int .i64 (nth l k).n) := fun p => p.fr.cell y1 (by simp)
      have HC := Lib.hid hs
      have hz : ((nth l k).n != (nth l k).n) = false := by simp
      clear hf x0 x1 y0 y1 q1 q2 r1 r2 hs
      go_upto_region 6 with fail
      refine wp_region_fr (by kernel_rfl) (by kernel_rfl) ?_
      repeat (go_big_quiet_step ((go_at_call 36; exact Calls.fr_of (HC.out _))))
      refine wpQuiet_nil ?_
      intro wn hwn
      have fn : Fr [] wr wn := by obtain ⟨p, rfl⟩ := hwn; exact p.fr
      have FN := Lib.hid fn
      clear hwn u0 u1 v0 v1 HC fn
      go_wp2_with fail
      go_roundw
      case rel => exact ⟨k + 1, by go_num, by omega, HF.out.trans FN.out⟩
      case measure => simp [intOf] <;> omega
    · go_wp2_with fail
      go_ret
      exact ⟨rfl, HF.out⟩

theorem elsC_take (l : List El) (n j : Nat) (u : Value) (h : (elsC (l.take n))[j]? = some u) : (elsC l)[j]? = some u := by
  have h1 : elsC l = elsC (l.take n) ++ elsC (l.drop n) := by rw [← elsC_append, List.take_append_drop]
  rw [h1, List.getElem?_append_left (List.getElem?_eq_some_iff.1 h).1]
  exact h

/-- The first k of a list. -/
theorem Cts.take {w : World} {a : Option Addr} {n c k : Nat} {l : List El} (h : Cts w (.slice a n c) l) (hk : k ≤ l.length) : Cts w (.slice a k c) (l.take k) := by
  have hl : (l.take k).length = k := by rw [List.length_take]; omega
  refine ⟨⟨elsC_len _, elsC_one _, ?_⟩, fun e he => h.row e (List.mem_of_mem_take he)⟩
  rcases h.src.2.2 with ⟨hv, h2⟩ | ⟨ad, c2, hv, hc⟩
  · simp only [Value.slice.injEq] at hv
    refine Or.inl ⟨?_, by omega⟩
    rw [hv.1, hv.2.2, show k = 0 by omega]
  · simp only [Value.slice.injEq] at hv
    exact Or.inr ⟨ad, c, by rw [hl, hv.1], fun j u hj => hc j u (elsC_take l k j u hj)⟩

theorem cut_any {w : World} {a : Option Addr} {c : Nat} (n : Nat) (hc : n ≤ c) (ha : a = none → c = 0) (hm : c ≤ 9223372036854775807) :
    Calls Try.prog 14 #[.slice a n c] w fun e w' => e = .returned (.slice a (min n 60) c) ∧ w = w' := by
  by_cases h : n ≤ 60
  · rw [Nat.min_eq_left h]
    have h1 : ¬ (60 : Int) < (n : Int) := by omega
    go_enter Try.func14, Try.ntmps14
    go_wp2_with fail
    go_ret
    exact ⟨rfl, rfl⟩
  · rw [Nat.min_eq_right (by omega)]
    cases a with
    | none => have := ha rfl; omega
    | some ad =>
      have h1 : (60 : Int) < (n : Int) := by omega
      have h2 : (60 : Int) ≤ (c : Int) := by omega
      go_enter Try.func14, Try.ntmps14
      go_wp2_with fail
      go_ret
      exact ⟨rfl, rfl⟩

/-- A number that can be added up without end. -/
def sm (e : El) : El := { e with n := Int.tmod e.n 1000000 }
def smL (l : List El) : List El := (l.take 60).map sm
theorem smL_len (l : List El) : (smL l).length ≤ 60 := by simp [smL]; omega

theorem own_cts {w : World} {base : Nat} {v : Value} {l : List El} (h : w.ownsRow base 31 2 v l.length (elsC l)) (hr : ∀ e ∈ l, RowAt w e.rv e.rd ∧ ElOk e) : Cts w v l := ⟨Src.row h (elsC_one l), hr⟩

set_option maxHeartbeats 1600000 in
theorem small_any {w : World} {a : Option Addr} {c : Nat} {l : List El} (h : Cts w (.slice a l.length c) l) (hc : l.length ≤ c) (ha : a = none → c = 0) (hm : c ≤ 9223372036854775807) :
    Calls Try.prog 18 #[.slice a l.length c] w fun e w' => ∃ (a' : Option Addr) (c' : Nat), e = .returned (.slice a' (smL l).length c') ∧ Fr [] w w' ∧ w'.ownsRow w.heap.size 31 2 (.slice a' (smL l).length c') (smL l).length (elsC (smL l)) := by
  obtain ⟨i0, hi, hz0, hz1, hz2⟩ := info_parts infoC
  have hcut := cut_any (w := w) l.length hc ha hm
  have ht := h.take (k := min l.length 60) (by omega)
  have hT := Lib.hid ht
  have hl2 : (l.take (min l.length 60)) = l.take 60 := by
    rw [List.take_eq_take_iff]; omega
  generalize hM : min l.length 60 = M at *
  have hM60 : M ≤ 60 := by omega
  have HL2 := Lib.hid hl2
  have hlen : (l.take M).length = M := by rw [List.length_take]; omega
  have HLen := Lib.hid hlen
  clear h ht hl2 hlen hM
  generalize hlm : l.take M = lm at *
  clear hlm
  go_enter Try.func18, Try.ntmps18
  go_wp2_with (go_at_call 14; refine hcut.mono ?_; rintro e w' ⟨rfl, rfl⟩)
  go_loopw [3, 9] (fun v x wr => ∃ k : Nat, x = .int .i64 k ∧ k ≤ M ∧ wr.ownsRow w.heap.size 31 2 v k (elsC ((lm.take k).map sm)) ∧ Fr [] w wr) (fun _ x _ => M - (intOf x).toNat)
  case atStart => exact ⟨0, rfl, Nat.zero_le _, World.ownsRow_nil _ _ _ _, Fr.refl _ _⟩
  case round =>
    obtain ⟨k, rfl, hk, ho, hf⟩ := hrel
    have HO := Lib.hid ho
    have HF := Lib.hid hf
    by_cases hlt : k < M
    · obtain ⟨b, off, e1, x0, x1⟩ := (hT.out.fr hf).cell (k := k) (by have := HLen.out; omega)
      subst e1
      have hsn : (lm.take (k + 1)).map sm = (lm.take k).map sm ++ [sm (nth lm k)] := by
        rw [List.take_add_one, nth_at (by have := HLen.out; omega)]; simp
      have HSn := Lib.hid hsn
      obtain ⟨va, vc, rfl⟩ := ownsRow_shape ho
      clear ho hf hsn
      go_upto_region 5 with fail
      have fa : Fr [] wr (wr.alloc (.cells #[.slice (nth lm k).ra (nth lm k).rl (nth lm k).rc, .int .i64 (nth lm k).n] 31)) := (Fr.refl [] wr).alloc _
      have hb1 : (wr.alloc (.cells #[.slice (nth lm k).ra (nth lm k).rl (nth lm k).rc, .int .i64 (nth lm k).n] 31)).heap[wr.heap.size]? = some (.cells #[.slice (nth lm k).ra (nth lm k).rl (nth lm k).rc, .int .i64 (nth lm k).n] 31) := heap_alloc_new wr _
      have y0 : (wr.alloc (.cells #[.slice (nth lm k).ra (nth lm k).rl (nth lm k).rc, .int .i64 (nth lm k).n] 31)).cell? ⟨wr.heap.size, 0, none⟩ = some (.slice (nth lm k).ra (nth lm k).rl (nth lm k).rc) := cell_blk hb1 0 _ rfl
      have y1 : (wr.alloc (.cells #[.slice (nth lm k).ra (nth lm k).rl (nth lm k).rc, .int .i64 (nth lm k).n] 31)).cell? ⟨wr.heap.size, 1, none⟩ = some (.int .i64 (nth lm k).n) := cell_blk hb1 1 _ rfl
      have HOA := Lib.hid (ownsRow_fr HO.out fa (by simp))
      have HFA := Lib.hid (HF.out.trans fa)
      have hsz := (HF.out.trans fa).size
      clear fa hb1 HO HF x0 x1
      generalize wr.heap.size = bx at *
      generalize wr.alloc (.cells #[.slice (nth lm k).ra (nth lm k).rl (nth lm k).rc, .int .i64 (nth lm k).n] 31) = wa at *
      have hsrc : Src (wa.alloc (.cells #[.slice (nth lm k).ra (nth lm k).rl (nth lm k).rc, .int .i64 (Int.tmod (nth lm k).n 1000000)] 31)) 2 (.slice (some ⟨wa.heap.size, 0, none⟩) 1 1) 1 [.slice (nth lm k).ra (nth lm k).rl (nth lm k).rc, .int .i64 (Int.tmod (nth lm k).n 1000000)] := Src.block (heap_alloc_new wa _) rfl (by intro u hu; simp at hu; rcases hu with rfl | rfl <;> rfl)
      have HSrc := Lib.hid hsrc
      clear hsrc
      go_wp2_with (at_builtin; refine wpList_append_src _ rfl (.tmp 13) (.tmp 20) 22 rfl w.heap.size 31 i0 _ 2 32 Try.underlying22 hi hz0 hz1 hz2 rfl (by decide) (.slice va k vc) k _ rfl (HOA.out.alloc _) (.slice (some ⟨wa.heap.size, 0, none⟩) 1 1) 1 [.slice (nth lm k).ra (nth lm k).rl (nth lm k).rc, .int .i64 (Int.tmod (nth lm k).n 1000000)] rfl HSrc.out (by unfold maxLen; omega) (by omega) (by simp; omega) ?_; intro v' w1 hown1 hgrow1 _)
      have HOwn1 := Lib.hid hown1
      have HG1 := Lib.hid hgrow1
      clear hown1 hgrow1
      go_roundw
      case rel => exact ⟨k + 1, by go_num, by omega, by
        rw [HSn.out, elsC_append]
        simpa [elsC, El.cells, sm] using HOwn1.out, (HFA.out.alloc _).fresh HG1.out (fun r e => Or.inl (HOA.out.lt r e).1)⟩
      case measure => simp [intOf] <;> omega
    · have hkM := Lib.hid (show k = M by omega)
      clear ho hf
      go_wp2_with fail
      go_ret
      obtain ⟨va, vc, rfl⟩ := ownsRow_shape HO.out
      have h1 : (lm.take k).map sm = smL l := by
        unfold smL
        rw [hkM.out, List.take_of_length_le (by rw [HLen.out]; omega), HL2.out]
      have h2 : k = (smL l).length := by rw [← h1, List.length_map, List.length_take, HLen.out]; omega
      have h3 := HO.out
      rw [h1, h2] at h3
      exact ⟨va, vc, by rw [h2]; rfl, HF.out, h3⟩

/-- What small makes can be read. -/
theorem small_cts {w w' : World} {v : Value} {a : Option Addr} {c : Nat} {l : List El} (h : Cts w (.slice a l.length c) l) (f : Fr [] w w') (ho : w'.ownsRow w.heap.size 31 2 v (smL l).length (elsC (smL l))) : Cts w' v (smL l) :=
  own_cts ho fun e he => by
    obtain ⟨e0, h0, rfl⟩ := List.mem_map.1 he
    have h1 := h.row e0 (List.mem_of_mem_take h0)
    refine ⟨h1.1.fr f, ⟨h1.2.len, ?_⟩⟩
    simp only [sm]
    have h3 := Int.tmod_lt_of_pos e0.n (show (0 : Int) < 1000000 by decide)
    have h4 := Int.lt_tmod_of_pos e0.n (show (0 : Int) < 1000000 by decide)
    omega

theorem sum_bound {l : List El} {B : Nat} (h : ∀ e ∈ l, -(B : Int) ≤ e.n ∧ e.n ≤ (B : Int)) (r : List Dt) : -((l.length * B : Nat) : Int) ≤ sumK (l.map pr) r ∧ sumK (l.map pr) r ≤ ((l.length * B : Nat) : Int) := by
  induction l with
  | nil => simp [sumK_nil]
  | cons e l ih =>
    have h1 := ih (fun x hx => h x (by simp [hx]))
    have h2 := h e (by simp)
    rw [List.map_cons, sumK_cons, List.length_cons, Nat.add_mul, Nat.one_mul]
    have h3 : (pr e).2 = e.n := rfl
    rw [h3]
    split <;> omega
theorem small_bound (l : List El) (r : List Dt) : -60000000 ≤ sumK ((smL l).map pr) r ∧ sumK ((smL l).map pr) r ≤ 60000000 := by
  have h1 := sum_bound (l := smL l) (B := 1000000) (fun e he => by
    obtain ⟨e0, -, rfl⟩ := List.mem_map.1 he
    simp only [sm]
    have h3 := Int.tmod_lt_of_pos e0.n (show (0 : Int) < 1000000 by decide)
    have h4 := Int.lt_tmod_of_pos e0.n (show (0 : Int) < 1000000 by decide)
    omega) r
  have h2 := smL_len l
  omega
theorem fit_of {S : Int} (h1 : -1000000000000 ≤ S) (h2 : S ≤ 1000000000000) : fitB S = true := by rw [fitB_iff]; omega
end Go.Proofs.Ytmionipeoffnhaa
