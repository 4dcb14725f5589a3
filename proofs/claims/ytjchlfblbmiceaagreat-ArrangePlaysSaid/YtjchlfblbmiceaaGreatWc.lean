/- counted rows and updates, told: the parts that the spines lean on. No condition but the sizes. -/
import Derived.Test.YtjchlfblbmiceaaGreatUy
import Derived.ArgAppend
namespace Go.Proofs.YtjchlfblbmiceaaGreat
open Go.RowKit srt grp

/-- What Tidy answers where all sums have room. -/
def TidyOk (w : World) (l : List El) (s : Int) (e : Ending) (w' : World) : Prop :=
  ∃ (outs : List El) (a : Option Addr) (c : Nat), e = .returned (.tuple #[.slice a outs.length c, .int .i64 0]) ∧ Fr [] w w' ∧ ListIn w.heap.size w' (.slice a outs.length c) outs ∧ Canon cmpR (outs.map pr) (fun r => s * sumK (l.map pr) r) ∧ outs.length ≤ l.length ∧ Hid (c = outs.length)

set_option maxRecDepth 100000
theorem Tidy_any {w : World} {aa : Option Addr} {ac : Nat} {l : List El} (h : Cts w (.slice aa l.length ac) l) (hn : l.length ≤ 4398046511102) :
    Calls Tryz.prog 60 #[.slice aa l.length ac] w (TidyPost w l 1) := by
  have ht := tidy_any (ms := false) h hn
  have es : sgn false = 1 := rfl
  rw [es] at ht
  clear h es
  go_enter Tryz.func60, Tryz.ntmps60
  go_wp2_with (go_at_call 85; refine ht.mono ?_; rintro e w1 ⟨f1, ⟨h1, outs, a, c, rfl, h2⟩ | ⟨h1, rfl⟩⟩)
  · go_ret2
    exact ⟨f1, Or.inl ⟨h1, outs, a, c, rfl, h2⟩⟩
  · go_ret2
    exact ⟨f1, Or.inr ⟨h1, rfl⟩⟩
theorem TidyPost.fit {w w' : World} {l : List El} {s : Int} {e : Ending} (hf : ∀ r, fitB (s * sumK (l.map pr) r) = true) (h : TidyPost w l s e w') : TidyOk w l s e w' := by
  obtain ⟨f1, ⟨-, outs, a, c, rfl, h2, h3, h4⟩ | ⟨⟨r, hr⟩, -⟩⟩ := h
  · exact ⟨outs, a, c, rfl, f1, h2, h3, h4⟩
  · rw [hf r] at hr; cases hr

theorem Cts.cell {w : World} {a : Option Addr} {n c : Nat} {l : List El} (h : Cts w (.slice a n c) l) {k : Nat} (hk : k < l.length) :
    ∃ b off, a = some ⟨b, off, none⟩ ∧ w.cell? ⟨b, off + k * 2, none⟩ = some (.slice (nth l k).ra (nth l k).rl (nth l k).rc) ∧ w.cell? ⟨b, off + k * 2 + 1, none⟩ = some (.int .i64 (nth l k).n) := by
  rcases h.src.2.2 with ⟨-, h2⟩ | ⟨ad, c, hv, hc⟩
  · omega
  · simp only [Value.slice.injEq] at hv
    obtain ⟨e0, e1⟩ := elsC_at l k _ (nth_at hk)
    have c0 := hc _ _ e0
    have c1 := hc _ _ e1
    obtain ⟨e2, e3⟩ := elsC_at l 0 _ (nth_at (show 0 < l.length by omega))
    have hp := addr_plain (a := ad) (hc 0 _ e2)
    refine ⟨ad.block, ad.off, by rw [hv.1]; exact congrArg some hp, cell_add c0, ?_⟩
    have := cell_add c1
    rwa [← Nat.add_assoc] at this

set_option maxHeartbeats 1600000 in
theorem like_true {w : World} {a b : Option Addr} {c d : Nat} {l m : List El} (h : Cts w (.slice a l.length c) l) (h' : Cts w (.slice b m.length d) m) (he : l.map pr = m.map pr) (hn : l.length ≤ 4398046511103) :
    Calls Tryz.prog 12 #[.slice a l.length c, .slice b m.length d] w fun e w' => e = .returned (.bool true) ∧ Fr [] w w' := by
  have hlen : l.length = m.length := by have := congrArg List.length he; simpa using this
  have hel : ∀ k, k < l.length → (nth l k).rd = (nth m k).rd ∧ (nth l k).n = (nth m k).n := fun k hk => by
    have h1 := congrArg (fun x => x[k]?) he
    simp only [List.getElem?_map, nth_at hk, nth_at (show k < m.length by omega), Option.map_some, Option.some.injEq, pr, Prod.mk.injEq] at h1
    exact h1
  rw [← hlen]
  have H := Lib.hid h
  have H' := Lib.hid h'
  have HEl := Lib.hid hel
  have HLen := Lib.hid hlen
  have hlz : ((l.length : Int) != (l.length : Int)) = false := by simp
  clear h h' he hel hlen
  go_enter Tryz.func12, Tryz.ntmps12
  go_wp2_with fail
  go_loopw [13] (fun x wr => ∃ k : Nat, x = .int .i64 k ∧ k ≤ l.length ∧ Fr [] w wr) (fun x _ => l.length - (intOf x).toNat)
  case atStart => exact ⟨0, rfl, Nat.zero_le _, Fr.refl _ _⟩
  case round =>
    obtain ⟨k, rfl, hk, hf⟩ := hrel
    have HF := Lib.hid hf
    by_cases hlt : k < l.length
    · obtain ⟨b1, o1, e1, x0, x1⟩ := (H.out.fr hf).cell hlt
      obtain ⟨b2, o2, e2, y0, y1⟩ := (H'.out.fr hf).cell (show k < m.length by have := HLen.out; omega)
      obtain ⟨q1, q2⟩ := HEl.out k hlt
      subst e1
      subst e2
      rw [← q2] at y1
      have r1 := H.out.row _ (nth_mem hlt)
      have r2 := H'.out.row _ (nth_mem (show k < m.length by have := HLen.out; omega))
      have hs : ∀ p : FrBy wr, Calls Tryz.prog 36 #[.slice (nth l k).ra (nth l k).rl (nth l k).rc, .slice (nth m k).ra (nth m k).rl (nth m k).rc] p.wn fun e w' => e = .returned (.bool true) ∧ Fr [] p.wn w' := fun p => (rsame_any (r1.1.fr (hf.trans p.fr)) (r2.1.fr (hf.trans p.fr)) (by have := r1.2.len; omega)).mono fun e w' ⟨he, hf⟩ => ⟨by rw [he, q1, cmpR_self]; rfl, hf⟩
      have u0 : ∀ p : FrBy wr, p.wn.cell? ⟨b1, o1 + k * 2, none⟩ = some (.slice (nth l k).ra (nth l k).rl (nth l k).rc) := fun p => p.fr.cell x0 (by simp)
      have u1 : ∀ p : FrBy wr, p.wn.cell? ⟨b1, o1 + k * 2 + 1, none⟩ = some (.int .i64 (nth l k).n) := fun p => p.fr.cell x1 (by simp)
      have v0 : ∀ p : FrBy wr, p.wn.cell? ⟨b2, o2 + k * 2, none⟩ = some (.slice (nth m k).ra (nth m k).rl (nth m k).rc) := fun p => p.fr.cell y0 (by simp)
      have v1 : ∀ p : FrBy wr, p.wn.cell? ⟨b2, o2 + k * 2 + 1, none⟩ = some (.int .i64 (nth l k).n) := fun p => p.fr.cell y1 (by simp)
      have HC := Lib.hid hs
      have hz : ((nth l k).n != (nth l k).n) = false := by simp
      clear hf x0 x1 y0 y1 q1 q2 r1 r2 hs
      go_upto_region 6 with fail
      refine wp_region_fr (by kernel_rfl) (by kernel_rfl) ?_
      repeat (go_big_quiet_step ((go_at_call 36; exact Calls.fr_of (HC.out _))))
      refine wpQuiet_nil ?_
      intro wn hwn
      have fn : Fr [] wr wn := by obtain ⟨p, rfl⟩ := hwn; exact p.fr
      have FN := Lib.hid fn
      clear hwn u0 u1 v0 v1 HC fn
      go_wp2_with fail
      go_roundw
      case rel => exact ⟨k + 1, by go_num, by omega, HF.out.trans FN.out⟩
      case measure => simp [intOf] <;> omega
    · go_wp2_with fail
      go_ret
      exact ⟨rfl, HF.out⟩

theorem elsC_take (l : List El) (n j : Nat) (u : Value) (h : (elsC (l.take n))[j]? = some u) : (elsC l)[j]? = some u := by
  have h1 : elsC l = elsC (l.take n) ++ elsC (l.drop n) := by rw [← elsC_append, List.take_append_drop]
  rw [h1, List.getElem?_append_left (List.getElem?_eq_some_iff.1 h).1]
  exact h

/-- The first k of a list. -/
theorem Cts.take {w : World} {a : Option Addr} {n c k : Nat} {l : List El} (h : Cts w (.slice a n c) l) (hk : k ≤ l.length) : Cts w (.slice a k c) (l.take k) := by
  have hl : (l.take k).length = k := by rw [List.length_take]; omega
  refine ⟨⟨elsC_len _, elsC_one _, ?_⟩, fun e he => h.row e (List.mem_of_mem_take he)⟩
  rcases h.src.2.2 with ⟨hv, h2⟩ | ⟨ad, c2, hv, hc⟩
  · simp only [Value.slice.injEq] at hv
    refine Or.inl ⟨?_, by omega⟩
    rw [hv.1, hv.2.2, show k = 0 by omega]
  · simp only [Value.slice.injEq] at hv
    exact Or.inr ⟨ad, c, by rw [hl, hv.1], fun j u hj => hc j u (elsC_take l k j u hj)⟩

/-- A number that can be added up without end. -/
def sm (e : El) : El := { e with n := Int.tmod e.n 1000000 }
def smL (l : List El) : List El := (l.take 60).map sm
theorem smL_len (l : List El) : (smL l).length ≤ 60 := by simp [smL]; omega

theorem own_cts {w : World} {base : Nat} {v : Value} {l : List El} (h : w.ownsRow base 68 2 v l.length (elsC l)) (hr : ∀ e ∈ l, RowAt w e.rv e.rd ∧ ElOk e) : Cts w v l := ⟨Src.row h (elsC_one l), hr⟩

/-- What small makes can be read. -/
theorem small_cts {w w' : World} {v : Value} {a : Option Addr} {c : Nat} {l : List El} (h : Cts w (.slice a l.length c) l) (f : Fr [] w w') (ho : w'.ownsRow w.heap.size 68 2 v (smL l).length (elsC (smL l))) : Cts w' v (smL l) :=
  own_cts ho fun e he => by
    obtain ⟨e0, h0, rfl⟩ := List.mem_map.1 he
    have h1 := h.row e0 (List.mem_of_mem_take h0)
    refine ⟨h1.1.fr f, ⟨h1.2.len, ?_⟩⟩
    simp only [sm]
    have h3 := Int.tmod_lt_of_pos e0.n (show (0 : Int) < 1000000 by decide)
    have h4 := Int.lt_tmod_of_pos e0.n (show (0 : Int) < 1000000 by decide)
    omega

theorem sum_bound {l : List El} {B : Nat} (h : ∀ e ∈ l, -(B : Int) ≤ e.n ∧ e.n ≤ (B : Int)) (r : List Dt) : -((l.length * B : Nat) : Int) ≤ sumK (l.map pr) r ∧ sumK (l.map pr) r ≤ ((l.length * B : Nat) : Int) := by
  induction l with
  | nil => simp [sumK_nil]
  | cons e l ih =>
    have h1 := ih (fun x hx => h x (by simp [hx]))
    have h2 := h e (by simp)
    rw [List.map_cons, sumK_cons, List.length_cons, Nat.add_mul, Nat.one_mul]
    have h3 : (pr e).2 = e.n := rfl
    rw [h3]
    split <;> omega
theorem small_bound (l : List El) (r : List Dt) : -60000000 ≤ sumK ((smL l).map pr) r ∧ sumK ((smL l).map pr) r ≤ 60000000 := by
  have h1 := sum_bound (l := smL l) (B := 1000000) (fun e he => by
    obtain ⟨e0, -, rfl⟩ := List.mem_map.1 he
    simp only [sm]
    have h3 := Int.tmod_lt_of_pos e0.n (show (0 : Int) < 1000000 by decide)
    have h4 := Int.lt_tmod_of_pos e0.n (show (0 : Int) < 1000000 by decide)
    omega) r
  have h2 := smL_len l
  omega
theorem fit_of {S : Int} (h1 : -1000000000000 ≤ S) (h2 : S ≤ 1000000000000) : fitB S = true := by rw [fitB_iff]; omega
end Go.Proofs.YtjchlfblbmiceaaGreat
namespace Go.Proofs.YtjchlfblbmiceaaGreat
open Go.RowKit srt grp

theorem tidyFit {w : World} {aa : Option Addr} {ac : Nat} {l : List El} (h : Cts w (.slice aa l.length ac) l) (hn : l.length ≤ 1000) (hf : ∀ r, fitB (1 * sumK (l.map pr) r) = true) :
    Calls Tryz.prog 60 #[.slice aa l.length ac] w (TidyOk w l 1) := (Tidy_any h (by omega)).mono fun _ _ h => h.fit hf
/-! ### a row that is there three times -/
def kd : Dt := ⟨2, 7, []⟩
def kEl (b : Nat) (n : Int) : El := ⟨some ⟨b, 0, none⟩, 1, 1, n, [kd]⟩
def kWorld (w : World) : World := ((w.alloc (.cells #[.int .i64 2, .int .i64 7, .string ⟨#[]⟩] 94)).alloc (.cells #[.int .i64 2, .int .i64 7, .string ⟨#[]⟩] 94)).alloc
  (.cells #[.slice (some ⟨w.heap.size, 0, none⟩) 1 1, .int .i64 1, .slice (some ⟨w.heap.size + 1, 0, none⟩) 1 1, .int .i64 2] 68)
theorem kFr (w : World) : Fr [] w (kWorld w) := (((Fr.refl [] w).alloc _).alloc _).alloc _
theorem kRow {w : World} {b : Nat} (h : w.heap[b]? = some (.cells #[.int .i64 2, .int .i64 7, .string ⟨#[]⟩] 94)) : RowAt w (.slice (some ⟨b, 0, none⟩) 1 1) [kd] := by
  refine Or.inr ⟨b, 0, 1, rfl, Nat.le_refl _, fun i d hi => ?_⟩
  cases i with
  | succ i => simp at hi
  | zero =>
    simp at hi
    subst hi
    exact ⟨cell_blk h 0 _ rfl, cell_blk h 1 _ rfl, cell_blk h 2 _ rfl⟩
theorem kCts (w : World) : Cts (kWorld w) (.slice (some ⟨w.heap.size + 2, 0, none⟩) 2 2) [kEl w.heap.size 1, kEl (w.heap.size + 1) 2] := by
  have h0 : (w.alloc (.cells #[.int .i64 2, .int .i64 7, .string ⟨#[]⟩] 94)).heap[w.heap.size]? = some (.cells #[.int .i64 2, .int .i64 7, .string ⟨#[]⟩] 94) := heap_alloc_new w _
  have h1 := heap_alloc_new (w.alloc (.cells #[.int .i64 2, .int .i64 7, .string ⟨#[]⟩] 94)) (.cells #[.int .i64 2, .int .i64 7, .string ⟨#[]⟩] 94)
  have e1 : (w.alloc (.cells #[.int .i64 2, .int .i64 7, .string ⟨#[]⟩] 94)).heap.size = w.heap.size + 1 := by simp
  rw [e1] at h1
  have h2 : (kWorld w).heap[w.heap.size + 2]? = some (.cells #[.slice (some ⟨w.heap.size, 0, none⟩) 1 1, .int .i64 1, .slice (some ⟨w.heap.size + 1, 0, none⟩) 1 1, .int .i64 2] 68) := by
    have := heap_alloc_new ((w.alloc (.cells #[.int .i64 2, .int .i64 7, .string ⟨#[]⟩] 94)).alloc (.cells #[.int .i64 2, .int .i64 7, .string ⟨#[]⟩] 94)) (.cells #[.slice (some ⟨w.heap.size, 0, none⟩) 1 1, .int .i64 1, .slice (some ⟨w.heap.size + 1, 0, none⟩) 1 1, .int .i64 2] 68)
    have e2 : ((w.alloc (.cells #[.int .i64 2, .int .i64 7, .string ⟨#[]⟩] 94)).alloc (.cells #[.int .i64 2, .int .i64 7, .string ⟨#[]⟩] 94)).heap.size = w.heap.size + 2 := by simp
    rw [e2] at this
    exact this
  have f1 : Fr [] (w.alloc (.cells #[.int .i64 2, .int .i64 7, .string ⟨#[]⟩] 94)) (kWorld w) := ((Fr.refl [] _).alloc _).alloc _
  have f2 : Fr [] ((w.alloc (.cells #[.int .i64 2, .int .i64 7, .string ⟨#[]⟩] 94)).alloc (.cells #[.int .i64 2, .int .i64 7, .string ⟨#[]⟩] 94)) (kWorld w) := (Fr.refl [] _).alloc _
  refine ⟨Src.block (cs := #[.slice (some ⟨w.heap.size, 0, none⟩) 1 1, .int .i64 1, .slice (some ⟨w.heap.size + 1, 0, none⟩) 1 1, .int .i64 2]) h2 rfl (by intro u hu; simp at hu; rcases hu with rfl | rfl | rfl | rfl <;> rfl), fun e he => ?_⟩
  simp only [List.mem_cons, List.not_mem_nil, or_false] at he
  rcases he with rfl | rfl
  · exact ⟨kRow (f1.heap h0 (by simp)), ⟨by simp [kEl], by simp [kEl]⟩⟩
  · exact ⟨kRow (f2.heap h1 (by simp)), ⟨by simp [kEl], by simp [kEl]⟩⟩

theorem k_tidy (w : World) : Calls Tryz.prog 60 #[.slice (some ⟨w.heap.size + 2, 0, none⟩) 2 2] (kWorld w) fun e w' => ∃ (b off c : Nat), e = .returned (.tuple #[.slice (some ⟨b, off, none⟩) 1 c, .int .i64 0]) ∧ Fr [] w w' ∧ w'.cell? ⟨b, off + 1, none⟩ = some (.int .i64 3) := by
  have hsum : ∀ r, sumK ([kEl w.heap.size 1, kEl (w.heap.size + 1) 2].map pr) r = if [kd] = r then 3 else 0 := fun r => by
    simp only [List.map_cons, List.map_nil, sumK_cons, sumK_nil, pr, kEl]
    split <;> rfl
  have ht := tidyFit (l := [kEl w.heap.size 1, kEl (w.heap.size + 1) 2]) (kCts w) (by show (2 : Nat) ≤ 1000; omega) (fun r => by rw [hsum]; split <;> simp [fitB])
  refine ht.mono fun e w' h => ?_
  obtain ⟨outs, a, c, rfl, f, hl, hc, -⟩ := h
  have hu : outs.map pr = [([kd], (3 : Int))] := Canon.uniq cmpRS hc ⟨List.pairwise_singleton _ _, by simp, fun r => by
    show _ = 1 * sumK ([kEl w.heap.size 1, kEl (w.heap.size + 1) 2].map pr) r
    rw [hsum, sumK_cons, sumK_nil]; split <;> rfl⟩
  have hlen : outs.length = 1 := by have := congrArg List.length hu; simpa using this
  obtain ⟨b, off, rfl, -, h1⟩ := hl.cts.cell (k := 0) (by omega)
  have hn : (nth outs 0).n = 3 := by
    have h2 := congrArg (fun x => x[0]?) hu
    simp only [List.getElem?_map, nth_at (show 0 < outs.length by omega), Option.map_some, List.getElem?_cons_zero, Option.some.injEq, pr, Prod.mk.injEq] at h2
    exact h2.2
  rw [hn] at h1
  rw [hlen]
  exact ⟨b, off, c, rfl, (kFr w).trans f, by simpa using h1⟩

set_option maxRecDepth 100000
end Go.Proofs.YtjchlfblbmiceaaGreat
namespace Go.Proofs.YtjchlfblbmiceaaGreat
open Go.RowKit srt grp

theorem tidyFitN {w : World} {aa : Option Addr} {n ac : Nat} {l : List El} (h : Cts w (.slice aa n ac) l) (hn : n = l.length) (hm : l.length ≤ 1000) (hf : ∀ r, fitB (1 * sumK (l.map pr) r) = true) :
    Calls Tryz.prog 60 #[.slice aa n ac] w (TidyOk w l 1) := by
  subst hn; exact tidyFit h hm hf

theorem empty_own (w : World) : (w.alloc (.cells #[] 68)).ownsRow w.heap.size 68 2 (.slice (some ⟨w.heap.size, 0, none⟩) 0 0) 0 [] := World.ownsRow_made w #[] 0 (Nat.le_refl _) (by decide) rfl

/-- append onto counted rows of the call's own. -/
theorem wpList_counts {w : World} {ops : Array Oper} {rest : List Oper} {o : Oper} {a : Act} {Q : Exit → Act → World → Prop} (hgd : o.guard = none) (s x : Operand)
    (ho : o.op = .call { callee := .builtin .append, args := #[s, x], argTypes := #[31, 31] }) {base n : Nat} {v : Value} {xs : List Value} (hs : a.eval s = v) (hown : w.ownsRow base 68 2 v n xs)
    {xv : Value} {l : List El} (hx : a.eval x = xv) (hc : Cts w xv l) (hn : n + l.length ≤ 100000) (hbase : base ≤ w.heap.size)
    (h : ∀ a' c' w', w'.ownsRow base 68 2 (.slice a' (n + l.length) c') (n + l.length) (xs ++ elsC l) → w.grownBy w' v.ownBlock → wpList Tryz.prog ops Q rest (a.put o.dst (.slice a' (n + l.length) c')) w') : wpList Tryz.prog ops Q (o :: rest) a w := by
  obtain ⟨i0, hi, hz0, hz1, hz2⟩ := info_parts infoC
  refine wpList_append_src w hgd s x 31 ho base 68 i0 _ 2 32 Tryz.underlying31 hi hz0 hz1 hz2 rfl (by decide) v n xs hs hown xv l.length (elsC l) hx hc.src (by unfold maxLen; omega) (by omega) hbase ?_
  intro v' w' h1 h2 _
  obtain ⟨a', c', rfl⟩ := ownsRow_shape h1
  exact h a' c' w' h1 h2

theorem wpList_counts0 {w : World} {ops : Array Oper} {rest : List Oper} {o : Oper} {a : Act} {Q : Exit → Act → World → Prop} (hgd : o.guard = none) (s x : Operand)
    (ho : o.op = .call { callee := .builtin .append, args := #[s, x], argTypes := #[31, 31] }) {base : Nat} {v : Value} (hs : a.eval s = v) (hown : w.ownsRow base 68 2 v 0 [])
    {xv : Value} {l : List El} (hx : a.eval x = xv) (hc : Cts w xv l) (hn : l.length ≤ 100000) (hbase : base ≤ w.heap.size)
    (h : ∀ a' c' w', w'.ownsRow base 68 2 (.slice a' l.length c') l.length (elsC l) → w.grownBy w' v.ownBlock → wpList Tryz.prog ops Q rest (a.put o.dst (.slice a' l.length c')) w') : wpList Tryz.prog ops Q (o :: rest) a w :=
  wpList_counts hgd s x ho hs hown hx hc (by omega) hbase fun a' c' w' h1 h2 => by
    rw [Nat.zero_add] at h1 ⊢
    exact h a' c' w' (by simpa using h1) h2

/-- Two lists, one behind the other, in memory of the call's own. -/
theorem two_cts {wp wq w2 : World} {base : Nat} {p q : List El} (hp : ∀ e ∈ p, RowAt wp e.rv e.rd ∧ ElOk e) (hq : ∀ e ∈ q, RowAt wq e.rv e.rd ∧ ElOk e) (fp : Fr [] wp w2) (fq : Fr [] wq w2) {a : Option Addr} {n c : Nat} (hn : n = p.length + q.length) (ho : w2.ownsRow base 68 2 (.slice a n c) n (elsC p ++ elsC q)) : Cts w2 (.slice a n c) (p ++ q) := by
  subst hn
  rw [← elsC_append] at ho
  have e : p.length + q.length = (p ++ q).length := by simp
  rw [e] at ho ⊢
  refine own_cts ho fun x hx => ?_
  rcases List.mem_append.1 hx with hx | hx
  · exact ⟨(hp x hx).1.fr fp, (hp x hx).2⟩
  · exact ⟨(hq x hx).1.fr fq, (hq x hx).2⟩

theorem small_rows {w : World} {v : Value} {l : List El} (h : Cts w v l) : ∀ e ∈ smL l, RowAt w e.rv e.rd ∧ ElOk e := fun e he => by
  obtain ⟨e0, h0, rfl⟩ := List.mem_map.1 he
  have h1 := h.row e0 (List.mem_of_mem_take h0)
  refine ⟨h1.1, ⟨h1.2.len, ?_⟩⟩
  simp only [sm]
  have h3 := Int.tmod_lt_of_pos e0.n (show (0 : Int) < 1000000 by decide)
  have h4 := Int.lt_tmod_of_pos e0.n (show (0 : Int) < 1000000 by decide)
  omega

/-- Behind two appends: memory that is newer alone has turned. -/
theorem app_fr {w v u : World} {b : Option Addr} {n c : Nat} {xs : List Value} (f : Fr [] w v) (ho : v.ownsRow w.heap.size 68 2 (.slice b n c) n xs) (hg : v.grownBy u (Value.slice b n c).ownBlock) : Fr [] w u :=
  f.fresh hg (fun r e => Or.inl (ho.lt r e).1)

theorem Canon.neg {os : List (List Dt × Int)} {S T : List Dt → Int} (h : Canon cmpR os S) (e : ∀ r, T r = - S r) : Canon cmpR (os.map fun p => (p.1, -p.2)) T := by
  refine ⟨List.pairwise_map.2 h.up, fun p hp => ?_, fun r => ?_⟩
  · obtain ⟨q, hq, rfl⟩ := List.mem_map.1 hp
    have := h.nz q hq
    simp only
    omega
  · rw [e, ← h.sum]
    clear h e
    induction os with
    | nil => simp [sumK_nil]
    | cons p os ih =>
      rw [List.map_cons, sumK_cons, sumK_cons, ih]
      simp only
      split <;> omega

theorem zero8 {k : Nat} (h : k < 8) : (#[Value.int .i64 0, .int .i64 0, .int .i64 0, .int .i64 0, .int .i64 0, .int .i64 0, .int .i64 0, .int .i64 0] : Array Value)[k]? = some (.int .i64 0) := by
  match k, h with
  | 0, _ => rfl
  | 1, _ => rfl
  | 2, _ => rfl
  | 3, _ => rfl
  | 4, _ => rfl
  | 5, _ => rfl
  | 6, _ => rfl
  | 7, _ => rfl

theorem canon_lt {l : List El} {S : List Dt → Int} (h : Canon cmpR (l.map pr) S) {k : Nat} (hk : k + 1 < l.length) : cmpR (nth l k).rd (nth l (k + 1)).rd < 0 := by
  have h1 := List.pairwise_iff_getElem.1 h.up k (k + 1) (by simp; omega) (by simp; omega) (by omega)
  have e : ∀ i (hi : i < l.length), l[i] = nth l i := fun i hi => by
    have := nth_at hi; rw [List.getElem?_eq_getElem hi] at this; exact Option.some.inj this
  simp only [List.getElem_map, pr] at h1
  rw [e k (by omega), e (k + 1) hk] at h1
  exact h1
theorem canon_nz {l : List El} {S : List Dt → Int} (h : Canon cmpR (l.map pr) S) {k : Nat} (hk : k < l.length) : ((nth l k).n == 0) = false := by
  have := h.nz _ (List.mem_map_of_mem (f := pr) (nth_mem hk))
  simpa [pr] using this

/-- What the eight lists are to one another. -/
theorem group_plain {l1 l2 l3 l4 l5 l6 l7 l8 : List El} {sx sy : List El} (n1 : Canon cmpR (l1.map pr) fun r => 1 * sumK (sx.map pr) r) (n2 : Canon cmpR (l2.map pr) fun r => 1 * sumK (sy.map pr) r) (n3 : Canon cmpR (l3.map pr) fun r => 1 * sumK ((sx ++ sy).map pr) r)
    (n4 : Canon cmpR (l4.map pr) fun r => 1 * sumK ((l2 ++ l1).map pr) r) (n5 : Canon cmpR (l5.map pr) fun r => 1 * sumK (l1.map pr) r) (n6 : Canon cmpR (l6.map pr) fun r => -1 * sumK (sx.map pr) r)
    (n7 : Canon cmpR (l7.map pr) fun r => -1 * sumK (l6.map pr) r) (n8 : Canon cmpR (l8.map pr) fun r => 1 * sumK ((l6 ++ l1).map pr) r) :
    l3.map pr = l4.map pr ∧ l5.map pr = l1.map pr ∧ l7.map pr = l1.map pr ∧ l8.length = 0 ∧ l6.length = l1.length := by
  have a1 := fun r => (n1.sum r).trans (Int.one_mul _)
  have a2 := fun r => (n2.sum r).trans (Int.one_mul _)
  have a6 := fun r => (n6.sum r).trans (Int.neg_one_mul _)
  refine ⟨n3.uniq cmpRS (n4.of fun r => ?_), n5.uniq cmpRS (n1.of fun r => ?_), n7.uniq cmpRS (n1.of fun r => ?_), ?_, ?_⟩
  · rw [List.map_append, sumK_append, List.map_append, sumK_append, a1, a2]; omega
  · rw [a1]
  · rw [a6]; omega
  · have : l8.map pr = [] := n8.uniq cmpRS (Canon.nil fun r => by rw [List.map_append, sumK_append, a1, a6]; omega)
    have := congrArg List.length this
    simpa using this
  · have : l6.map pr = (l1.map pr).map fun p => (p.1, -p.2) := n6.uniq cmpRS (Canon.neg n1 fun r => by omega)
    have := congrArg List.length this
    simpa using this

theorem fit_small (l : List El) (r : List Dt) : fitB (1 * sumK ((smL l).map pr) r) = true := by
  have := small_bound l r
  exact fit_of (by omega) (by omega)

set_option maxRecDepth 100000
end Go.Proofs.YtjchlfblbmiceaaGreat
namespace Go.Proofs.YtjchlfblbmiceaaGreat
open Go.RowKit srt grp

set_option maxRecDepth 100000
theorem upd.Cts.cell {w : World} {a : Option Addr} {n c : Nat} {l : List upd.El} (h : upd.Cts w (.slice a n c) l) {k : Nat} (hk : k < l.length) :
    ∃ b off, a = some ⟨b, off, none⟩ ∧ w.cell? ⟨b, off + k * 3, none⟩ = some (.slice (upd.nth l k).ra (upd.nth l k).rl (upd.nth l k).rc) ∧ w.cell? ⟨b, off + k * 3 + 1, none⟩ = some (.int .i64 (upd.nth l k).t) ∧ w.cell? ⟨b, off + k * 3 + 2, none⟩ = some (.int .i64 (upd.nth l k).n) := by
  rcases h.src.2.2 with ⟨-, h2⟩ | ⟨ad, c, hv, hc⟩
  · omega
  · simp only [Value.slice.injEq] at hv
    obtain ⟨e0, e1, e2⟩ := upd.elsC_at l k _ (upd.nth_at hk)
    have c0 := hc _ _ e0
    have c1 := hc _ _ e1
    have c2 := hc _ _ e2
    obtain ⟨e3, -, -⟩ := upd.elsC_at l 0 _ (upd.nth_at (show 0 < l.length by omega))
    have hp := addr_plain (a := ad) (hc 0 _ e3)
    refine ⟨ad.block, ad.off, by rw [hv.1]; exact congrArg some hp, cell_add c0, ?_, ?_⟩
    · have := cell_add c1
      rwa [← Nat.add_assoc] at this
    · have := cell_add c2
      rwa [← Nat.add_assoc] at this

set_option maxHeartbeats 1600000 in
theorem likeU_true {w : World} {a b : Option Addr} {c d : Nat} {l m : List upd.El} (h : upd.Cts w (.slice a l.length c) l) (h' : upd.Cts w (.slice b m.length d) m) (he : l.map upd.pr = m.map upd.pr) (hn : l.length ≤ 4398046511103) :
    Calls Tryz.prog 16 #[.slice a l.length c, .slice b m.length d] w fun e w' => e = .returned (.bool true) ∧ Fr [] w w' := by
  have hlen : l.length = m.length := by have := congrArg List.length he; simpa using this
  have hel : ∀ k, k < l.length → (upd.nth l k).rd = (upd.nth m k).rd ∧ (upd.nth l k).t = (upd.nth m k).t ∧ (upd.nth l k).n = (upd.nth m k).n := fun k hk => by
    have h1 := congrArg (fun x => x[k]?) he
    simp only [List.getElem?_map, upd.nth_at hk, upd.nth_at (show k < m.length by omega), Option.map_some, Option.some.injEq, upd.pr, upd.key, Prod.mk.injEq] at h1
    exact ⟨h1.1.2, h1.1.1, h1.2⟩
  rw [← hlen]
  have H := Lib.hid h
  have H' := Lib.hid h'
  have HEl := Lib.hid hel
  have HLen := Lib.hid hlen
  have hlz : ((l.length : Int) != (l.length : Int)) = false := by simp
  clear h h' he hel hlen
  go_enter Tryz.func16, Tryz.ntmps16
  go_wp2_with fail
  go_loopw [13] (fun x wr => ∃ k : Nat, x = .int .i64 k ∧ k ≤ l.length ∧ Fr [] w wr) (fun x _ => l.length - (intOf x).toNat)
  case atStart => exact ⟨0, rfl, Nat.zero_le _, Fr.refl _ _⟩
  case round =>
    obtain ⟨k, rfl, hk, hf⟩ := hrel
    have HF := Lib.hid hf
    by_cases hlt : k < l.length
    · obtain ⟨b1, o1, e1, x0, x1, x2⟩ := (H.out.fr hf).cell hlt
      obtain ⟨b2, o2, e2, y0, y1, y2⟩ := (H'.out.fr hf).cell (show k < m.length by have := HLen.out; omega)
      obtain ⟨q1, q2, q3⟩ := HEl.out k hlt
      subst e1
      subst e2
      rw [← q2] at y1
      rw [← q3] at y2
      have r1 := H.out.row _ (upd.nth_mem hlt)
      have r2 := H'.out.row _ (upd.nth_mem (show k < m.length by have := HLen.out; omega))
      have hs : ∀ p : FrBy wr, Calls Tryz.prog 36 #[.slice (upd.nth l k).ra (upd.nth l k).rl (upd.nth l k).rc, .slice (upd.nth m k).ra (upd.nth m k).rl (upd.nth m k).rc] p.wn fun e w' => e = .returned (.bool true) ∧ Fr [] p.wn w' := fun p => (rsame_any (r1.1.fr (hf.trans p.fr)) (r2.1.fr (hf.trans p.fr)) (by have := r1.2.len; omega)).mono fun e w' ⟨he, hf⟩ => ⟨by rw [he, q1, cmpR_self]; rfl, hf⟩
      have u0 : ∀ p : FrBy wr, p.wn.cell? ⟨b1, o1 + k * 3, none⟩ = some (.slice (upd.nth l k).ra (upd.nth l k).rl (upd.nth l k).rc) := fun p => p.fr.cell x0 (by simp)
      have u1 : ∀ p : FrBy wr, p.wn.cell? ⟨b1, o1 + k * 3 + 1, none⟩ = some (.int .i64 (upd.nth l k).t) := fun p => p.fr.cell x1 (by simp)
      have u2 : ∀ p : FrBy wr, p.wn.cell? ⟨b1, o1 + k * 3 + 2, none⟩ = some (.int .i64 (upd.nth l k).n) := fun p => p.fr.cell x2 (by simp)
      have v0 : ∀ p : FrBy wr, p.wn.cell? ⟨b2, o2 + k * 3, none⟩ = some (.slice (upd.nth m k).ra (upd.nth m k).rl (upd.nth m k).rc) := fun p => p.fr.cell y0 (by simp)
      have v1 : ∀ p : FrBy wr, p.wn.cell? ⟨b2, o2 + k * 3 + 1, none⟩ = some (.int .i64 (upd.nth l k).t) := fun p => p.fr.cell y1 (by simp)
      have v2 : ∀ p : FrBy wr, p.wn.cell? ⟨b2, o2 + k * 3 + 2, none⟩ = some (.int .i64 (upd.nth l k).n) := fun p => p.fr.cell y2 (by simp)
      have HC := Lib.hid hs
      have hz : ((upd.nth l k).n != (upd.nth l k).n) = false := by simp
      have hz2 : ((upd.nth l k).t != (upd.nth l k).t) = false := by simp
      clear hf x0 x1 x2 y0 y1 y2 q1 q2 q3 r1 r2 hs
      go_upto_region 6 with fail
      refine wp_region_fr (by kernel_rfl) (by kernel_rfl) ?_
      repeat (go_big_quiet_step ((go_at_call 36; exact Calls.fr_of (HC.out _))))
      refine wpQuiet_nil ?_
      intro wn hwn
      have fn : Fr [] wr wn := by obtain ⟨p, rfl⟩ := hwn; exact p.fr
      have FN := Lib.hid fn
      clear hwn u0 u1 u2 v0 v1 v2 HC fn
      go_wp2_with fail
      go_roundw
      case rel => exact ⟨k + 1, by go_num, by omega, HF.out.trans FN.out⟩
      case measure => simp [intOf] <;> omega
    · go_wp2_with fail
      go_ret
      exact ⟨rfl, HF.out⟩

/-- An update as a counted row. -/
def toC (e : upd.El) : El := ⟨e.ra, e.rl, e.rc, e.n, e.rd⟩
/-- What is there at a time. -/
def atL (l : List upd.El) (t : Int) : List El := (l.filter fun e => decide (e.t ≤ t)).map toC
theorem atL_snoc (l : List upd.El) (e : upd.El) (t : Int) : atL (l ++ [e]) t = atL l t ++ if e.t ≤ t then [toC e] else [] := by
  unfold atL
  rw [List.filter_append, List.map_append]
  congr 1
  by_cases h : e.t ≤ t <;> simp [h]
theorem atL_len (l : List upd.El) (t : Int) : (atL l t).length ≤ l.length := by
  unfold atL; rw [List.length_map]; exact List.length_filter_le _ _

set_option maxHeartbeats 3200000 in
theorem at_any {w : World} {aa : Option Addr} {ac : Nat} {l : List upd.El} {t : Int} (h : upd.Cts w (.slice aa l.length ac) l) (hn : l.length ≤ 10000) :
    Calls Tryz.prog 32 #[.slice aa l.length ac, .int .i64 t] w (TidyPost w (atL l t) 1) := by
  obtain ⟨i0, hi, hz0, hz1, hz2⟩ := info_parts infoC
  have H := Lib.hid h
  clear h
  go_enter Tryz.func32, Tryz.ntmps32
  go_wp2_with fail
  go_loopw [6, 11] (fun v x wr => ∃ k : Nat, x = .int .i64 k ∧ k ≤ l.length ∧ wr.ownsRow w.heap.size 68 2 v (atL (l.take k) t).length (elsC (atL (l.take k) t)) ∧ Fr [] w wr) (fun _ x _ => l.length - (intOf x).toNat)
  case atStart => exact ⟨0, rfl, Nat.zero_le _, World.ownsRow_nil _ _ _ _, Fr.refl _ _⟩
  case round =>
    obtain ⟨k, rfl, hk, ho, hf⟩ := hrel
    have HO := Lib.hid ho
    have HF := Lib.hid hf
    obtain ⟨va, vc, rfl⟩ := ownsRow_shape ho
    by_cases hlt : k < l.length
    · obtain ⟨b, off, e1, x0, x1, x2⟩ := (H.out.fr hf).cell hlt
      subst e1
      have hts : l.take (k + 1) = l.take k ++ [upd.nth l k] := by rw [List.take_add_one, upd.nth_at hlt]; rfl
      have hsn := atL_snoc (l.take k) (upd.nth l k) t
      rw [← hts] at hsn
      have HSn := Lib.hid hsn
      have hle := atL_len (l.take k) t
      have hlk : (l.take k).length = k := by rw [List.length_take]; omega
      have hal : (atL (l.take k) t).length ≤ 10000 := by omega
      clear hf ho hts hsn hle hlk
      generalize atL (l.take k) t = al at *
      go_upto_region 5 with fail
      have fa : Fr [] wr (wr.alloc (.cells #[.slice (upd.nth l k).ra (upd.nth l k).rl (upd.nth l k).rc, .int .i64 (upd.nth l k).t, .int .i64 (upd.nth l k).n] 65)) := (Fr.refl [] wr).alloc _
      have hb1 := heap_alloc_new wr (.cells #[.slice (upd.nth l k).ra (upd.nth l k).rl (upd.nth l k).rc, .int .i64 (upd.nth l k).t, .int .i64 (upd.nth l k).n] 65)
      have HOA := Lib.hid (ownsRow_fr HO.out fa (by simp))
      have HFA := Lib.hid (HF.out.trans fa)
      have hsz := (HF.out.trans fa).size
      clear fa HO HF x0 x1 x2
      generalize wr.heap.size = bx at *
      generalize wr.alloc (.cells #[.slice (upd.nth l k).ra (upd.nth l k).rl (upd.nth l k).rc, .int .i64 (upd.nth l k).t, .int .i64 (upd.nth l k).n] 65) = wa at *
      have y0 := cell_blk hb1 0 (.slice (upd.nth l k).ra (upd.nth l k).rl (upd.nth l k).rc) rfl
      have y1 := cell_blk hb1 1 (.int .i64 (upd.nth l k).t) rfl
      have y2 := cell_blk hb1 2 (.int .i64 (upd.nth l k).n) rfl
      clear hb1
      by_cases htt : (upd.nth l k).t ≤ t
      · have hsrc : Src (wa.alloc (.cells #[.slice (upd.nth l k).ra (upd.nth l k).rl (upd.nth l k).rc, .int .i64 (upd.nth l k).n] 68)) 2 (.slice (some ⟨wa.heap.size, 0, none⟩) 1 1) 1 [.slice (upd.nth l k).ra (upd.nth l k).rl (upd.nth l k).rc, .int .i64 (upd.nth l k).n] := Src.block (heap_alloc_new wa _) rfl (by intro u hu; simp at hu; rcases hu with rfl | rfl <;> rfl)
        have HSrc := Lib.hid hsrc
        have HT := Lib.hid htt
        clear hsrc
        go_wp2_with (at_builtin; refine wpList_append_src _ rfl (.tmp 19) (.tmp 25) 31 rfl w.heap.size 68 i0 _ 2 32 Tryz.underlying31 hi hz0 hz1 hz2 rfl (by decide) (.slice va al.length vc) al.length _ rfl (HOA.out.alloc _) (.slice (some ⟨wa.heap.size, 0, none⟩) 1 1) 1 [.slice (upd.nth l k).ra (upd.nth l k).rl (upd.nth l k).rc, .int .i64 (upd.nth l k).n] rfl HSrc.out (by unfold maxLen; omega) (by omega) (by simp; omega) ?_; intro v' w1 hown1 hgrow1 _)
        have HOwn1 := Lib.hid hown1
        have HG1 := Lib.hid hgrow1
        clear hown1 hgrow1
        go_roundw
        case rel => exact ⟨k + 1, by go_num, by omega, by
          rw [HSn.out, if_pos HT.out, elsC_append, List.length_append]
          simpa [elsC, El.cells, toC] using HOwn1.out, (HFA.out.alloc _).fresh HG1.out (fun r e => Or.inl (HOA.out.lt r e).1)⟩
        case measure => simp [intOf] <;> omega
      · have HT := Lib.hid htt
        go_wp2_with fail
        go_roundw
        case rel => exact ⟨k + 1, by go_num, by omega, by rw [HSn.out, if_neg HT.out, List.append_nil]; exact HOA.out, HFA.out⟩
        case measure => simp [intOf] <;> omega
    · have hkM := Lib.hid (show k = l.length by omega)
      have h1 : atL (l.take k) t = atL l t := by rw [hkM.out, List.take_length]
      have hcts : Cts wr (.slice va (atL l t).length vc) (atL l t) := by
        rw [← h1]
        refine own_cts ho fun e he => ?_
        rw [h1] at he
        obtain ⟨e0, h0, rfl⟩ := List.mem_map.1 he
        have h2 := H.out.row e0 (List.mem_filter.1 h0).1
        exact ⟨h2.1.fr hf, ⟨h2.2.len, h2.2.n⟩⟩
      have hle := atL_len l t
      have ht := Tidy_any hcts (by omega)
      rw [h1] at *
      have hsz := hf.size
      clear ho hcts hf h1
      generalize atL l t = al at *
      go_wp2_with (go_at_call 60; refine ht.mono ?_; rintro e w1 ⟨f1, ⟨h1, outs, a, c, rfl, h2, h3, h4⟩ | ⟨h1, rfl⟩⟩)
      · go_ret2
        exact ⟨HF.out.trans f1, Or.inl ⟨h1, outs, a, c, rfl, h2.base hsz, h3, h4⟩⟩
      · go_ret2
        exact ⟨HF.out.trans f1, Or.inr ⟨h1, rfl⟩⟩

/-- An update, brought later. -/
def lt1 (t : Int) (e : upd.El) : upd.El := { e with t := max e.t t }
def lts (f : Nat → upd.El) (t : Int) (i : Nat) : Nat → upd.El := fun k => if k < i then lt1 t (f k) else f k

theorem upd.Srt.later {g N : Nat} {w : World} {f : Nat → upd.El} {t : Int} {i : Nat} (h : upd.Srt g N w (lts f t i)) (hi : i < N) : upd.Srt g N (w.setCell ⟨g, i * 3 + 1, none⟩ (.int .i64 (max (f i).t t))) (lts f t (i + 1)) := by
  obtain ⟨cur, hb, hc⟩ := h
  refine ⟨_, heap_set hb, fun k hk => ?_⟩
  have lk := hc k hk
  have li := hc i hi
  have s1 : i * 3 + 2 < cur.size := (Array.getElem?_eq_some_iff.1 li.2.2).1
  by_cases h1 : k = i
  · subst h1
    have e1 : lts f t k k = f k := by unfold lts; rw [if_neg (by omega)]
    have e2 : lts f t (k + 1) k = lt1 t (f k) := by unfold lts; rw [if_pos (by omega)]
    rw [e1] at lk
    rw [e2]
    refine ⟨?_, ?_, ?_⟩
    · rw [Array.getElem?_setIfInBounds_ne (by omega)]; exact lk.1
    · rw [Array.getElem?_setIfInBounds_self_of_lt (by omega)]; rfl
    · rw [Array.getElem?_setIfInBounds_ne (by omega)]; exact lk.2.2
  · have e1 : lts f t (i + 1) k = lts f t i k := by
      unfold lts
      by_cases h2 : k < i
      · rw [if_pos (by omega), if_pos h2]
      · rw [if_neg (by omega), if_neg h2]
    rw [e1]
    refine ⟨?_, ?_, ?_⟩
    · rw [Array.getElem?_setIfInBounds_ne (by omega)]; exact lk.1
    · rw [Array.getElem?_setIfInBounds_ne (by omega)]; exact lk.2.1
    · rw [Array.getElem?_setIfInBounds_ne (by omega)]; exact lk.2.2
end Go.Proofs.YtjchlfblbmiceaaGreat
namespace Go.Proofs.YtjchlfblbmiceaaGreat
open Go.RowKit srt grp

theorem upd.own_cts {w : World} {base : Nat} {v : Value} {l : List upd.El} (h : w.ownsRow base 65 3 v l.length (upd.elsC l)) (hr : ∀ e ∈ l, RowAt w e.rv e.rd ∧ upd.ElOk e) : upd.Cts w v l := ⟨Src.row h (upd.elsC_one l), hr⟩
theorem lts_zero (f : Nat → upd.El) (t : Int) : lts f t 0 = f := by funext k; unfold lts; rw [if_neg (by omega)]
theorem lts_all (l : List upd.El) (t : Int) {n : Nat} (h : n = l.length) : (List.range n).map (lts (upd.nth l) t n) = l.map (lt1 t) := by
  subst h
  conv => rhs; rw [← upd.range_nth l, List.map_map]
  refine List.map_congr_left fun q hq => ?_
  have := List.mem_range.1 hq
  unfold lts; rw [if_pos this]; rfl

/-- A sorted block read as a list. -/
theorem upd.Srt.cts {g N c : Nat} {w : World} {f : Nat → upd.El} {l : List upd.El} (h : upd.Srt g N w f) (hl : (List.range N).map f = l) (hr : ∀ e ∈ l, RowAt w e.rv e.rd ∧ upd.ElOk e) : upd.Cts w (.slice (some ⟨g, 0, none⟩) l.length c) l := by
  refine ⟨⟨upd.elsC_len _, upd.elsC_one _, Or.inr ⟨⟨g, 0, none⟩, c, rfl, fun j u hj => ?_⟩⟩, hr⟩
  have hadd : (⟨g, 0, none⟩ : Addr).add j = ⟨g, j, none⟩ := by unfold Addr.add; split <;> simp_all
  rw [hadd]
  obtain ⟨i, d, hi, hu⟩ := upd.elsC_of _ j u hj
  obtain ⟨cur, hb, hc⟩ := h
  have hlt := (List.getElem?_eq_some_iff.1 hi).1
  have hln : l.length = N := by rw [← hl]; simp
  have hfi : f i = d := by
    rw [← hl] at hi
    simpa [show i < N by omega] using hi
  obtain ⟨x0, x1, x2⟩ := hc i (by omega)
  rw [hfi] at x0 x1 x2
  rcases hu with ⟨rfl, rfl⟩ | ⟨rfl, rfl⟩ | ⟨rfl, rfl⟩
  · exact cell_blk hb _ _ x0
  · exact cell_blk hb _ _ x1
  · exact cell_blk hb _ _ x2

set_option maxRecDepth 100000
set_option maxHeartbeats 3200000 in
theorem later_any {w : World} {aa : Option Addr} {ac : Nat} {l : List upd.El} {t : Int} (h : upd.Cts w (.slice aa l.length ac) l) (hn : l.length ≤ 3518437208881) (ht : -9223372036854775808 ≤ t ∧ t ≤ 9223372036854775807) :
    Calls Tryz.prog 58 #[.slice aa l.length ac, .int .i64 t] w (upd.TidyPost w (l.map (lt1 t)) 1) := by
  have HC := Lib.hid h
  have hcl := upd.cloneC_any h.src (by omega)
  clear h
  go_enter Tryz.func58, Tryz.ntmps58
  go_upto_region 2 with (go_at_call 64; refine hcl.mono ?_; rintro e w1 ⟨⟨a1, c1, rfl, ho1⟩, f1⟩)
  rcases upd.Srt.own ho1 with ⟨rfl, rfl, rfl⟩ | ⟨g, rfl, hgb, hlc, hsr⟩
  · have F1 := Lib.hid f1
    have hse := upd.settle_any (w := w1) (aa := none) (ac := 0) (l := []) ⟨⟨rfl, by simp [upd.elsC], Or.inl ⟨rfl, rfl⟩⟩, by simp⟩ (by simp)
    have hsz := f1.size
    clear hcl ho1 f1
    go_wp2_with fail
    refine wp_loop_rounds 1 ?_
    rw [rounds_succ]
    go_wp2_with (go_at_call 37; refine hse.mono ?_; rintro e w2 ⟨f2, ⟨h1, outs, a, c, rfl, h2, h3, h4⟩ | ⟨h1, rfl⟩⟩)
    · go_ret2
      exact ⟨F1.out.trans f2, Or.inl ⟨h1, outs, a, c, rfl, h2.base hsz, h3, h4⟩⟩
    · go_ret2
      exact ⟨F1.out.trans f2, Or.inr ⟨h1, rfl⟩⟩
  · have F1 := Lib.hid f1
    have HS := Lib.hid hsr
    have hsz := f1.size
    clear hcl ho1 f1 hsr
    go_wp2_with fail
    go_loopw [12] (fun x wr => ∃ k : Nat, x = .int .i64 k ∧ k ≤ l.length ∧ upd.Srt g l.length wr (lts (upd.nth l) t k) ∧ Fr [g] w1 wr) (fun x _ => l.length - (intOf x).toNat)
    case atStart => exact ⟨0, rfl, Nat.zero_le _, by rw [lts_zero]; exact HS.out, Fr.refl _ _⟩
    case round =>
      obtain ⟨k, rfl, hk, hs, hf⟩ := hrel
      have HS2 := Lib.hid hs
      have HF2 := Lib.hid hf
      by_cases hlt : k < l.length
      · obtain ⟨cur, hb, hc⟩ := hs
        obtain ⟨x0, x1, x2⟩ := hc k hlt
        have e1 : lts (upd.nth l) t k k = upd.nth l k := by unfold lts; rw [if_neg (by omega)]
        rw [e1] at x0 x1 x2
        have y1 := cell_blk hb _ _ x1
        have y2 : wr.frozen? ⟨g, k * 3 + 1, none⟩ = false := by simp [World.frozen?, hb]
        have hmx : -9223372036854775808 ≤ max (upd.nth l k).t t ∧ max (upd.nth l k).t t ≤ 9223372036854775807 := by have := (HC.out.row _ (upd.nth_mem hlt)).2.t; omega
        clear hf hc x0 x1 x2 e1
        go_wp2_with fail
        go_roundw
        case rel => exact ⟨k + 1, by go_num, by omega, HS2.out.later hlt, HF2.out.setCell (by simp) _⟩
        case measure => simp [intOf] <;> omega
      · have hkn := Lib.hid (show k = l.length by omega)
        clear hs hf
        have hcts : upd.Cts wr (.slice (some ⟨g, 0, none⟩) (l.map (lt1 t)).length c1) (l.map (lt1 t)) := by
          refine HS2.out.cts (lts_all l t hkn.out ▸ by rw [hkn.out]) fun e he => ?_
          obtain ⟨e0, h0, rfl⟩ := List.mem_map.1 he
          have h1 := HC.out.row e0 h0
          exact ⟨h1.1.fr (F1.out.past HF2.out (by simpa using hgb)), ⟨h1.2.len, by have := h1.2.t; simp only [lt1]; omega, h1.2.n⟩⟩
        rw [List.length_map] at hcts
        have hse := upd.settle_any (aa := some ⟨g, 0, none⟩) (ac := c1) (l := l.map (lt1 t)) (by rw [List.length_map]; exact hcts) (by rw [List.length_map]; exact hn)
        rw [List.length_map] at hse
        have hsz2 := HF2.out.size
        clear hcts
        go_wp2_with (go_at_call 37; refine hse.mono ?_; rintro e w2 ⟨f2, ⟨h1, outs, a, c, rfl, h2, h3, h4⟩ | ⟨h1, rfl⟩⟩)
        · go_ret2
          exact ⟨(F1.out.past HF2.out (by simpa using hgb)).trans f2, Or.inl ⟨h1, outs, a, c, rfl, h2.base (by omega), h3, h4⟩⟩
        · go_ret2
          exact ⟨(F1.out.past HF2.out (by simpa using hgb)).trans f2, Or.inr ⟨h1, rfl⟩⟩
end Go.Proofs.YtjchlfblbmiceaaGreat
namespace Go.Proofs.YtjchlfblbmiceaaGreat.grp

section
variable {κ : Type} [DecidableEq κ]
theorem sumK_filter_ne (l : List (κ × Int)) (k : κ) (q : κ) : sumK (l.filter fun p => decide (p.1 ≠ k)) q = if q = k then 0 else sumK l q := by
  induction l with
  | nil => simp [sumK_nil]
  | cons p l ih =>
    rw [List.filter_cons]
    by_cases h : p.1 = k
    · rw [if_neg (by simpa using h), ih, sumK_cons]
      by_cases hq : q = k
      · rw [if_pos hq, if_pos hq]
      · rw [if_neg hq, if_neg hq, if_neg (fun e => hq (by rw [← e, h])), Int.zero_add]
    · rw [if_pos (by simpa using h), sumK_cons, ih, sumK_cons]
      by_cases hq : q = k
      · rw [if_pos hq, if_pos hq, if_neg (fun e => h (by rw [e, hq]))]; rfl
      · rw [if_neg hq, if_neg hq]

end

section
variable {κ μ : Type}
/-- What a list is, told by other keys; some are left. -/
def push (p : κ → Bool) (g : κ → μ) (l : List (κ × Int)) : List (μ × Int) := (l.filter fun x => p x.1).map fun x => (g x.1, x.2)
theorem push_cons [DecidableEq μ] (p : κ → Bool) (g : κ → μ) (x : κ × Int) (l : List (κ × Int)) (r : μ) : sumK (push p g (x :: l)) r = (if p x.1 = true ∧ g x.1 = r then x.2 else 0) + sumK (push p g l) r := by
  unfold push
  rw [List.filter_cons]
  by_cases h : p x.1 = true
  · rw [if_pos h, List.map_cons, sumK_cons]
    by_cases h2 : g x.1 = r
    · rw [if_pos h2, if_pos ⟨h, h2⟩]
    · rw [if_neg h2, if_neg (fun e => h2 e.2)]
  · rw [if_neg h, if_neg (fun e => h e.1), Int.zero_add]
theorem push_append (p : κ → Bool) (g : κ → μ) (a b : List (κ × Int)) : push p g (a ++ b) = push p g a ++ push p g b := by simp [push]
theorem push_filter (p : κ → Bool) (g : κ → μ) (l : List (κ × Int)) : push p g (l.filter fun x => p x.1) = push p g l := by
  unfold push; rw [List.filter_filter]; simp
variable [DecidableEq κ] [DecidableEq μ]
/-- One key out. -/
theorem push_one (p : κ → Bool) (g : κ → μ) (l : List (κ × Int)) (k : κ) (r : μ) : sumK (push p g l) r = (if p k = true ∧ g k = r then sumK l k else 0) + sumK (push p g (l.filter fun x => decide (x.1 ≠ k))) r := by
  induction l with
  | nil => simp [push, sumK_nil]
  | cons x l ih =>
    rw [push_cons, ih, sumK_cons, List.filter_cons]
    by_cases h : x.1 = k
    · rw [if_neg (show ¬ decide (x.1 ≠ k) = true by simpa using h), if_pos h, h]
      split <;> omega
    · rw [if_pos (show decide (x.1 ≠ k) = true by simpa using h), push_cons, if_neg h]
      generalize (if p x.1 = true ∧ g x.1 = r then x.2 else 0) = u
      split <;> omega
theorem push_zero (p : κ → Bool) (g : κ → μ) : ∀ (n : Nat) (l : List (κ × Int)), l.length ≤ n → (∀ q, sumK l q = 0) → ∀ r, sumK (push p g l) r = 0 := by
  intro n
  induction n with
  | zero =>
    intro l hl _ r
    rw [List.length_eq_zero_iff.1 (Nat.le_zero.1 hl)]; rfl
  | succ n ih =>
    intro l hl h r
    cases l with
    | nil => rfl
    | cons x l =>
      rw [push_one p g (x :: l) x.1 r, h, ih]
      · split <;> rfl
      · rw [List.filter_cons, if_neg (by simp)]
        exact Nat.le_trans (List.length_filter_le _ _) (by simpa using hl)
      · intro q
        rw [sumK_filter_ne, h]
        split <;> rfl
omit [DecidableEq μ] in
theorem sumK_neg (l : List (κ × Int)) (q : κ) : sumK (l.map fun x => (x.1, -x.2)) q = - sumK l q := by
  induction l with
  | nil => rfl
  | cons x l ih =>
    rw [List.map_cons, sumK_cons, ih, sumK_cons]
    split <;> omega
/-- Two lists with the same sums have the same sums, told over. -/
theorem push_same (p : κ → Bool) (g : κ → μ) {a b : List (κ × Int)} (h : ∀ q, sumK a q = sumK b q) (r : μ) : sumK (push p g a) r = sumK (push p g b) r := by
  have h1 := push_zero p g _ (a ++ b.map fun x => (x.1, -x.2)) (Nat.le_refl _) (fun q => by rw [sumK_append, sumK_neg, h]; omega) r
  rw [push_append, sumK_append] at h1
  have h2 : push p g (b.map fun x => (x.1, -x.2)) = (push p g b).map fun x => (x.1, -x.2) := by
    unfold push
    rw [List.filter_map, List.map_map, List.map_map]
    rfl
  rw [h2, sumK_neg] at h1
  omega
end
end Go.Proofs.YtjchlfblbmiceaaGreat.grp
namespace Go.Proofs.YtjchlfblbmiceaaGreat
open Go.RowKit srt grp

/-- A number that can be added up without end. -/
def usm (e : upd.El) : upd.El := { e with n := Int.tmod e.n 1000000 }
def usL (l : List upd.El) : List upd.El := (l.take 60).map usm
theorem usL_len (l : List upd.El) : (usL l).length ≤ 60 := by simp [usL]; omega
/-- The updates between two times. -/
def btw (l : List upd.El) (s t : Int) : List upd.El := l.filter fun e => decide (s < e.t ∧ e.t ≤ t)
theorem btw_len (l : List upd.El) (s t : Int) : (btw l s t).length ≤ l.length := List.length_filter_le _ _
theorem btw_snoc (l : List upd.El) (e : upd.El) (s t : Int) : btw (l ++ [e]) s t = btw l s t ++ if s < e.t ∧ e.t ≤ t then [e] else [] := by
  unfold btw
  rw [List.filter_append]
  congr 1
  by_cases h : s < e.t ∧ e.t ≤ t <;> simp [h]

theorem at_push (l : List upd.El) (t : Int) : (atL l t).map pr = push (fun q : Int × List Dt => decide (q.1 ≤ t)) Prod.snd (l.map upd.pr) := by
  unfold atL push
  rw [List.filter_map, List.map_map, List.map_map]
  rfl
theorem at_same {a b : List upd.El} (h : ∀ q, sumK (a.map upd.pr) q = sumK (b.map upd.pr) q) (t : Int) (r : List Dt) : sumK ((atL a t).map pr) r = sumK ((atL b t).map pr) r := by
  rw [at_push, at_push]; exact push_same _ _ h r
theorem at_later (l : List upd.El) {s t : Int} (h : s ≤ t) : atL (l.map (lt1 s)) t = atL l t := by
  unfold atL
  rw [List.filter_map, List.map_map]
  have e1 : (fun e : upd.El => decide (e.t ≤ t)) ∘ lt1 s = fun e => decide (e.t ≤ t) := by
    funext e
    simp only [Function.comp_apply, lt1]
    exact decide_eq_decide.2 (by omega)
  rw [e1]
  rfl
theorem at_btw (l : List upd.El) {s t : Int} (h : s ≤ t) (r : List Dt) : sumK ((atL l t).map pr) r = sumK ((atL l s ++ (btw l s t).map toC).map pr) r := by
  rw [List.map_append, sumK_append]
  induction l with
  | nil => rfl
  | cons e l ih =>
    have k1 : ∀ u, (atL (e :: l) u).map pr = (if e.t ≤ u then [pr (toC e)] else []) ++ (atL l u).map pr := fun u => by
      unfold atL
      by_cases h1 : e.t ≤ u <;> simp [h1]
    have k2 : ((btw (e :: l) s t).map toC).map pr = (if s < e.t ∧ e.t ≤ t then [pr (toC e)] else []) ++ ((btw l s t).map toC).map pr := by
      unfold btw
      by_cases h1 : s < e.t ∧ e.t ≤ t <;> simp [h1]
    rw [k1, k1, k2, sumK_append, sumK_append, sumK_append, ih]
    by_cases h1 : e.t ≤ s
    · rw [if_pos (show e.t ≤ t by omega), if_pos h1, if_neg (show ¬ (s < e.t ∧ e.t ≤ t) by omega), sumK_nil]; omega
    · by_cases h2 : e.t ≤ t
      · rw [if_pos h2, if_neg h1, if_pos (show s < e.t ∧ e.t ≤ t by omega), sumK_nil]; omega
      · rw [if_neg h2, if_neg h1, if_neg (show ¬ (s < e.t ∧ e.t ≤ t) by omega), sumK_nil]; omega

section
variable {κ : Type} [DecidableEq κ] {cmp : κ → κ → Int}
theorem grp.sumK_bound {l : List (κ × Int)} {B : Nat} (h : ∀ p ∈ l, -(B : Int) ≤ p.2 ∧ p.2 ≤ (B : Int)) (r : κ) : -((l.length * B : Nat) : Int) ≤ sumK l r ∧ sumK l r ≤ ((l.length * B : Nat) : Int) := by
  induction l with
  | nil => simp [sumK_nil]
  | cons e l ih =>
    have h1 := ih (fun x hx => h x (by simp [hx]))
    have h2 := h e (by simp)
    rw [sumK_cons, List.length_cons, Nat.add_mul, Nat.one_mul]
    split <;> omega
end

theorem usm_n (l : List upd.El) : ∀ e ∈ usL l, -1000000 ≤ e.n ∧ e.n ≤ 1000000 := fun e he => by
  obtain ⟨e0, -, rfl⟩ := List.mem_map.1 he
  simp only [usm]
  have h3 := Int.tmod_lt_of_pos e0.n (show (0 : Int) < 1000000 by decide)
  have h4 := Int.lt_tmod_of_pos e0.n (show (0 : Int) < 1000000 by decide)
  omega
theorem us_bound {l : List upd.El} (hl : l.length ≤ 60) (hn : ∀ e ∈ l, -1000000 ≤ e.n ∧ e.n ≤ 1000000) (q : Int × List Dt) : -60000000 ≤ sumK (l.map upd.pr) q ∧ sumK (l.map upd.pr) q ≤ 60000000 := by
  have h := sumK_bound (l := l.map upd.pr) (B := 1000000) (fun p hp => by
    obtain ⟨e, he, rfl⟩ := List.mem_map.1 hp
    exact hn e he) q
  rw [List.length_map] at h
  omega
theorem at_bound {l : List upd.El} (hl : l.length ≤ 60) (hn : ∀ e ∈ l, -1000000 ≤ e.n ∧ e.n ≤ 1000000) (t : Int) (r : List Dt) : -60000000 ≤ sumK ((atL l t).map pr) r ∧ sumK ((atL l t).map pr) r ≤ 60000000 := by
  have h := sumK_bound (l := (atL l t).map pr) (B := 1000000) (fun p hp => by
    obtain ⟨e, he, rfl⟩ := List.mem_map.1 hp
    obtain ⟨e0, h0, rfl⟩ := List.mem_map.1 he
    exact hn e0 (List.mem_filter.1 h0).1) r
  have := atL_len l t
  rw [List.length_map] at h
  omega
theorem later_mem {l : List upd.El} {s : Int} (hn : ∀ e ∈ l, -1000000 ≤ e.n ∧ e.n ≤ 1000000) : ∀ e ∈ l.map (lt1 s), -1000000 ≤ e.n ∧ e.n ≤ 1000000 := fun e he => by
  obtain ⟨e0, h0, rfl⟩ := List.mem_map.1 he
  exact hn e0 h0

/-- Behind Later: nothing ahead of the time, and the times rise. -/
theorem later_times {l la : List upd.El} {s : Int} (n2 : Canon upd.cmpU (la.map upd.pr) fun q => 1 * sumK ((l.map (lt1 s)).map upd.pr) q) : ∀ k, k < la.length → s ≤ (upd.nth la k).t ∧ (0 < k → (upd.nth la (k - 1)).t ≤ (upd.nth la k).t) := by
  intro k hk
  constructor
  · have hm := n2.mem upd.cmpUS (List.mem_map_of_mem (f := upd.pr) (upd.nth_mem hk))
    have hz := n2.nz _ (List.mem_map_of_mem (f := upd.pr) (upd.nth_mem hk))
    by_cases hs : s ≤ (upd.nth la k).t
    · exact hs
    · rw [← hm] at hz
      refine absurd ?_ hz
      rw [sumK_none]
      · rfl
      · intro p hp e
        obtain ⟨e1, h1, rfl⟩ := List.mem_map.1 hp
        obtain ⟨e0, h0, rfl⟩ := List.mem_map.1 h1
        have h2 : max e0.t s = (upd.nth la k).t := congrArg Prod.fst e
        omega
  · intro h0
    have hu := n2.up
    rw [List.pairwise_map] at hu
    have h1 := List.pairwise_iff_getElem.1 hu (k - 1) k (by omega) hk (by omega)
    have g : ∀ (i : Nat) (hi : i < la.length), la[i] = upd.nth la i := fun i hi => by
      have := upd.nth_at hi; rw [List.getElem?_eq_getElem hi] at this; exact Option.some.inj this
    rw [g, g] at h1
    unfold upd.cmpU at h1
    simp only [upd.pr, upd.key] at h1
    unfold cmpI at h1
    split at h1 <;> (repeat' split at h1) <;> omega

/-- What the lists are to one another. -/
theorem times_plain {l se la : List upd.El} {a b c d : List El} {ea : List El} {ag : List upd.El} {s t : Int} (hst : s ≤ t)
    (n1 : Canon upd.cmpU (se.map upd.pr) fun q => 1 * sumK (l.map upd.pr) q) (n2 : Canon upd.cmpU (la.map upd.pr) fun q => 1 * sumK ((l.map (lt1 s)).map upd.pr) q)
    (n3 : Canon cmpR (a.map pr) fun r => 1 * sumK ((atL l t).map pr) r) (n4 : Canon cmpR (b.map pr) fun r => 1 * sumK ((atL se t).map pr) r) (n5 : Canon cmpR (c.map pr) fun r => 1 * sumK ((atL la t).map pr) r)
    (n6 : Canon cmpR (ea.map pr) fun r => 1 * sumK ((atL l s).map pr) r) (n7 : Canon cmpR (d.map pr) fun r => 1 * sumK ((ea ++ (btw l s t).map toC).map pr) r) (n8 : Canon upd.cmpU (ag.map upd.pr) fun q => 1 * sumK (se.map upd.pr) q) :
    a.map pr = b.map pr ∧ a.map pr = c.map pr ∧ a.map pr = d.map pr ∧ ag.map upd.pr = se.map upd.pr := by
  refine ⟨n3.uniq cmpRS (n4.of fun r => ?_), n3.uniq cmpRS (n5.of fun r => ?_), n3.uniq cmpRS (n7.of fun r => ?_), n8.uniq upd.cmpUS (n1.of fun q => ?_)⟩
  · rw [at_same (a := se) (b := l) (fun q => by rw [n1.sum]; omega)]
  · rw [at_same (a := la) (b := l.map (lt1 s)) (fun q => by rw [n2.sum]; omega), at_later l hst]
  · rw [List.map_append, sumK_append, n6.sum, at_btw l hst, List.map_append, sumK_append]; omega
  · rw [n1.sum]; omega
end Go.Proofs.YtjchlfblbmiceaaGreat
namespace Go.Proofs.YtjchlfblbmiceaaGreat
open Go.RowKit srt grp

/-- What Settle answers where all sums have room. -/
def SettleOk (w : World) (l : List upd.El) (e : Ending) (w' : World) : Prop :=
  ∃ (outs : List upd.El) (a : Option Addr) (c : Nat), e = .returned (.tuple #[.slice a outs.length c, .int .i64 0]) ∧ Fr [] w w' ∧ upd.ListIn w.heap.size w' (.slice a outs.length c) outs ∧ Canon upd.cmpU (outs.map upd.pr) (fun q => 1 * sumK (l.map upd.pr) q) ∧ outs.length ≤ l.length
theorem upd.TidyPost.fit {w w' : World} {l : List upd.El} {e : Ending} (hf : ∀ q, fitB (1 * sumK (l.map upd.pr) q) = true) (h : upd.TidyPost w l 1 e w') : SettleOk w l e w' := by
  obtain ⟨f1, ⟨-, outs, a, c, rfl, h2, h3, h4⟩ | ⟨⟨r, hr⟩, -⟩⟩ := h
  · exact ⟨outs, a, c, rfl, f1, h2, h3, h4⟩
  · rw [hf r] at hr; cases hr
theorem settleFit {w : World} {aa : Option Addr} {ac n : Nat} {l : List upd.El} (h : upd.Cts w (.slice aa n ac) l) (hnl : l.length = n) (hn : n ≤ 10000) (hf : ∀ q, fitB (1 * sumK (l.map upd.pr) q) = true) :
    Calls Tryz.prog 37 #[.slice aa n ac] w (SettleOk w l) := by
  subst hnl
  exact (upd.settle_any h (by omega)).mono fun _ _ h => h.fit hf
theorem laterFit {w : World} {aa : Option Addr} {ac n : Nat} {l : List upd.El} {t : Int} (h : upd.Cts w (.slice aa n ac) l) (hnl : l.length = n) (hn : n ≤ 10000) (ht : -9223372036854775808 ≤ t ∧ t ≤ 9223372036854775807) (hf : ∀ q, fitB (1 * sumK ((l.map (lt1 t)).map upd.pr) q) = true) :
    Calls Tryz.prog 58 #[.slice aa n ac, .int .i64 t] w (SettleOk w (l.map (lt1 t))) := by
  subst hnl
  exact (later_any h (by omega) ht).mono fun _ _ h => h.fit hf
theorem atFit {w : World} {aa : Option Addr} {ac n : Nat} {l : List upd.El} {t : Int} (h : upd.Cts w (.slice aa n ac) l) (hnl : l.length = n) (hn : n ≤ 10000) (hf : ∀ r, fitB (1 * sumK ((atL l t).map pr) r) = true) :
    Calls Tryz.prog 32 #[.slice aa n ac, .int .i64 t] w (TidyOk w (atL l t) 1) := by
  subst hnl
  exact (at_any h hn).mono fun _ _ h => h.fit hf
end Go.Proofs.YtjchlfblbmiceaaGreat
namespace Go.Proofs.YtjchlfblbmiceaaGreat
open Go.RowKit

/-- A row of the call's own, or one without room. -/
def OwnOr (w : World) (base e size : Nat) (v : Value) (n : Nat) (xs : List Value) : Prop :=
  w.ownsRow base e size v n xs ∨ ∃ b, v = .slice (some b) n n ∧ xs.length = n * size ∧ ∀ j u, xs[j]? = some u → w.cell? (b.add j) = some u
theorem OwnOr.fr {w w' : World} {base e size n : Nat} {v : Value} {xs : List Value} (h : OwnOr w base e size v n xs) (f : Fr [] w w') : OwnOr w' base e size v n xs := by
  rcases h with h | ⟨b, hv, hl, hc⟩
  · exact Or.inl (ownsRow_fr h f (by simp))
  · exact Or.inr ⟨b, hv, hl, fun j u hj => f.cell (hc j u hj) (by simp)⟩

section
variable {P : Program}
theorem wpList_append_or (w : World) {ops : Array Oper} {rest : List Oper} {o : Oper} {a : Act} {Q : Exit → Act → World → Prop} (hgd : o.guard = none) (s x : Operand) (t : TypeId)
    (ho : o.op = .call { callee := .builtin .append, args := #[s, x], argTypes := #[t, t] })
    (base : Nat) (e : TypeId) (i : TypeInfo) (z : Value) (size bytes : Nat) (ht : P.underlying t = some (.slice e)) (hi : P.info? e = some i) (hz : i.zero = some z)
    (hsize : i.size = size) (hby : i.bytes = bytes) (hzs : z.cells.size = size) (hsz : 0 < size)
    (v : Value) (n : Nat) (xs : List Value) (hs : a.eval s = v) (hown : OwnOr w base e size v n xs) (ad : Addr) (m c : Nat) (news : List Value) (hx : a.eval x = .slice (some ad) m c) (hsrc : Src w size (.slice (some ad) m c) m news) (hm : 1 ≤ m)
    (h63 : n + m ≤ maxLen) (hbytes : (n + m) * bytes ≤ 140737488355328) (hbase : base ≤ w.heap.size)
    (h : ∀ v' w', w'.ownsRow base e size v' (n + m) (xs ++ news) → (∃ row, w.grownBy w' row ∧ ∀ r, row = some r → base ≤ r) → wpList P ops Q rest (a.put o.dst v') w') : wpList P ops Q (o :: rest) a w := by
  refine wpList_plain hgd fun _ hK => ?_
  rcases hown with hown | ⟨b, rfl, hl, hc⟩
  · exact wp_append_src w s x t ho base e i z size bytes ht hi hz hsize hby hzs hsz v n xs hs hown _ m news hx hsrc h63 hbytes hbase fun v' w' h2 h3 _ => hK _ _ (h v' w' h2 ⟨_, h3, fun r hr => (hown.lt r hr).1⟩)
  · obtain ⟨hnl, hone, hh⟩ := hsrc
    have hcc : ∀ j u, news[j]? = some u → w.cell? (ad.add j) = some u := by
      rcases hh with ⟨hv, -⟩ | ⟨ad', c', hv, hc'⟩
      · cases hv
      · simp only [Value.slice.injEq, Option.some.injEq] at hv
        obtain ⟨rfl, -, -⟩ := hv
        exact hc'
    obtain ⟨v', w', hr, h2, h3⟩ := run_append_arg_grows (P := P) w t o.type e i z size bytes ht hi hz hsize hby hzs hsz b n n xs hl hc ad m c news hnl hcc (by omega) h63 hbytes
    unfold Oper.wp execOp
    simp only [ho, resolve, invoke, builtin, Sem.run_bind, Sem.run_pure, Result.andThen_ok, List.map_toArray, List.map_cons, List.map_nil, hs, hx, hr]
    exact hK _ _ (h v' w' (ownsRow_base h2 hbase) ⟨none, h3, fun r hr => by cases hr⟩)
end
end Go.Proofs.YtjchlfblbmiceaaGreat
namespace Go.Proofs.YtjchlfblbmiceaaGreat.grp

section
variable {κ : Type}
/-- How much is in a list, whatever its signs. -/
def mass (l : List (κ × Int)) : Nat := (l.map fun p => p.2.natAbs).sum
theorem mass_nil : mass ([] : List (κ × Int)) = 0 := rfl
theorem mass_cons (p : κ × Int) (l : List (κ × Int)) : mass (p :: l) = p.2.natAbs + mass l := by simp [mass]
theorem mass_append (a b : List (κ × Int)) : mass (a ++ b) = mass a + mass b := by simp [mass]
theorem mass_filter (q : κ × Int → Bool) (l : List (κ × Int)) : mass (l.filter q) ≤ mass l := by
  induction l with
  | nil => simp [mass]
  | cons p l ih => rw [List.filter_cons]; split <;> simp only [mass_cons] <;> omega
theorem mass_split (q : κ × Int → Bool) (l : List (κ × Int)) : mass (l.filter q) + mass (l.filter fun x => !q x) = mass l := by
  induction l with
  | nil => rfl
  | cons p l ih =>
    rw [List.filter_cons, List.filter_cons]
    by_cases h : q p = true
    · rw [if_pos h, if_neg (by simp [h]), mass_cons, mass_cons]; omega
    · rw [if_neg h, if_pos (by simpa using h), mass_cons, mass_cons]; omega
theorem mass_le {l : List (κ × Int)} {B : Nat} (h : ∀ p ∈ l, p.2.natAbs ≤ B) : mass l ≤ l.length * B := by
  induction l with
  | nil => simp [mass]
  | cons p l ih =>
    have h1 := ih (fun x hx => h x (by simp [hx]))
    have h2 := h p (by simp)
    rw [mass_cons, List.length_cons, Nat.add_mul, Nat.one_mul]; omega
variable [DecidableEq κ]
theorem sumK_mass (l : List (κ × Int)) (r : κ) : (sumK l r).natAbs ≤ mass l := by
  induction l with
  | nil => simp [sumK_nil]
  | cons p l ih => rw [sumK_cons, mass_cons]; split <;> omega
theorem sumK_filter_eq (l : List (κ × Int)) (k : κ) : sumK (l.filter fun p => decide (p.1 = k)) k = sumK l k := by
  induction l with
  | nil => rfl
  | cons p l ih =>
    rw [List.filter_cons, sumK_cons]
    by_cases h : p.1 = k
    · rw [if_pos (by simpa using h), sumK_cons, ih]
    · rw [if_neg (by simpa using h), ih, if_neg h]; omega
variable {cmp : κ → κ → Int}
theorem Canon.mass_le (G : Strict cmp) : ∀ {os l : List (κ × Int)} {S : κ → Int}, Canon cmp os S → (∀ r, S r = sumK l r) → mass os ≤ mass l := by
  intro os
  induction os with
  | nil => intro l S _ _; simp [mass]
  | cons p os ih =>
    intro l S h hS
    have hp := h.head G
    have h1 := ih (l := l.filter fun x => !decide (x.1 = p.1)) h.tail (fun r => by
      have e1 : (l.filter fun x => !decide (x.1 = p.1)) = l.filter fun x => decide (x.1 ≠ p.1) := by
        congr 1; funext x; by_cases hx : x.1 = p.1 <;> simp [hx]
      rw [e1, sumK_filter_ne]
      by_cases hr : r = p.1
      · subst hr; rw [if_pos rfl, if_pos rfl, hp]; omega
      · rw [if_neg (fun e => hr e.symm), if_neg hr, hS]; omega)
    have h2 := sumK_mass (l.filter fun x => decide (x.1 = p.1)) p.1
    rw [sumK_filter_eq, ← hS, hp] at h2
    have h3 := mass_split (fun x => decide (x.1 = p.1)) l
    rw [mass_cons]
    omega
theorem Canon.src {os l : List (κ × Int)} {S : κ → Int} (G : Strict cmp) (h : Canon cmp os S) (hS : ∀ r, S r = sumK l r) {p : κ × Int} (hp : p ∈ os) : ∃ x ∈ l, x.1 = p.1 := by
  by_cases hx : ∃ x ∈ l, x.1 = p.1
  · exact hx
  · exfalso
    have h1 := h.mem G hp
    rw [hS, sumK_none (fun q hq e => hx ⟨q, hq, e⟩)] at h1
    exact h.nz p hp h1.symm
end
end Go.Proofs.YtjchlfblbmiceaaGreat.grp

namespace Go.Proofs.YtjchlfblbmiceaaGreat
open Go.RowKit srt grp

/-! ### updates that tell the same -/
def Eqs (a b : List upd.El) : Prop := ∀ q, sumK (a.map upd.pr) q = sumK (b.map upd.pr) q
/-- They tell the same from a time on. -/
def SameFrom (s : Int) (a b : List upd.El) : Prop := Eqs (a.map (lt1 s)) (b.map (lt1 s))
/-- Those updates that are at a time or behind it. -/
def frL (l : List upd.El) (t : Int) : List upd.El := l.filter fun e => decide (t ≤ e.t)

theorem lt_push (l : List upd.El) (s : Int) : (l.map (lt1 s)).map upd.pr = push (fun _ => true) (fun q : Int × List Dt => (max q.1 s, q.2)) (l.map upd.pr) := by
  unfold push
  rw [List.filter_eq_self.2 (by simp), List.map_map, List.map_map]
  rfl
theorem fr_push (l : List upd.El) (t : Int) : (frL l t).map upd.pr = push (fun q : Int × List Dt => decide (t ≤ q.1)) (fun q => q) (l.map upd.pr) := by
  unfold push frL
  rw [List.filter_map, List.map_map]
  rfl
theorem Eqs.lt {a b : List upd.El} (h : Eqs a b) (s : Int) : Eqs (a.map (lt1 s)) (b.map (lt1 s)) := fun q => by
  rw [lt_push, lt_push]; exact push_same _ _ h q
theorem Eqs.fr {a b : List upd.El} (h : Eqs a b) (s : Int) : Eqs (frL a s) (frL b s) := fun q => by
  rw [fr_push, fr_push]; exact push_same _ _ h q
theorem Eqs.refl (a : List upd.El) : Eqs a a := fun _ => rfl
theorem Eqs.symm {a b : List upd.El} (h : Eqs a b) : Eqs b a := fun q => (h q).symm
theorem Eqs.trans {a b c : List upd.El} (h : Eqs a b) (k : Eqs b c) : Eqs a c := fun q => (h q).trans (k q)
theorem Eqs.app {a b c d : List upd.El} (h : Eqs a b) (k : Eqs c d) : Eqs (a ++ c) (b ++ d) := fun q => by
  rw [List.map_append, List.map_append, sumK_append, sumK_append, h q, k q]
theorem Eqs.of {a b : List upd.El} (h : a.map upd.pr = b.map upd.pr) : Eqs a b := fun q => by rw [h]
theorem lt_lt (l : List upd.El) {s t : Int} (h : s ≤ t) : (l.map (lt1 s)).map (lt1 t) = l.map (lt1 t) := by
  rw [List.map_map]
  refine List.map_congr_left fun e _ => ?_
  simp only [Function.comp_apply, lt1]
  congr 1
  omega
theorem SameFrom.refl (s : Int) (a : List upd.El) : SameFrom s a a := Eqs.refl _
theorem SameFrom.symm {s : Int} {a b : List upd.El} (h : SameFrom s a b) : SameFrom s b a := Eqs.symm h
theorem SameFrom.trans {s : Int} {a b c : List upd.El} (h : SameFrom s a b) (k : SameFrom s b c) : SameFrom s a c := Eqs.trans h k
theorem SameFrom.app {s : Int} {a b c d : List upd.El} (h : SameFrom s a b) (k : SameFrom s c d) : SameFrom s (a ++ c) (b ++ d) := by
  unfold SameFrom
  rw [List.map_append, List.map_append]
  exact Eqs.app h k
theorem SameFrom.later {s t : Int} {a b : List upd.El} (h : SameFrom s a b) (hst : s ≤ t) : SameFrom t a b := by
  have := Eqs.lt h t
  rwa [lt_lt _ hst, lt_lt _ hst] at this
theorem Eqs.same {a b : List upd.El} (h : Eqs a b) (s : Int) : SameFrom s a b := h.lt s
/-- What was brought later tells the same. -/
theorem SameFrom.brought {s : Int} {a b : List upd.El} (h : Eqs a (b.map (lt1 s))) : SameFrom s a b := by
  have := h.lt s
  rwa [lt_lt _ (Int.le_refl s)] at this
theorem SameFrom.at {s t : Int} {a b : List upd.El} (h : SameFrom s a b) (hst : s ≤ t) (r : List Dt) : sumK ((atL a t).map pr) r = sumK ((atL b t).map pr) r := by
  have := at_same h t r
  rwa [at_later _ hst, at_later _ hst] at this
theorem fr_lt (l : List upd.El) {s t : Int} (h : s < t) : (frL (l.map (lt1 s)) t).map upd.pr = (frL l t).map upd.pr := by
  unfold frL
  rw [List.filter_map, List.map_map]
  have e1 : (fun e : upd.El => decide (t ≤ e.t)) ∘ lt1 s = fun e => decide (t ≤ e.t) := by
    funext e
    simp only [Function.comp_apply, lt1]
    exact decide_eq_decide.2 (by omega)
  rw [e1]
  refine List.map_congr_left fun e he => ?_
  have h1 : t ≤ e.t := by simpa using (List.mem_filter.1 he).2
  simp only [Function.comp_apply, lt1, upd.pr, upd.key]
  rw [show max e.t s = e.t by omega]
theorem SameFrom.fr {s t : Int} {a b : List upd.El} (h : SameFrom s a b) (hst : s < t) : Eqs (frL a t) (frL b t) := fun q => by
  have := Eqs.fr h t q
  rwa [fr_lt _ hst, fr_lt _ hst] at this

/-! ### what a spine is to all that was added -/
def massU (l : List upd.El) : Nat := mass (l.map upd.pr)
theorem massU_append (a b : List upd.El) : massU (a ++ b) = massU a + massU b := by unfold massU; rw [List.map_append, mass_append]
theorem massU_lt (l : List upd.El) (s : Int) : massU (l.map (lt1 s)) = massU l := by
  unfold massU mass
  rw [List.map_map, List.map_map, List.map_map]
  rfl
theorem massU_atL (l : List upd.El) (t : Int) : mass ((atL l t).map pr) ≤ massU l := by
  have h := mass_filter (fun x : (Int × List Dt) × Int => decide (x.1.1 ≤ t)) (l.map upd.pr)
  refine Nat.le_trans (Nat.le_of_eq ?_) h
  unfold mass atL
  rw [List.filter_map, List.map_map, List.map_map, List.map_map]
  rfl
theorem massU_frL (l : List upd.El) (t : Int) : massU (frL l t) ≤ massU l := by
  have h := mass_filter (fun x : (Int × List Dt) × Int => decide (t ≤ x.1.1)) (l.map upd.pr)
  refine Nat.le_trans (Nat.le_of_eq ?_) h
  unfold massU mass frL
  rw [List.filter_map, List.map_map, List.map_map]
  rfl
theorem massU_filter (q : upd.El → Bool) (l : List upd.El) : massU (l.filter q) ≤ massU l := by
  unfold massU
  induction l with
  | nil => simp
  | cons e l ih => rw [List.filter_cons]; split <;> simp only [List.map_cons, mass_cons] <;> omega

structure Inv (key : List Int) (bs : List (List upd.El)) (since : Int) (all : List upd.El) : Prop where
  same : SameFrom since bs.flatten all
  ne : ∀ b ∈ bs, b ≠ []
  wide : ∀ e ∈ bs.flatten, ∀ k ∈ key, k < (e.rd.length : Int)
  mass : massU bs.flatten ≤ massU all
  len : bs.flatten.length ≤ all.length

theorem Inv.start (key : List Int) : Inv key [] 0 [] := ⟨SameFrom.refl _ _, by simp, by simp, Nat.le_refl _, Nat.le_refl _⟩
/-- A batch that is what updates come to, at the end. -/
theorem Inv.add {key : List Int} {bs : List (List upd.El)} {since : Int} {all l o : List upd.El} (h : Inv key bs since all) (hc : Canon upd.cmpU (o.map upd.pr) fun q => 1 * sumK (l.map upd.pr) q) (hw : ∀ e ∈ l, ∀ k ∈ key, k < (e.rd.length : Int)) (hl : o.length ≤ l.length) :
    Inv key (if o = [] then bs else bs ++ [o]) since (all ++ l) := by
  have e1 : (if o = [] then bs else bs ++ [o]).flatten = bs.flatten ++ o := by
    split
    · rename_i h1; rw [h1, List.append_nil]
    · rw [List.flatten_append]; simp
  have hs : Eqs o l := fun q => by rw [hc.sum]; omega
  have hm := hc.mass_le upd.cmpUS (l := l.map upd.pr) (fun r => by omega)
  refine ⟨?_, ?_, ?_, ?_, ?_⟩
  · rw [e1]; exact h.same.app (hs.same _)
  · intro b hb
    split at hb
    · exact h.ne b hb
    · rename_i h1
      rcases List.mem_append.1 hb with hb | hb
      · exact h.ne b hb
      · rw [List.mem_singleton.1 hb]; exact h1
  · rw [e1]
    intro e he k hk
    rcases List.mem_append.1 he with he | he
    · exact h.wide e he k hk
    · obtain ⟨x, hx, hxe⟩ := hc.src upd.cmpUS (l := l.map upd.pr) (fun r => by omega) (List.mem_map_of_mem (f := upd.pr) he)
      obtain ⟨e0, h0, rfl⟩ := List.mem_map.1 hx
      have h2 : e0.rd = e.rd := congrArg Prod.snd hxe
      rw [← h2]
      exact hw e0 h0 k hk
  · rw [e1, massU_append, massU_append]
    have := h.mass
    unfold massU at *
    omega
  · rw [e1, List.length_append, List.length_append]
    have := h.len
    omega
/-- Two neighbours made one. -/
theorem Inv.merge {key : List Int} {b1 b2 : List (List upd.El)} {since : Int} {all x y o : List upd.El} (h : Inv key (b1 ++ x :: y :: b2) since all) (hc : Canon upd.cmpU (o.map upd.pr) fun q => 1 * sumK (((x ++ y).map (lt1 since)).map upd.pr) q) (hl : o.length ≤ (x ++ y).length) :
    Inv key (b1 ++ (if o = [] then b2 else o :: b2)) since all := by
  have e1 : (b1 ++ (if o = [] then b2 else o :: b2)).flatten = b1.flatten ++ (o ++ b2.flatten) := by
    rw [List.flatten_append]
    split
    · rename_i h1; rw [h1, List.nil_append]
    · rw [List.flatten_cons]
  have e2 : (b1 ++ x :: y :: b2).flatten = b1.flatten ++ ((x ++ y) ++ b2.flatten) := by
    rw [List.flatten_append, List.flatten_cons, List.flatten_cons, List.append_assoc]
  have hs : SameFrom since o (x ++ y) := SameFrom.brought fun q => by rw [hc.sum]; omega
  have hm := hc.mass_le upd.cmpUS (l := ((x ++ y).map (lt1 since)).map upd.pr) (fun r => by omega)
  have hm2 : massU ((x ++ y).map (lt1 since)) = massU (x ++ y) := massU_lt _ _
  refine ⟨?_, ?_, ?_, ?_, ?_⟩
  · rw [e1]
    refine SameFrom.trans ?_ h.same
    rw [e2]
    exact (SameFrom.refl _ _).app (hs.app (SameFrom.refl _ _))
  · intro b hb
    rcases List.mem_append.1 hb with hb | hb
    · exact h.ne b (List.mem_append.2 (Or.inl hb))
    · split at hb
      · exact h.ne b (List.mem_append.2 (Or.inr (by simp [hb])))
      · rename_i h1
        rcases List.mem_cons.1 hb with rfl | hb
        · exact h1
        · exact h.ne b (List.mem_append.2 (Or.inr (by simp [hb])))
  · rw [e1]
    intro e he k hk
    have hw := h.wide
    rw [e2] at hw
    rcases List.mem_append.1 he with he | he
    · exact hw e (List.mem_append.2 (Or.inl he)) k hk
    · rcases List.mem_append.1 he with he | he
      · obtain ⟨z, hz, hze⟩ := hc.src upd.cmpUS (l := ((x ++ y).map (lt1 since)).map upd.pr) (fun r => by omega) (List.mem_map_of_mem (f := upd.pr) he)
        obtain ⟨e1, h1, rfl⟩ := List.mem_map.1 hz
        obtain ⟨e0, h0, rfl⟩ := List.mem_map.1 h1
        have h2 : e0.rd = e.rd := congrArg Prod.snd hze
        rw [← h2]
        exact hw e0 (List.mem_append.2 (Or.inr (List.mem_append.2 (Or.inl h0)))) k hk
      · exact hw e (List.mem_append.2 (Or.inr (List.mem_append.2 (Or.inr he)))) k hk
  · have := h.mass
    rw [e2, massU_append, massU_append] at this
    rw [e1, massU_append, massU_append]
    unfold massU at *
    omega
  · have := h.len
    rw [e2, List.length_append, List.length_append] at this
    rw [e1, List.length_append, List.length_append]
    omega
theorem Inv.since {key : List Int} {bs : List (List upd.El)} {s t : Int} {all : List upd.El} (h : Inv key bs s all) (hst : s ≤ t) : Inv key bs t all := ⟨h.same.later hst, h.ne, h.wide, h.mass, h.len⟩

/-- Which pair is to be merged. -/
def dueI : List Nat → Option Nat
  | a :: b :: l => if a < 2 * b then some 0 else (dueI (b :: l)).map (· + 1)
  | _ => none
def halvedB : List Nat → Bool
  | a :: b :: l => decide (1 ≤ a) && decide (2 * b ≤ a) && halvedB (b :: l)
  | [a] => decide (1 ≤ a)
  | [] => true
theorem due_halved : ∀ {l : List Nat}, (∀ n ∈ l, 1 ≤ n) → (dueI l = none ↔ halvedB l = true)
  | [], _ => by simp [dueI, halvedB]
  | [a], h => by simp [dueI, halvedB, h a (by simp)]
  | a :: b :: l, h => by
    have ih := due_halved (l := b :: l) (fun n hn => h n (by simp [hn]))
    have ha := h a (by simp)
    unfold dueI halvedB
    by_cases h1 : a < 2 * b
    · rw [if_pos h1]
      simp; omega
    · rw [if_neg h1]
      simp only [Option.map_eq_none_iff, ih, Bool.and_eq_true, decide_eq_true_eq]
      constructor
      · intro h2; exact ⟨⟨ha, by omega⟩, h2⟩
      · intro h2; exact h2.2
theorem halved_sum : ∀ {l : List Nat}, halvedB l = true → 2 ^ l.length ≤ l.sum + 1 ∧ (∀ a, l.head? = some a → 2 ^ l.length ≤ 2 * a)
  | [], _ => by simp
  | [a], h => by
    simp [halvedB] at h
    simp; omega
  | a :: b :: l, h => by
    unfold halvedB at h
    simp only [Bool.and_eq_true, decide_eq_true_eq] at h
    obtain ⟨h1, h2⟩ := halved_sum (l := b :: l) h.2
    have h3 := h2 b rfl
    have e1 : 2 ^ (a :: b :: l).length = 2 * 2 ^ (b :: l).length := by rw [List.length_cons, Nat.pow_succ]; omega
    refine ⟨?_, fun x hx => ?_⟩
    · rw [e1, List.sum_cons]; omega
    · simp only [List.head?_cons, Option.some.injEq] at hx
      subst hx
      rw [e1]; omega
theorem dueI_at : ∀ {l : List Nat} {i : Nat}, dueI l = some i → ∃ a b m x y, l = a ++ x :: y :: b ∧ a.length = i ∧ x < 2 * y ∧ m = 0
  | [], _, h => by simp [dueI] at h
  | [_], _, h => by simp [dueI] at h
  | x :: y :: l, i, h => by
    unfold dueI at h
    by_cases h1 : x < 2 * y
    · rw [if_pos h1] at h
      cases h
      exact ⟨[], l, 0, x, y, rfl, rfl, h1, rfl⟩
    · rw [if_neg h1, Option.map_eq_some_iff] at h
      obtain ⟨j, hj, rfl⟩ := h
      obtain ⟨a, b, m, u, v, e1, e2, e3, e4⟩ := dueI_at hj
      exact ⟨x :: a, b, m, u, v, by rw [e1]; rfl, by simp [e2], e3, e4⟩
end Go.Proofs.YtjchlfblbmiceaaGreat
