/- zset.At; the reference's LikeUpdates; what the laws of updates have in common. No condition but the sizes. -/
import Derived.Test.YtmionipeoffnhaaUy
import Derived.Test.YtmionipeoffnhaaZh
namespace Go.Proofs.Ytmionipeoffnhaa
open Go.RowKit srt grp

set_option maxRecDepth 100000
theorem alive_any (w : World) : Calls Try.prog 22 #[] w fun e w' => e = .returned (.bool true) ∧ Fr [] w w' := by
  go_enter Try.func22, Try.ntmps22
  go_wp2_with (go_at_call 20; refine (known_any _).mono ?_; rintro e w1 ⟨rfl, f1⟩)
  go_ret
  exact ⟨rfl, f1⟩

theorem upd.Cts.cell {w : World} {a : Option Addr} {n c : Nat} {l : List upd.El} (h : upd.Cts w (.slice a n c) l) {k : Nat} (hk : k < l.length) :
    ∃ b off, a = some ⟨b, off, none⟩ ∧ w.cell? ⟨b, off + k * 3, none⟩ = some (.slice (upd.nth l k).ra (upd.nth l k).rl (upd.nth l k).rc) ∧ w.cell? ⟨b, off + k * 3 + 1, none⟩ = some (.int .i64 (upd.nth l k).t) ∧ w.cell? ⟨b, off + k * 3 + 2, none⟩ = some (.int .i64 (upd.nth l k).n) := by
  rcases h.src.2.2 with ⟨-, h2⟩ | ⟨ad, c, hv, hc⟩
  · omega
  · simp only [Value.slice.injEq] at hv
    obtain ⟨e0, e1, e2⟩ := upd.elsC_at l k _ (upd.nth_at hk)
    have c0 := hc _ _ e0
    have c1 := hc _ _ e1
    have c2 := hc _ _ e2
    obtain ⟨e3, -, -⟩ := upd.elsC_at l 0 _ (upd.nth_at (show 0 < l.length by omega))
    have hp := addr_plain (a := ad) (hc 0 _ e3)
    refine ⟨ad.block, ad.off, by rw [hv.1]; exact congrArg some hp, cell_add c0, ?_, ?_⟩
    · have := cell_add c1
      rwa [← Nat.add_assoc] at this
    · have := cell_add c2
      rwa [← Nat.add_assoc] at this

set_option maxHeartbeats 1600000 in
theorem likeU_true {w : World} {a b : Option Addr} {c d : Nat} {l m : List upd.El} (h : upd.Cts w (.slice a l.length c) l) (h' : upd.Cts w (.slice b m.length d) m) (he : l.map upd.pr = m.map upd.pr) (hn : l.length ≤ 4398046511103) :
    Calls Try.prog 25 #[.slice a l.length c, .slice b m.length d] w fun e w' => e = .returned (.bool true) ∧ Fr [] w w' := by
  have hlen : l.length = m.length := by have := congrArg List.length he; simpa using this
  have hel : ∀ k, k < l.length → (upd.nth l k).rd = (upd.nth m k).rd ∧ (upd.nth l k).t = (upd.nth m k).t ∧ (upd.nth l k).n = (upd.nth m k).n := fun k hk => by
    have h1 := congrArg (fun x => x[k]?) he
    simp only [List.getElem?_map, upd.nth_at hk, upd.nth_at (show k < m.length by omega), Option.map_some, Option.some.injEq, upd.pr, upd.key, Prod.mk.injEq] at h1
    exact ⟨h1.1.2, h1.1.1, h1.2⟩
  rw [← hlen]
  have H := Lib.hid h
  have H' := Lib.hid h'
  have HEl := Lib.hid hel
  have HLen := Lib.hid hlen
  have hlz : ((l.length : Int) != (l.length : Int)) = false := by simp
  clear h h' he hel hlen
  go_enter Try.func25, Try.ntmps25
  go_wp2_with fail
  go_loopw [13] (fun x wr => ∃ k : Nat, x = .int .i64 k ∧ k ≤ l.length ∧ Fr [] w wr) (fun x _ => l.length - (intOf x).toNat)
  case atStart => exact ⟨0, rfl, Nat.zero_le _, Fr.refl _ _⟩
  case round =>
    obtain ⟨k, rfl, hk, hf⟩ := hrel
    have HF := Lib.hid hf
    by_cases hlt : k < l.length
    · obtain ⟨b1, o1, e1, x0, x1, x2⟩ := (H.out.fr hf).cell hlt
      obtain ⟨b2, o2, e2, y0, y1, y2⟩ := (H'.out.fr hf).cell (show k < m.length by have := HLen.out; omega)
      obtain ⟨q1, q2, q3⟩ := HEl.out k hlt
      subst e1
      subst e2
      rw [← q2] at y1
      rw [← q3] at y2
      have r1 := H.out.row _ (upd.nth_mem hlt)
      have r2 := H'.out.row _ (upd.nth_mem (show k < m.length by have := HLen.out; omega))
      have hs : ∀ p : FrBy wr, Calls Try.prog 36 #[.slice (upd.nth l k).ra (upd.nth l k).rl (upd.nth l k).rc, .slice (upd.nth m k).ra (upd.nth m k).rl (upd.nth m k).rc] p.wn fun e w' => e = .returned (.bool true) ∧ Fr [] p.wn w' := fun p => (rsame_any (r1.1.fr (hf.trans p.fr)) (r2.1.fr (hf.trans p.fr)) (by have := r1.2.len; omega)).mono fun e w' ⟨he, hf⟩ => ⟨by rw [he, q1, cmpR_self]; rfl, hf⟩
      have u0 : ∀ p : FrBy wr, p.wn.cell? ⟨b1, o1 + k * 3, none⟩ = some (.slice (upd.nth l k).ra (upd.nth l k).rl (upd.nth l k).rc) := fun p => p.fr.cell x0 (by simp)
      have u1 : ∀ p : FrBy wr, p.wn.cell? ⟨b1, o1 + k * 3 + 1, none⟩ = some (.int .i64 (upd.nth l k).t) := fun p => p.fr.cell x1 (by simp)
      have u2 : ∀ p : FrBy wr, p.wn.cell? ⟨b1, o1 + k * 3 + 2, none⟩ = some (.int .i64 (upd.nth l k).n) := fun p => p.fr.cell x2 (by simp)
      have v0 : ∀ p : FrBy wr, p.wn.cell? ⟨b2, o2 + k * 3, none⟩ = some (.slice (upd.nth m k).ra (upd.nth m k).rl (upd.nth m k).rc) := fun p => p.fr.cell y0 (by simp)
      have v1 : ∀ p : FrBy wr, p.wn.cell? ⟨b2, o2 + k * 3 + 1, none⟩ = some (.int .i64 (upd.nth l k).t) := fun p => p.fr.cell y1 (by simp)
      have v2 : ∀ p : FrBy wr, p.wn.cell? ⟨b2, o2 + k * 3 + 2, none⟩ = some (.int .i64 (upd.nth l k).n) := fun p => p.fr.cell y2 (by simp)
      have HC := Lib.hid hs
      have hz : ((upd.nth l k).n != (upd.nth l k).n) = false := by simp
      have hz2 : ((upd.nth l k).t != (upd.nth l k).t) = false := by simp
      clear hf x0 x1 x2 y0 y1 y2 q1 q2 q3 r1 r2 hs
      go_upto_region 6 with fail
      refine wp_region_fr (by kernel_rfl) (by kernel_rfl) ?_
      repeat (go_big_quiet_step ((go_at_call 36; exact Calls.fr_of (HC.out _))))
      refine wpQuiet_nil ?_
      intro wn hwn
      have fn : Fr [] wr wn := by obtain ⟨p, rfl⟩ := hwn; exact p.fr
      have FN := Lib.hid fn
      clear hwn u0 u1 u2 v0 v1 v2 HC fn
      go_wp2_with fail
      go_roundw
      case rel => exact ⟨k + 1, by go_num, by omega, HF.out.trans FN.out⟩
      case measure => simp [intOf] <;> omega
    · go_wp2_with fail
      go_ret
      exact ⟨rfl, HF.out⟩

/-- An update as a counted row. -/
def toC (e : upd.El) : El := ⟨e.ra, e.rl, e.rc, e.n, e.rd⟩
/-- What is there at a time. -/
def atL (l : List upd.El) (t : Int) : List El := (l.filter fun e => decide (e.t ≤ t)).map toC
theorem atL_snoc (l : List upd.El) (e : upd.El) (t : Int) : atL (l ++ [e]) t = atL l t ++ if e.t ≤ t then [toC e] else [] := by
  unfold atL
  rw [List.filter_append, List.map_append]
  congr 1
  by_cases h : e.t ≤ t <;> simp [h]
theorem atL_len (l : List upd.El) (t : Int) : (atL l t).length ≤ l.length := by
  unfold atL; rw [List.length_map]; exact List.length_filter_le _ _

set_option maxHeartbeats 3200000 in
theorem at_any {w : World} {aa : Option Addr} {ac : Nat} {l : List upd.El} {t : Int} (h : upd.Cts w (.slice aa l.length ac) l) (hn : l.length ≤ 10000) :
    Calls Try.prog 24 #[.slice aa l.length ac, .int .i64 t] w (TidyPost w (atL l t) 1) := by
  obtain ⟨i0, hi, hz0, hz1, hz2⟩ := info_parts infoC
  have H := Lib.hid h
  clear h
  go_enter Try.func24, Try.ntmps24
  go_wp2_with fail
  go_loopw [6, 11] (fun v x wr => ∃ k : Nat, x = .int .i64 k ∧ k ≤ l.length ∧ wr.ownsRow w.heap.size 31 2 v (atL (l.take k) t).length (elsC (atL (l.take k) t)) ∧ Fr [] w wr) (fun _ x _ => l.length - (intOf x).toNat)
  case atStart => exact ⟨0, rfl, Nat.zero_le _, World.ownsRow_nil _ _ _ _, Fr.refl _ _⟩
  case round =>
    obtain ⟨k, rfl, hk, ho, hf⟩ := hrel
    have HO := Lib.hid ho
    have HF := Lib.hid hf
    obtain ⟨va, vc, rfl⟩ := ownsRow_shape ho
    by_cases hlt : k < l.length
    · obtain ⟨b, off, e1, x0, x1, x2⟩ := (H.out.fr hf).cell hlt
      subst e1
      have hts : l.take (k + 1) = l.take k ++ [upd.nth l k] := by rw [List.take_add_one, upd.nth_at hlt]; rfl
      have hsn := atL_snoc (l.take k) (upd.nth l k) t
      rw [← hts] at hsn
      have HSn := Lib.hid hsn
      have hle := atL_len (l.take k) t
      have hlk : (l.take k).length = k := by rw [List.length_take]; omega
      have hal : (atL (l.take k) t).length ≤ 10000 := by omega
      clear hf ho hts hsn hle hlk
      generalize atL (l.take k) t = al at *
      go_upto_region 5 with fail
      have fa : Fr [] wr (wr.alloc (.cells #[.slice (upd.nth l k).ra (upd.nth l k).rl (upd.nth l k).rc, .int .i64 (upd.nth l k).t, .int .i64 (upd.nth l k).n] 41)) := (Fr.refl [] wr).alloc _
      have hb1 := heap_alloc_new wr (.cells #[.slice (upd.nth l k).ra (upd.nth l k).rl (upd.nth l k).rc, .int .i64 (upd.nth l k).t, .int .i64 (upd.nth l k).n] 41)
      have HOA := Lib.hid (ownsRow_fr HO.out fa (by simp))
      have HFA := Lib.hid (HF.out.trans fa)
      have hsz := (HF.out.trans fa).size
      clear fa HO HF x0 x1 x2
      generalize wr.heap.size = bx at *
      generalize wr.alloc (.cells #[.slice (upd.nth l k).ra (upd.nth l k).rl (upd.nth l k).rc, .int .i64 (upd.nth l k).t, .int .i64 (upd.nth l k).n] 41) = wa at *
      have y0 := cell_blk hb1 0 (.slice (upd.nth l k).ra (upd.nth l k).rl (upd.nth l k).rc) rfl
      have y1 := cell_blk hb1 1 (.int .i64 (upd.nth l k).t) rfl
      have y2 := cell_blk hb1 2 (.int .i64 (upd.nth l k).n) rfl
      clear hb1
      by_cases htt : (upd.nth l k).t ≤ t
      · have hsrc : Src (wa.alloc (.cells #[.slice (upd.nth l k).ra (upd.nth l k).rl (upd.nth l k).rc, .int .i64 (upd.nth l k).n] 31)) 2 (.slice (some ⟨wa.heap.size, 0, none⟩) 1 1) 1 [.slice (upd.nth l k).ra (upd.nth l k).rl (upd.nth l k).rc, .int .i64 (upd.nth l k).n] := Src.block (heap_alloc_new wa _) rfl (by intro u hu; simp at hu; rcases hu with rfl | rfl <;> rfl)
        have HSrc := Lib.hid hsrc
        have HT := Lib.hid htt
        clear hsrc
        go_wp2_with (at_builtin; refine wpList_append_src _ rfl (.tmp 19) (.tmp 25) 22 rfl w.heap.size 31 i0 _ 2 32 Try.underlying22 hi hz0 hz1 hz2 rfl (by decide) (.slice va al.length vc) al.length _ rfl (HOA.out.alloc _) (.slice (some ⟨wa.heap.size, 0, none⟩) 1 1) 1 [.slice (upd.nth l k).ra (upd.nth l k).rl (upd.nth l k).rc, .int .i64 (upd.nth l k).n] rfl HSrc.out (by unfold maxLen; omega) (by omega) (by simp; omega) ?_; intro v' w1 hown1 hgrow1 _)
        have HOwn1 := Lib.hid hown1
        have HG1 := Lib.hid hgrow1
        clear hown1 hgrow1
        go_roundw
        case rel => exact ⟨k + 1, by go_num, by omega, by
          rw [HSn.out, if_pos HT.out, elsC_append, List.length_append]
          simpa [elsC, El.cells, toC] using HOwn1.out, (HFA.out.alloc _).fresh HG1.out (fun r e => Or.inl (HOA.out.lt r e).1)⟩
        case measure => simp [intOf] <;> omega
      · have HT := Lib.hid htt
        go_wp2_with fail
        go_roundw
        case rel => exact ⟨k + 1, by go_num, by omega, by rw [HSn.out, if_neg HT.out, List.append_nil]; exact HOA.out, HFA.out⟩
        case measure => simp [intOf] <;> omega
    · have hkM := Lib.hid (show k = l.length by omega)
      have h1 : atL (l.take k) t = atL l t := by rw [hkM.out, List.take_length]
      have hcts : Cts wr (.slice va (atL l t).length vc) (atL l t) := by
        rw [← h1]
        refine own_cts ho fun e he => ?_
        rw [h1] at he
        obtain ⟨e0, h0, rfl⟩ := List.mem_map.1 he
        have h2 := H.out.row e0 (List.mem_filter.1 h0).1
        exact ⟨h2.1.fr hf, ⟨h2.2.len, h2.2.n⟩⟩
      have hle := atL_len l t
      have ht := Tidy_any hcts (by omega)
      rw [h1] at *
      have hsz := hf.size
      clear ho hcts hf h1
      generalize atL l t = al at *
      go_wp2_with (go_at_call 16; refine ht.mono ?_; rintro e w1 ⟨f1, ⟨h1, outs, a, c, rfl, h2, h3, h4⟩ | ⟨h1, rfl⟩⟩)
      · go_ret2
        exact ⟨HF.out.trans f1, Or.inl ⟨h1, outs, a, c, rfl, h2.base hsz, h3, h4⟩⟩
      · go_ret2
        exact ⟨HF.out.trans f1, Or.inr ⟨h1, rfl⟩⟩

/-- An update, brought later. -/
def lt1 (t : Int) (e : upd.El) : upd.El := { e with t := max e.t t }
def lts (f : Nat → upd.El) (t : Int) (i : Nat) : Nat → upd.El := fun k => if k < i then lt1 t (f k) else f k

theorem upd.Srt.later {g N : Nat} {w : World} {f : Nat → upd.El} {t : Int} {i : Nat} (h : upd.Srt g N w (lts f t i)) (hi : i < N) : upd.Srt g N (w.setCell ⟨g, i * 3 + 1, none⟩ (.int .i64 (max (f i).t t))) (lts f t (i + 1)) := by
  obtain ⟨cur, hb, hc⟩ := h
  refine ⟨_, heap_set hb, fun k hk => ?_⟩
  have lk := hc k hk
  have li := hc i hi
  have s1 : i * 3 + 2 < cur.size := (Array.getElem?_eq_some_iff.1 li.2.2).1
  by_cases h1 : k = i
  · subst h1
    have e1 : lts f t k k = f k := by unfold lts; rw [if_neg (by omega)]
    have e2 : lts f t (k + 1) k = lt1 t (f k) := by unfold lts; rw [if_pos (by omega)]
    rw [e1] at lk
    rw [e2]
    refine ⟨?_, ?_, ?_⟩
    · rw [Array.getElem?_setIfInBounds_ne (by omega)]; exact lk.1
    · rw [Array.getElem?_setIfInBounds_self_of_lt (by omega)]; rfl
    · rw [Array.getElem?_setIfInBounds_ne (by omega)]; exact lk.2.2
  · have e1 : lts f t (i + 1) k = lts f t i k := by
      unfold lts
      by_cases h2 : k < i
      · rw [if_pos (by omega), if_pos h2]
      · rw [if_neg (by omega), if_neg h2]
    rw [e1]
    refine ⟨?_, ?_, ?_⟩
    · rw [Array.getElem?_setIfInBounds_ne (by omega)]; exact lk.1
    · rw [Array.getElem?_setIfInBounds_ne (by omega)]; exact lk.2.1
    · rw [Array.getElem?_setIfInBounds_ne (by omega)]; exact lk.2.2
end Go.Proofs.Ytmionipeoffnhaa
