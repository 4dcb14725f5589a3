/- The walk of ZsetTimes. No condition but the sizes. -/
import Derived.Test.YtmionipeoffnhaaUf
import Derived.Test.YtmionipeoffnhaaOa
import Derived.Test.YtmionipeoffnhaaBe
import Derived.Deep.CutRange
import Derived.Deep.DeepCutAuto
namespace Go.Proofs.Ytmionipeoffnhaa
open Go.RowKit srt grp

theorem upd.elsC_take (l : List upd.El) (n j : Nat) (u : Value) (h : (upd.elsC (l.take n))[j]? = some u) : (upd.elsC l)[j]? = some u := by
  have h1 : upd.elsC l = upd.elsC (l.take n) ++ upd.elsC (l.drop n) := by rw [← upd.elsC_append, List.take_append_drop]
  rw [h1, List.getElem?_append_left (List.getElem?_eq_some_iff.1 h).1]
  exact h
theorem upd.Cts.take {w : World} {a : Option Addr} {n c k : Nat} {l : List upd.El} (h : upd.Cts w (.slice a n c) l) (hk : k ≤ l.length) : upd.Cts w (.slice a k c) (l.take k) := by
  have hl : (l.take k).length = k := by rw [List.length_take]; omega
  refine ⟨⟨upd.elsC_len _, upd.elsC_one _, ?_⟩, fun e he => h.row e (List.mem_of_mem_take he)⟩
  rcases h.src.2.2 with ⟨hv, h2⟩ | ⟨ad, c2, hv, hc⟩
  · simp only [Value.slice.injEq] at hv
    refine Or.inl ⟨?_, by omega⟩
    rw [hv.1, hv.2.2, show k = 0 by omega]
  · simp only [Value.slice.injEq] at hv
    exact Or.inr ⟨ad, c, by rw [hl, hv.1], fun j u hj => hc j u (upd.elsC_take l k j u hj)⟩
theorem cutU_any {w : World} {a : Option Addr} {c : Nat} (n : Nat) (hc : n ≤ c) (ha : a = none → c = 0) (hm : c ≤ 9223372036854775807) :
    Calls Try.prog 26 #[.slice a n c] w fun e w' => e = .returned (.slice a (min n 60) c) ∧ w = w' := by
  by_cases h : n ≤ 60
  · rw [Nat.min_eq_left h]
    have h1 : ¬ (60 : Int) < (n : Int) := by omega
    go_enter Try.func26, Try.ntmps26
    go_wp2_with fail
    go_ret
    exact ⟨rfl, rfl⟩
  · rw [Nat.min_eq_right (by omega)]
    cases a with
    | none => have := ha rfl; omega
    | some ad =>
      have h1 : (60 : Int) < (n : Int) := by omega
      have h2 : (60 : Int) ≤ (c : Int) := by omega
      go_enter Try.func26, Try.ntmps26
      go_wp2_with fail
      go_ret
      exact ⟨rfl, rfl⟩

/-- Two rows whose blocks differ. -/
theorem own_apart {w w' : World} {b1 n e1 s1 : Nat} {v x : Value} {xs : List Value} (h : w.ownsRow b1 e1 s1 v n xs) (hg : w.grownBy w' x.ownBlock) (hd : ∀ r, v.ownBlock = some r → x.ownBlock ≠ some r) : w'.ownsRow b1 e1 s1 v n xs := by
  obtain ⟨h1, h2⟩ := h
  refine ⟨h1, ?_⟩
  rcases h2 with h2 | ⟨g, cap, cur, hv, hb, hh, r⟩
  · exact Or.inl h2
  · have hlt : g < w.heap.size := (Array.getElem?_eq_some_iff.1 hh).1
    refine Or.inr ⟨g, cap, cur, hv, hb, ?_, r⟩
    have hvb : v.ownBlock = some g := by rw [hv]; rfl
    rw [hg.block g hlt (fun e => hd g hvb (by first | exact e | exact e.symm))]
    exact hh
/-- What was told, clipped, as a row without room. -/
theorem own_or_of (base : Nat) {w : World} {a : Option Addr} {c : Nat} {l : List El} (h : Cts w (.slice a l.length c) l) (hc : c = l.length) : OwnOr w base 31 2 (.slice a l.length c) l.length (elsC l) := by
  subst hc
  rcases h.src.2.2 with ⟨hv, h2⟩ | ⟨ad, c2, hv, hcell⟩
  · rw [hv, h2, List.length_eq_zero_iff.1 h2]
    exact Or.inl (World.ownsRow_nil _ _ _ _)
  · simp only [Value.slice.injEq] at hv
    exact Or.inr ⟨ad, by rw [hv.1], elsC_len l, hcell⟩
theorem OwnOr.shape {w : World} {base e size n : Nat} {v : Value} {xs : List Value} (h : OwnOr w base e size v n xs) : ∃ a c, v = .slice a n c := by
  rcases h with h | ⟨b, rfl, -⟩
  · exact ownsRow_shape h
  · exact ⟨_, _, rfl⟩
theorem OwnOr.cts {w : World} {base n : Nat} {v : Value} {l : List El} (hn : l.length = n) (h : OwnOr w base 31 2 v n (elsC l)) (hr : ∀ e ∈ l, RowAt w e.rv e.rd ∧ ElOk e) : Cts w v l := by
  subst hn
  rcases h with h | ⟨b, rfl, hl, hc⟩
  · exact own_cts h hr
  · exact ⟨⟨elsC_len l, elsC_one l, Or.inr ⟨b, _, rfl, hc⟩⟩, hr⟩
def EarR (w6 : World) (l6 : List El) (B : List upd.El) (v x : Value) (wr : World) : Prop :=
  ∃ k : Nat, x = .int .i64 (k : Int) ∧ k ≤ B.length ∧ Fr [] w6 wr ∧ OwnOr wr w6.heap.size 31 2 v (l6.length + k) (elsC (l6 ++ (B.take k).map toC))

def TimR (w0 : World) (lm : List upd.El) (s t : Int) (a b i : Value) (wr : World) : Prop :=
  ∃ k : Nat, i = .int .i64 (k : Int) ∧ k ≤ lm.length ∧ Fr [] w0 wr ∧ wr.ownsRow w0.heap.size 41 3 a k (upd.elsC ((lm.take k).map usm)) ∧ wr.ownsRow w0.heap.size 41 3 b (btw ((lm.take k).map usm) s t).length (upd.elsC (btw ((lm.take k).map usm) s t)) ∧ (∀ r, a.ownBlock = some r → b.ownBlock ≠ some r)

set_option maxRecDepth 100000
set_option maxHeartbeats 12800000 in
theorem times_walk {w : World} {a0 : Option Addr} {c0 : Nat} {lx : List upd.El} {s t : Int} (hx : upd.Cts w (.slice a0 lx.length c0) lx) (hcx : lx.length ≤ c0) (hax : a0 = none → c0 = 0) (hmx : c0 ≤ 9223372036854775807) (hs : -9223372036854775808 ≤ s ∧ s ≤ 9223372036854775807) (ht : -9223372036854775808 ≤ t ∧ t ≤ 9223372036854775807) :
    Calls Try.prog 7 #[.slice a0 lx.length c0, .int .i64 s, .int .i64 t] w fun e w' => e = .returned (.bool true) ∧ Fr [] w w' := by
  obtain ⟨i0, hi, hz0, hz1, hz2⟩ := info_parts infoC
  obtain ⟨i1, hj, hy0, hy1, hy2⟩ := info_parts upd.infoU
  have hcut := fun wi => cutU_any (w := wi) lx.length hcx hax hmx
  obtain ⟨sx, hsl, hst, hsn⟩ : ∃ sx : List upd.El, sx.length = min lx.length 60 ∧ upd.Cts w (.slice a0 sx.length c0) sx ∧ sx.map usm = usL lx := by
    have ht := hx.take (k := min lx.length 60) (by omega)
    have hl : (lx.take (min lx.length 60)).length = min lx.length 60 := by rw [List.length_take]; omega
    refine ⟨_, hl, by rw [hl]; exact ht, ?_⟩
    unfold usL
    rw [show lx.take (min lx.length 60) = lx.take 60 by rw [List.take_eq_take_iff]; omega]
  rw [← hsl] at hcut
  have q1 : sx.length ≤ 60 := by omega
  have HSn := Lib.hid hsn
  have HCut := Lib.hid hcut
  have K0 := Lib.hid hst
  clear hx hcx hax hmx hsl hcut hst hsn
  go_enter Try.func7, Try.ntmps7
  go_upto_if 37 with (go_at_call 22; refine (alive_any _).mono ?_; rintro e w0 ⟨rfl, f0⟩)
  replace K0 := Lib.hid (K0.out.fr f0)
  have T := Lib.hid f0
  clear f0
  go_cut [1, 2] (fun x y wx => ∃ s' t' : Int, x = .int .i64 s' ∧ y = .int .i64 t' ∧ s' ≤ t' ∧ (-9223372036854775808 ≤ s' ∧ s' ≤ 9223372036854775807) ∧ (-9223372036854775808 ≤ t' ∧ t' ≤ 9223372036854775807) ∧ wx = w0)
  case first =>
    by_cases hst : t < s
    · go_wp2_with fail
      go_meet
      case rel => exact ⟨t, s, rfl, rfl, by omega, ht, hs, rfl⟩
    · go_wp2_with fail
      go_meet
      case rel => exact ⟨s, t, rfl, rfl, by omega, hs, ht, rfl⟩
  case rest =>
    clear hs ht
    obtain ⟨s', t', rfl, rfl, hst, hs, ht, rfl⟩ := hcut
    obtain ⟨wz, rfl⟩ : ∃ wz, wz = wc := ⟨wc, rfl⟩
    go_upto_region 7 with (go_at_call 26; refine (HCut.out _).mono ?_; rintro e w' ⟨rfl, rfl⟩)
    go_loopw [7, 8, 43] (fun a b i wr => TimR wz sx s' t' a b i wr) (fun _ _ i _ => sx.length - (intOf i).toNat)
    case atStart => exact ⟨0, rfl, Nat.zero_le _, Fr.refl _ _, World.ownsRow_nil _ _ _ _, World.ownsRow_nil _ _ _ _, fun r e => by cases e⟩
    case round =>
      obtain ⟨k, rfl, hk, hf, ho, hob, hdj⟩ := hrel
      obtain ⟨va, vc, rfl⟩ := ownsRow_shape ho
      obtain ⟨vb, vd, rfl⟩ := ownsRow_shape hob
      have HO := Lib.hid ho
      have HOb := Lib.hid hob
      have HF := Lib.hid hf
      have HDj := Lib.hid hdj
      have hbl := btw_len ((sx.take k).map usm) s' t'
      rw [List.length_map, List.length_take] at hbl
      by_cases hlt : k < sx.length
      · as_aux_lemma =>
        obtain ⟨b, off, e1, x0, x1, x2⟩ := (K0.out.fr hf).cell hlt
        subst e1
        have hts : sx.take (k + 1) = sx.take k ++ [upd.nth sx k] := by rw [List.take_add_one, upd.nth_at hlt]; rfl
        have HTs := Lib.hid hts
        have hlow : ∀ r, (Value.slice va k vc).ownBlock = some r → r < wr.heap.size := fun r e => (HO.out.lt r e).2
        have HLow := Lib.hid hlow
        clear hf ho hob hdj hts hlow
        generalize hbe : (btw ((sx.take k).map usm) s' t').length = bl at *
        have HBl := Lib.hid hbe
        clear hbe
        go_upto_region 10 with fail
        have fa : Fr [] wr (wr.alloc (.cells #[.slice (upd.nth sx k).ra (upd.nth sx k).rl (upd.nth sx k).rc, .int .i64 (upd.nth sx k).t, .int .i64 (Int.tmod (upd.nth sx k).n 1000000)] 41)) := (Fr.refl [] wr).alloc _
        have hb1 := heap_alloc_new wr (.cells #[.slice (upd.nth sx k).ra (upd.nth sx k).rl (upd.nth sx k).rc, .int .i64 (upd.nth sx k).t, .int .i64 (Int.tmod (upd.nth sx k).n 1000000)] 41)
        have HOA := Lib.hid (ownsRow_fr HO.out fa (by simp))
        have HOB := Lib.hid (ownsRow_fr HOb.out fa (by simp))
        have HFA := Lib.hid (HF.out.trans fa)
        have hszA := (HF.out.trans fa).size
        have HBx := Lib.hid (show ¬ (Value.slice va k vc).ownBlock = some wr.heap.size from fun e => by have := HLow.out _ e; omega)
        clear fa HO HOb HF x0 x1 x2 HLow
        generalize wr.heap.size = bx at *
        generalize wr.alloc (.cells #[.slice (upd.nth sx k).ra (upd.nth sx k).rl (upd.nth sx k).rc, .int .i64 (upd.nth sx k).t, .int .i64 (Int.tmod (upd.nth sx k).n 1000000)] 41) = wa at *
        have y0 := cell_blk hb1 0 (.slice (upd.nth sx k).ra (upd.nth sx k).rl (upd.nth sx k).rc) rfl
        have y1 := cell_blk hb1 1 (.int .i64 (upd.nth sx k).t) rfl
        have y2 := cell_blk hb1 2 (.int .i64 (Int.tmod (upd.nth sx k).n 1000000)) rfl
        clear hb1
        by_cases h1 : s' < (upd.nth sx k).t
        · by_cases h2 : (upd.nth sx k).t ≤ t'
          · have HBt := Lib.hid (⟨h1, h2⟩ : s' < (upd.nth sx k).t ∧ (upd.nth sx k).t ≤ t')
            go_wp2_with (first
              | (at_builtin; refine wpList_append_src _ rfl (.tmp 51) (.tmp 53) 39 rfl wz.heap.size 41 i1 _ 3 40 Try.underlying39 hj hy0 hy1 hy2 rfl (by decide) (.slice va k vc) k _ rfl (ownsRow_fr HOA.out ((Fr.refl [] wa).alloc _) (by simp)) (.slice (some ⟨wa.heap.size, 0, none⟩) 1 1) 1 [.slice (upd.nth sx k).ra (upd.nth sx k).rl (upd.nth sx k).rc, .int .i64 (upd.nth sx k).t, .int .i64 (Int.tmod (upd.nth sx k).n 1000000)] rfl (Src.block (heap_alloc_new wa _) rfl (by intro u hu; simp at hu; rcases hu with rfl | rfl | rfl <;> rfl)) (by unfold maxLen; omega) (by omega) (by simp; omega) ?_; intro v3 w3 hown3 hgrow3 hblk3; obtain ⟨v3a, v3c, rfl⟩ := ownsRow_shape hown3; have fb := (Fr.refl [] wa).alloc (.cells #[.slice (upd.nth sx k).ra (upd.nth sx k).rl (upd.nth sx k).rc, .int .i64 (upd.nth sx k).t, .int .i64 (Int.tmod (upd.nth sx k).n 1000000)] 41); have f3 := (HFA.out.trans fb).fresh hgrow3 (fun r e => Or.inl (HOA.out.lt r e).1); have k3 : Fr (Value.slice va k vc).ownBlock.toList wa w3 := fb.nil.trans (Fr.grown hgrow3); have hnb : bx ∉ (Value.slice va k vc).ownBlock.toList := fun hx => HBx.out (by simpa using hx); have u0 := k3.cell y0 hnb; have u1 := k3.cell y1 hnb; have u2 := k3.cell y2 hnb; have HOwn3 := Lib.hid hown3; have HOB3 := Lib.hid (own_apart (ownsRow_fr HOB.out fb (by simp)) hgrow3 (fun r e1 e2 => HDj.out r e2 e1)); have F3 := Lib.hid f3; have hsz3 := f3.size; have HDj3 : Hid (∀ r, (Value.slice v3a (k + 1) v3c).ownBlock = some r → (Value.slice vb bl vd).ownBlock ≠ some r) := Lib.hid (fun r e1 e2 => by { rcases hblk3 with h | h; exact HDj.out r (h.symm.trans e1) e2; have h7 := (HOB.out.lt r e2).2; have h8 := h.symm.trans e1; simp only [Option.some.injEq] at h8; simp at h8; omega }); clear hown3 hgrow3 f3 k3 fb hblk3)
              | (at_builtin; refine wpList_append_src _ rfl (.tmp 65) (.tmp 67) 39 rfl wz.heap.size 41 i1 _ 3 40 Try.underlying39 hj hy0 hy1 hy2 rfl (by decide) (.slice vb bl vd) bl _ rfl (ownsRow_fr HOB3.out ((Fr.refl [] w3).alloc _) (by simp)) (.slice (some ⟨w3.heap.size, 0, none⟩) 1 1) 1 [.slice (upd.nth sx k).ra (upd.nth sx k).rl (upd.nth sx k).rc, .int .i64 (upd.nth sx k).t, .int .i64 (Int.tmod (upd.nth sx k).n 1000000)] rfl (Src.block (heap_alloc_new w3 _) rfl (by intro u hu; simp at hu; rcases hu with rfl | rfl | rfl <;> rfl)) (by unfold maxLen; omega) (by omega) (by simp; omega) ?_; intro v4 w4 hown4 hgrow4 hblk4; have HOwn4 := Lib.hid hown4; have HG4 := Lib.hid hgrow4; have HBlk4 := Lib.hid hblk4; clear hown4 hgrow4 hblk4))
            go_roundw
            case rel =>
              have fb := (Fr.refl [] w3).alloc (.cells #[.slice (upd.nth sx k).ra (upd.nth sx k).rl (upd.nth sx k).rc, .int .i64 (upd.nth sx k).t, .int .i64 (Int.tmod (upd.nth sx k).n 1000000)] 41)
              refine ⟨k + 1, by go_num, by omega, (F3.out.trans fb).fresh HG4.out (fun r e => Or.inl (HOB3.out.lt r e).1), ?_, ?_, fun r e1 e2 => ?_⟩
              · have h9 := own_apart (ownsRow_fr HOwn3.out fb (by simp)) HG4.out (fun r e1 e2 => HDj3.out r e1 e2)
                rw [HTs.out, List.map_append, upd.elsC_append]
                simpa [upd.elsC, upd.El.cells, usm] using h9
              · rw [HTs.out, List.map_append]
                show w4.ownsRow _ _ _ _ (btw (_ ++ [usm (upd.nth sx k)]) s' t').length (upd.elsC (btw (_ ++ [usm (upd.nth sx k)]) s' t'))
                rw [btw_snoc, if_pos (show s' < (usm (upd.nth sx k)).t ∧ (usm (upd.nth sx k)).t ≤ t' from HBt.out), List.length_append, HBl.out, upd.elsC_append]
                simpa [upd.elsC, upd.El.cells, usm] using HOwn4.out
              · rcases HBlk4.out with h | h
                · exact HDj3.out r e1 (h.symm.trans e2)
                · have h7 := (HOwn3.out.lt r e1).2
                  have h8 := h.symm.trans e2
                  simp at h8
                  omega
            case measure => simp [intOf] <;> omega
          · have HNb := Lib.hid (fun h : s' < (upd.nth sx k).t ∧ (upd.nth sx k).t ≤ t' => h2 h.2)
            go_wp2_with (at_builtin; refine wpList_append_src _ rfl (.tmp 51) (.tmp 53) 39 rfl wz.heap.size 41 i1 _ 3 40 Try.underlying39 hj hy0 hy1 hy2 rfl (by decide) (.slice va k vc) k _ rfl (ownsRow_fr HOA.out ((Fr.refl [] wa).alloc _) (by simp)) (.slice (some ⟨wa.heap.size, 0, none⟩) 1 1) 1 [.slice (upd.nth sx k).ra (upd.nth sx k).rl (upd.nth sx k).rc, .int .i64 (upd.nth sx k).t, .int .i64 (Int.tmod (upd.nth sx k).n 1000000)] rfl (Src.block (heap_alloc_new wa _) rfl (by intro u hu; simp at hu; rcases hu with rfl | rfl | rfl <;> rfl)) (by unfold maxLen; omega) (by omega) (by simp; omega) ?_; intro v3 w3 hown3 hgrow3 hblk3; obtain ⟨v3a, v3c, rfl⟩ := ownsRow_shape hown3; have fb := (Fr.refl [] wa).alloc (.cells #[.slice (upd.nth sx k).ra (upd.nth sx k).rl (upd.nth sx k).rc, .int .i64 (upd.nth sx k).t, .int .i64 (Int.tmod (upd.nth sx k).n 1000000)] 41); have f3 := (HFA.out.trans fb).fresh hgrow3 (fun r e => Or.inl (HOA.out.lt r e).1); have k3 : Fr (Value.slice va k vc).ownBlock.toList wa w3 := fb.nil.trans (Fr.grown hgrow3); have hnb : bx ∉ (Value.slice va k vc).ownBlock.toList := fun hx => HBx.out (by simpa using hx); have u0 := k3.cell y0 hnb; have u1 := k3.cell y1 hnb; have u2 := k3.cell y2 hnb; have HOwn3 := Lib.hid hown3; have HOB3 := Lib.hid (own_apart (ownsRow_fr HOB.out fb (by simp)) hgrow3 (fun r e1 e2 => HDj.out r e2 e1)); have F3 := Lib.hid f3; have hsz3 := f3.size; have HDj3 : Hid (∀ r, (Value.slice v3a (k + 1) v3c).ownBlock = some r → (Value.slice vb bl vd).ownBlock ≠ some r) := Lib.hid (fun r e1 e2 => by { rcases hblk3 with h | h; exact HDj.out r (h.symm.trans e1) e2; have h7 := (HOB.out.lt r e2).2; have h8 := h.symm.trans e1; simp only [Option.some.injEq] at h8; simp at h8; omega }); clear hown3 hgrow3 f3 k3 fb hblk3)
            go_roundw
            case rel => exact ⟨k + 1, by go_num, by omega, F3.out, by
              rw [HTs.out, List.map_append, upd.elsC_append]
              simpa [upd.elsC, upd.El.cells, usm] using HOwn3.out, by
              rw [HTs.out, List.map_append]
              show w3.ownsRow _ _ _ _ (btw (_ ++ [usm (upd.nth sx k)]) s' t').length (upd.elsC (btw (_ ++ [usm (upd.nth sx k)]) s' t'))
              rw [btw_snoc, if_neg (show ¬ (s' < (usm (upd.nth sx k)).t ∧ (usm (upd.nth sx k)).t ≤ t') from HNb.out), List.append_nil, HBl.out]
              have h9 := HOB3.out
              exact h9, HDj3.out⟩
            case measure => simp [intOf] <;> omega
        · have HNb := Lib.hid (fun h : s' < (upd.nth sx k).t ∧ (upd.nth sx k).t ≤ t' => h1 h.1)
          go_wp2_with (at_builtin; refine wpList_append_src _ rfl (.tmp 51) (.tmp 53) 39 rfl wz.heap.size 41 i1 _ 3 40 Try.underlying39 hj hy0 hy1 hy2 rfl (by decide) (.slice va k vc) k _ rfl (ownsRow_fr HOA.out ((Fr.refl [] wa).alloc _) (by simp)) (.slice (some ⟨wa.heap.size, 0, none⟩) 1 1) 1 [.slice (upd.nth sx k).ra (upd.nth sx k).rl (upd.nth sx k).rc, .int .i64 (upd.nth sx k).t, .int .i64 (Int.tmod (upd.nth sx k).n 1000000)] rfl (Src.block (heap_alloc_new wa _) rfl (by intro u hu; simp at hu; rcases hu with rfl | rfl | rfl <;> rfl)) (by unfold maxLen; omega) (by omega) (by simp; omega) ?_; intro v3 w3 hown3 hgrow3 hblk3; obtain ⟨v3a, v3c, rfl⟩ := ownsRow_shape hown3; have fb := (Fr.refl [] wa).alloc (.cells #[.slice (upd.nth sx k).ra (upd.nth sx k).rl (upd.nth sx k).rc, .int .i64 (upd.nth sx k).t, .int .i64 (Int.tmod (upd.nth sx k).n 1000000)] 41); have f3 := (HFA.out.trans fb).fresh hgrow3 (fun r e => Or.inl (HOA.out.lt r e).1); have k3 : Fr (Value.slice va k vc).ownBlock.toList wa w3 := fb.nil.trans (Fr.grown hgrow3); have hnb : bx ∉ (Value.slice va k vc).ownBlock.toList := fun hx => HBx.out (by simpa using hx); have u0 := k3.cell y0 hnb; have u1 := k3.cell y1 hnb; have u2 := k3.cell y2 hnb; have HOwn3 := Lib.hid hown3; have HOB3 := Lib.hid (own_apart (ownsRow_fr HOB.out fb (by simp)) hgrow3 (fun r e1 e2 => HDj.out r e2 e1)); have F3 := Lib.hid f3; have hsz3 := f3.size; have HDj3 : Hid (∀ r, (Value.slice v3a (k + 1) v3c).ownBlock = some r → (Value.slice vb bl vd).ownBlock ≠ some r) := Lib.hid (fun r e1 e2 => by { rcases hblk3 with h | h; exact HDj.out r (h.symm.trans e1) e2; have h7 := (HOB.out.lt r e2).2; have h8 := h.symm.trans e1; simp only [Option.some.injEq] at h8; simp at h8; omega }); clear hown3 hgrow3 f3 k3 fb hblk3)
          go_roundw
          case rel => exact ⟨k + 1, by go_num, by omega, F3.out, by
            rw [HTs.out, List.map_append, upd.elsC_append]
            simpa [upd.elsC, upd.El.cells, usm] using HOwn3.out, by
            rw [HTs.out, List.map_append]
            show w3.ownsRow _ _ _ _ (btw (_ ++ [usm (upd.nth sx k)]) s' t').length (upd.elsC (btw (_ ++ [usm (upd.nth sx k)]) s' t'))
            rw [btw_snoc, if_neg (show ¬ (s' < (usm (upd.nth sx k)).t ∧ (usm (upd.nth sx k)).t ≤ t') from HNb.out), List.append_nil, HBl.out]
            have h9 := HOB3.out
            exact h9, HDj3.out⟩
          case measure => simp [intOf] <;> omega
      · as_aux_lemma =>
        obtain rfl : k = sx.length := by omega
        rw [List.take_length] at ho hob hbl
        rw [List.take_length]
        have hLl : (sx.map usm).length = sx.length := by simp
        have hrw : ∀ e ∈ sx.map usm, RowAt wr e.rv e.rd ∧ upd.ElOk e := fun e he => by
          obtain ⟨e0, h0, rfl⟩ := List.mem_map.1 he
          have h1 := K0.out.row e0 h0
          have h3 := Int.tmod_lt_of_pos e0.n (show (0 : Int) < 1000000 by decide)
          have h4 := Int.lt_tmod_of_pos e0.n (show (0 : Int) < 1000000 by decide)
          exact ⟨h1.1.fr hf, ⟨h1.2.len, h1.2.t, by simp only [usm]; omega⟩⟩
        have hkl : upd.Cts wr (.slice va sx.length vc) (sx.map usm) := by
          have h9 := upd.own_cts (l := sx.map usm) (v := .slice va sx.length vc) (w := wr) (base := wz.heap.size) (by rw [hLl]; exact ho) hrw
          exact h9
        have KL := Lib.hid hkl
        have KB := Lib.hid (upd.own_cts hob (fun e he => hrw e (List.mem_filter.1 he).1))
        have hnl := usm_n lx
        rw [← HSn.out] at hnl
        have NL := Lib.hid hnl
        have HLl := Lib.hid hLl
        have q2 : (sx.map usm).length ≤ 60 := by omega
        have qb : (btw (sx.map usm) s' t').length ≤ 60 := by omega
        replace T := Lib.hid (T.out.trans hf)
        clear ho hob hf HO HOb HF HDj hdj hrw hkl hnl hlt hk hLl hbl K0 HSn HCut
        generalize sx.map usm = L at *
        generalize hbb : btw L s' t' = B at *
        have HB := Lib.hid hbb
        clear hbb
        have SL := Lib.hid (fun q => us_bound q2 NL.out q)
        have AS := Lib.hid (fun r => at_bound q2 NL.out s' r)
        have AT := Lib.hid (fun r => at_bound q2 NL.out t' r)
        have LL := Lib.hid (fun q => us_bound (l := L.map (lt1 s')) (by rw [List.length_map]; exact q2) (later_mem NL.out) q)
        go_upto_region 15 with (go_at_call 23; refine (settleFit KL.out HLl.out (by omega) (fun q => by have := SL.out q; exact fit_of (by omega) (by omega))).mono ?_; rintro e w1 ⟨l1, x1, y1, rfl, f1, k1, n1, m1⟩)
        replace T := Lib.hid (T.out.trans f1)
        replace KL := Lib.hid (KL.out.fr f1)
        replace KB := Lib.hid (KB.out.fr f1)
        have K1 := Lib.hid k1.cts
        have N1 := Lib.hid n1
        clear f1 k1 n1
        have hl2 : l1.length ≤ 60 := by omega
        go_upto_region 16 with (go_at_call 29; refine (laterFit KL.out HLl.out (by omega) hs (fun q => by have := LL.out q; exact fit_of (by omega) (by omega))).mono ?_; rintro e w2 ⟨l2, x2, y2, rfl, f2, k2, n2, m2⟩)
        replace T := Lib.hid (T.out.trans f2)
        replace KL := Lib.hid (KL.out.fr f2)
        replace KB := Lib.hid (KB.out.fr f2)
        replace K1 := Lib.hid (K1.out.fr f2)
        have K2 := Lib.hid k2.cts
        have N2 := Lib.hid n2
        rw [List.length_map] at m2
        clear f2 k2 n2
        go_upto_region 17 with (go_at_call 24; refine (atFit KL.out HLl.out (by omega) (fun r => by have := AT.out r; exact fit_of (by omega) (by omega))).mono ?_; rintro e w3 ⟨l3, x3, y3, rfl, f3, k3, n3, m3, c3⟩)
        replace T := Lib.hid (T.out.trans f3)
        replace KL := Lib.hid (KL.out.fr f3)
        replace KB := Lib.hid (KB.out.fr f3)
        replace K1 := Lib.hid (K1.out.fr f3)
        replace K2 := Lib.hid (K2.out.fr f3)
        have K3 := Lib.hid k3.cts
        have N3 := Lib.hid n3
        have ml3 := atL_len L t'
        clear f3 k3 n3 c3
        have AT1 := Lib.hid (fun r => show sumK ((atL l1 t').map pr) r = sumK ((atL L t').map pr) r from at_same (fun q => by rw [N1.out.sum]; omega) t' r)
        have AT2 := Lib.hid (fun r => show sumK ((atL l2 t').map pr) r = sumK ((atL L t').map pr) r by rw [at_same (a := l2) (b := L.map (lt1 s')) (fun q => by rw [N2.out.sum]; omega) t' r, at_later L hst])
        go_upto_region 18 with (go_at_call 24; refine (atFit K1.out rfl (by omega) (fun r => by rw [AT1.out]; have := AT.out r; exact fit_of (by omega) (by omega))).mono ?_; rintro e w4 ⟨l4, x4, y4, rfl, f4, k4, n4, m4, c4⟩)
        replace T := Lib.hid (T.out.trans f4)
        replace KL := Lib.hid (KL.out.fr f4)
        replace KB := Lib.hid (KB.out.fr f4)
        replace K1 := Lib.hid (K1.out.fr f4)
        replace K2 := Lib.hid (K2.out.fr f4)
        replace K3 := Lib.hid (K3.out.fr f4)
        have K4 := Lib.hid k4.cts
        have N4 := Lib.hid n4
        clear f4 k4 n4 c4 m4
        go_upto_region 19 with (go_at_call 24; refine (atFit K2.out rfl (by omega) (fun r => by rw [AT2.out]; have := AT.out r; exact fit_of (by omega) (by omega))).mono ?_; rintro e w5 ⟨l5, x5, y5, rfl, f5, k5, n5, m5, c5⟩)
        replace T := Lib.hid (T.out.trans f5)
        replace KL := Lib.hid (KL.out.fr f5)
        replace KB := Lib.hid (KB.out.fr f5)
        replace K1 := Lib.hid (K1.out.fr f5)
        replace K2 := Lib.hid (K2.out.fr f5)
        replace K3 := Lib.hid (K3.out.fr f5)
        replace K4 := Lib.hid (K4.out.fr f5)
        have K5 := Lib.hid k5.cts
        have N5 := Lib.hid n5
        clear f5 k5 n5 c5 m5
        go_upto_region 20 with (go_at_call 24; refine (atFit KL.out HLl.out (by omega) (fun r => by have := AS.out r; exact fit_of (by omega) (by omega))).mono ?_; rintro e w6 ⟨l6, x6, y6, rfl, f6, k6, n6, m6, c6⟩)
        replace T := Lib.hid (T.out.trans f6)
        replace KB := Lib.hid (KB.out.fr f6)
        replace K1 := Lib.hid (K1.out.fr f6)
        replace K2 := Lib.hid (K2.out.fr f6)
        replace K3 := Lib.hid (K3.out.fr f6)
        replace K4 := Lib.hid (K4.out.fr f6)
        replace K5 := Lib.hid (K5.out.fr f6)
        have HO6 := Lib.hid (own_or_of w6.heap.size k6.cts c6.out)
        have K6 := Lib.hid k6.cts
        have N6 := Lib.hid n6
        have ml6 := atL_len L s'
        have q6 : l6.length ≤ 60 := by omega
        clear f6 k6 n6 c6 ml6 m6 KL
        go_wp2_with fail
        go_loopw [21, 107] (fun v x wr => EarR w6 l6 B v x wr) (fun _ x _ => B.length - (intOf x).toNat)
        case atStart => exact ⟨0, rfl, Nat.zero_le _, Fr.refl _ _, by simpa using HO6.out⟩
        case round =>
          obtain ⟨k, rfl, hk, hf, ho⟩ := hrel
          obtain ⟨ve, vf, rfl⟩ := ho.shape
          have HO := Lib.hid ho
          have HF := Lib.hid hf
          by_cases hlt : k < B.length
          · as_aux_lemma =>
            obtain ⟨b, off, e1, x0, xt, xn⟩ := (KB.out.fr hf).cell hlt
            subst e1
            have hts : B.take (k + 1) = B.take k ++ [upd.nth B k] := by rw [List.take_add_one, upd.nth_at hlt]; rfl
            have HTs := Lib.hid hts
            clear hf ho hts
            go_upto_region 23 with fail
            have fa : Fr [] wr (wr.alloc (.cells #[.slice (upd.nth B k).ra (upd.nth B k).rl (upd.nth B k).rc, .int .i64 (upd.nth B k).t, .int .i64 (upd.nth B k).n] 41)) := (Fr.refl [] wr).alloc _
            have hb1 := heap_alloc_new wr (.cells #[.slice (upd.nth B k).ra (upd.nth B k).rl (upd.nth B k).rc, .int .i64 (upd.nth B k).t, .int .i64 (upd.nth B k).n] 41)
            have HOA := Lib.hid (HO.out.fr fa)
            have HFA := Lib.hid (HF.out.trans fa)
            have hsz := (HF.out.trans fa).size
            clear fa HO HF x0 xt xn
            generalize wr.heap.size = bx at *
            generalize wr.alloc (.cells #[.slice (upd.nth B k).ra (upd.nth B k).rl (upd.nth B k).rc, .int .i64 (upd.nth B k).t, .int .i64 (upd.nth B k).n] 41) = wa at *
            have z0 := cell_blk hb1 0 (.slice (upd.nth B k).ra (upd.nth B k).rl (upd.nth B k).rc) rfl
            have z2 := cell_blk hb1 2 (.int .i64 (upd.nth B k).n) rfl
            clear hb1
            have hsrc : Src (wa.alloc (.cells #[.slice (upd.nth B k).ra (upd.nth B k).rl (upd.nth B k).rc, .int .i64 (upd.nth B k).n] 31)) 2 (.slice (some ⟨wa.heap.size, 0, none⟩) 1 1) 1 [.slice (upd.nth B k).ra (upd.nth B k).rl (upd.nth B k).rc, .int .i64 (upd.nth B k).n] := Src.block (heap_alloc_new wa _) rfl (by intro u hu; simp at hu; rcases hu with rfl | rfl <;> rfl)
            have HSrc := Lib.hid hsrc
            clear hsrc
            go_wp2_with (at_builtin; refine wpList_append_or _ rfl (.tmp 111) (.tmp 117) 22 rfl w6.heap.size 31 i0 _ 2 32 Try.underlying22 hi hz0 hz1 hz2 rfl (by decide) (.slice ve (l6.length + k) vf) (l6.length + k) _ rfl (HOA.out.fr ((Fr.refl [] wa).alloc _)) ⟨wa.heap.size, 0, none⟩ 1 1 [.slice (upd.nth B k).ra (upd.nth B k).rl (upd.nth B k).rc, .int .i64 (upd.nth B k).n] rfl HSrc.out (by omega) (by unfold maxLen; omega) (by omega) (by simp; omega) ?_; intro v' w7 hown hgr)
            have HOwn := Lib.hid hown
            have HGr := Lib.hid hgr
            clear hown hgr
            go_roundw
            case rel => exact ⟨k + 1, by go_num, by omega, by
              obtain ⟨row, hg, hr⟩ := HGr.out
              exact (HFA.out.alloc _).fresh hg (fun r e => Or.inl (hr r e)), Or.inl (by
              rw [HTs.out, List.map_append, ← List.append_assoc, elsC_append]
              simpa [elsC, El.cells, toC, Nat.add_assoc] using HOwn.out)⟩
            case measure => simp [intOf] <;> omega
          · as_aux_lemma =>
            obtain rfl : k = B.length := by omega
            rw [List.take_length] at ho
            replace T := Lib.hid (T.out.trans hf)
            replace KB := Lib.hid (KB.out.fr hf)
            replace K1 := Lib.hid (K1.out.fr hf)
            replace K2 := Lib.hid (K2.out.fr hf)
            replace K3 := Lib.hid (K3.out.fr hf)
            replace K4 := Lib.hid (K4.out.fr hf)
            replace K5 := Lib.hid (K5.out.fr hf)
            replace K6 := Lib.hid (K6.out.fr hf)
            have hrw : ∀ e ∈ l6 ++ B.map toC, RowAt wr e.rv e.rd ∧ ElOk e := fun e he => by
              rcases List.mem_append.1 he with he | he
              · exact K6.out.row e he
              · obtain ⟨e0, h0, rfl⟩ := List.mem_map.1 he
                have h1 := KB.out.row e0 h0
                exact ⟨h1.1, ⟨h1.2.len, h1.2.n⟩⟩
            have hel : (l6 ++ B.map toC).length = l6.length + B.length := by simp
            have KE := Lib.hid (OwnOr.cts (l := l6 ++ B.map toC) hel ho hrw)
            have SE := Lib.hid (fun r => show sumK ((l6 ++ B.map toC).map pr) r = sumK ((atL L t').map pr) r by rw [at_btw L hst, HB.out, List.map_append, sumK_append, List.map_append, sumK_append, N6.out.sum]; omega)
            have HEl := Lib.hid hel.symm
            have q7 : (l6 ++ B.map toC).length ≤ 1000 := by omega
            have hl1b := m1
            clear ho hf HO HF hrw hel hlt hk K6 KB HO6
            go_upto_region 26 with (go_at_call 16; refine (tidyFitN KE.out HEl.out q7 (fun r => by rw [SE.out]; have := AT.out r; exact fit_of (by omega) (by omega))).mono ?_; rintro e w7 ⟨l7, x7, y7, rfl, f7, k7, n7, m7, c7⟩)
            replace T := Lib.hid (T.out.trans f7)
            replace K1 := Lib.hid (K1.out.fr f7)
            replace K2 := Lib.hid (K2.out.fr f7)
            replace K3 := Lib.hid (K3.out.fr f7)
            replace K4 := Lib.hid (K4.out.fr f7)
            replace K5 := Lib.hid (K5.out.fr f7)
            have K7 := Lib.hid k7.cts
            have N7 := Lib.hid n7
            rw [HEl.out.symm] at m7
            clear f7 k7 n7 c7 KE q7
            go_upto_region 27 with (go_at_call 23; refine (settleFit K1.out rfl (by omega) (fun q => by rw [N1.out.sum]; have := SL.out q; exact fit_of (by omega) (by omega))).mono ?_; rintro e w8 ⟨l8, x8, y8, rfl, f8, k8, n8, m8⟩)
            replace T := Lib.hid (T.out.trans f8)
            replace K1 := Lib.hid (K1.out.fr f8)
            replace K2 := Lib.hid (K2.out.fr f8)
            replace K3 := Lib.hid (K3.out.fr f8)
            replace K4 := Lib.hid (K4.out.fr f8)
            replace K5 := Lib.hid (K5.out.fr f8)
            replace K7 := Lib.hid (K7.out.fr f8)
            have K8 := Lib.hid k8.cts
            have N8 := Lib.hid n8
            clear f8 k8 n8
            have n7b := N7.out
            rw [← HB.out] at n7b
            have PL := Lib.hid (times_plain hst N1.out N2.out N3.out N4.out N5.out N6.out n7b N8.out)
            have LT := Lib.hid (later_times N2.out)
            clear n7b N1 N2 N3 N4 N5 N6 N7 N8 SL AS AT LL AT1 AT2 SE HB NL
            iterate 26 (first | go_values | go_skip | go_guarded | go_step | go_upon)
            refine wp_errno8 rfl rfl rfl rfl rfl rfl rfl rfl rfl ?_
            go_wp2_with fail
            have hb9 := heap_alloc_new w8 (.cells #[.int .i64 0, .int .i64 0, .int .i64 0, .int .i64 0, .int .i64 0, .int .i64 0, .int .i64 0, .int .i64 0] 24)
            have st9 : Fr [] w8 (w8.alloc (.cells #[.int .i64 0, .int .i64 0, .int .i64 0, .int .i64 0, .int .i64 0, .int .i64 0, .int .i64 0, .int .i64 0] 24)) := (Fr.refl [] w8).alloc _
            replace T := Lib.hid (T.out.trans st9)
            replace K1 := Lib.hid (K1.out.fr st9)
            replace K2 := Lib.hid (K2.out.fr st9)
            replace K3 := Lib.hid (K3.out.fr st9)
            replace K4 := Lib.hid (K4.out.fr st9)
            replace K5 := Lib.hid (K5.out.fr st9)
            replace K7 := Lib.hid (K7.out.fr st9)
            replace K8 := Lib.hid (K8.out.fr st9)
            have HB9 := Lib.hid hb9
            clear hb9 st9
            generalize w8.heap.size = b9 at *
            generalize w8.alloc (.cells #[.int .i64 0, .int .i64 0, .int .i64 0, .int .i64 0, .int .i64 0, .int .i64 0, .int .i64 0, .int .i64 0] 24) = w9 at *
            go_loop [140] (fun x => ∃ k : Nat, x = .int .i64 k ∧ k ≤ 8) (fun x => 8 - (intOf x).toNat)
            case atStart => exact ⟨0, rfl, Nat.zero_le _⟩
            case round =>
              obtain ⟨k, rfl, hk⟩ := hrel
              by_cases hlt : k < 8
              · have c0 := cell_blk HB9.out k _ (zero8 hlt)
                go_wp2_with fail
                go_round
                case rel => exact ⟨k + 1, by go_num, by omega⟩
                case measure => simp [intOf] <;> omega
              · go_wp2_with fail
                go_loopw [149] (fun x wr => ∃ k : Nat, x = .int .i64 k ∧ k ≤ l2.length ∧ Fr [] w9 wr) (fun x _ => l2.length - (intOf x).toNat)
                case atStart => exact ⟨0, rfl, Nat.zero_le _, Fr.refl _ _⟩
                case round =>
                  obtain ⟨k, rfl, hk, hf⟩ := hrel
                  have HF := Lib.hid hf
                  by_cases hlt : k < l2.length
                  · as_aux_lemma =>
                    obtain ⟨b, off, e1, z0, z1, z2⟩ := (K2.out.fr hf).cell hlt
                    obtain ⟨hlo, hup⟩ := LT.out k hlt
                    subst e1
                    obtain rfl | ⟨j, rfl⟩ : k = 0 ∨ ∃ j, k = j + 1 := by cases k with | zero => exact Or.inl rfl | succ j => exact Or.inr ⟨j, rfl⟩
                    · clear hf hup
                      simp only [Nat.zero_mul, Nat.add_zero] at z0 z1 z2
                      have hlo2 : ¬ (upd.nth l2 0).t < s' := by omega
                      go_upto_region 36 with fail
                      have fv : Fr [] wr (wr.alloc (.cells #[.slice (upd.nth l2 0).ra (upd.nth l2 0).rl (upd.nth l2 0).rc, .int .i64 (upd.nth l2 0).t, .int .i64 (upd.nth l2 0).n] 41)) := (Fr.refl [] wr).alloc _
                      have hbv := heap_alloc_new wr (.cells #[.slice (upd.nth l2 0).ra (upd.nth l2 0).rl (upd.nth l2 0).rc, .int .i64 (upd.nth l2 0).t, .int .i64 (upd.nth l2 0).n] 41)
                      have HFv := Lib.hid (HF.out.trans fv)
                      clear fv z0 z1 z2
                      generalize wr.heap.size = bv at *
                      generalize wr.alloc (.cells #[.slice (upd.nth l2 0).ra (upd.nth l2 0).rl (upd.nth l2 0).rc, .int .i64 (upd.nth l2 0).t, .int .i64 (upd.nth l2 0).n] 41) = wv at *
                      have q1 : ∀ p : FrBy wv, p.wn.cell? ⟨bv, 1, none⟩ = some (.int .i64 (upd.nth l2 0).t) := fun p => p.fr.cell (cell_blk hbv 1 _ rfl) (by simp)
                      clear hbv
                      refine wp_region_fr (by kernel_rfl) (by kernel_rfl) ?_
                      repeat (go_big_quiet_step (fail))
                      refine wpQuiet_nil ?_
                      intro wn hwn
                      have fn : Fr [] wv wn := by obtain ⟨p, rfl⟩ := hwn; exact p.fr
                      have FN := Lib.hid fn
                      clear hwn q1 fn
                      go_wp2_with fail
                      go_roundw
                      case rel => exact ⟨1, by rfl, by omega, HFv.out.trans FN.out⟩
                      case measure => simp [intOf] <;> omega
                    · obtain ⟨b2, off2, e2, z3, z4, z5⟩ := (K2.out.fr hf).cell (show j < l2.length by omega)
                      simp only [Option.some.injEq, Addr.mk.injEq, and_true] at e2
                      obtain ⟨rfl, rfl⟩ := e2
                      have hup2 : ¬ (upd.nth l2 (j + 1)).t < (upd.nth l2 j).t := by have := hup (by omega); simp at this; omega
                      have hlo2 : ¬ (upd.nth l2 (j + 1)).t < s' := by omega
                      have j1 : IntKind.i64.wrap (j : Int) = (j : Int) := by rw [IntKind.wrap_i64]; omega
                      have j2 : (0 : Int) < (j : Int) + 1 := by omega
                      have j3 : (j : Int) < (l2.length : Int) := by omega
                      clear hf hup
                      go_upto_region 36 with fail
                      have fv : Fr [] wr (wr.alloc (.cells #[.slice (upd.nth l2 (j + 1)).ra (upd.nth l2 (j + 1)).rl (upd.nth l2 (j + 1)).rc, .int .i64 (upd.nth l2 (j + 1)).t, .int .i64 (upd.nth l2 (j + 1)).n] 41)) := (Fr.refl [] wr).alloc _
                      have hbv := heap_alloc_new wr (.cells #[.slice (upd.nth l2 (j + 1)).ra (upd.nth l2 (j + 1)).rl (upd.nth l2 (j + 1)).rc, .int .i64 (upd.nth l2 (j + 1)).t, .int .i64 (upd.nth l2 (j + 1)).n] 41)
                      have HFv := Lib.hid (HF.out.trans fv)
                      have a2 := fv.cell z4 (by simp)
                      clear fv z0 z1 z2 z3 z4 z5
                      generalize wr.heap.size = bv at *
                      generalize wr.alloc (.cells #[.slice (upd.nth l2 (j + 1)).ra (upd.nth l2 (j + 1)).rl (upd.nth l2 (j + 1)).rc, .int .i64 (upd.nth l2 (j + 1)).t, .int .i64 (upd.nth l2 (j + 1)).n] 41) = wv at *
                      have q1 : ∀ p : FrBy wv, p.wn.cell? ⟨bv, 1, none⟩ = some (.int .i64 (upd.nth l2 (j + 1)).t) := fun p => p.fr.cell (cell_blk hbv 1 _ rfl) (by simp)
                      have q2 : ∀ p : FrBy wv, p.wn.cell? ⟨b, off + j * 3 + 1, none⟩ = some (.int .i64 (upd.nth l2 j).t) := fun p => p.fr.cell a2 (by simp)
                      clear hbv a2
                      refine wp_region_fr (by kernel_rfl) (by kernel_rfl) ?_
                      repeat (go_big_quiet_step (fail))
                      refine wpQuiet_nil ?_
                      intro wn hwn
                      have fn : Fr [] wv wn := by obtain ⟨p, rfl⟩ := hwn; exact p.fr
                      have FN := Lib.hid fn
                      clear hwn q1 q2 fn
                      go_wp2_with fail
                      go_roundw
                      case rel => exact ⟨j + 1 + 1, by go_num, by omega, HFv.out.trans FN.out⟩
                      case measure => simp [intOf] <;> omega
                  · as_aux_lemma =>
                    obtain ⟨p1, p2, p3, p4⟩ := PL.out
                    have L1 := Lib.hid (fun wi (fi : Fr [] w9 wi) => like_true (K3.out.fr fi) (K4.out.fr fi) p1 (by omega))
                    have L2 := Lib.hid (fun wi (fi : Fr [] w9 wi) => like_true (K3.out.fr fi) (K5.out.fr fi) p2 (by omega))
                    have L3 := Lib.hid (fun wi (fi : Fr [] w9 wi) => like_true (K3.out.fr fi) (K7.out.fr fi) p3 (by omega))
                    have L4 := Lib.hid (fun wi (fi : Fr [] w9 wi) => likeU_true (K8.out.fr fi) (K1.out.fr fi) p4 (by omega))
                    have hle : (l1.length : Int) ≤ (sx.length : Int) := by have := HLl.out; omega
                    have tok1 : True := trivial
                    have tok2 : True := trivial
                    have hF1 := hf
                    clear p1 p2 p3 p4 hf
                    go_wp2_with (first
                      | (go_at_call 17; have _t := tok1; clear _t tok1; refine (L1.out _ hF1).mono ?_; rintro e wa ⟨rfl, fa⟩; replace hF1 := hF1.trans fa)
                      | (go_at_call 17; have _t := tok2; clear _t tok2; refine (L2.out _ hF1).mono ?_; rintro e wb ⟨rfl, fb⟩; replace hF1 := hF1.trans fb)
                      | (go_at_call 17; refine (L3.out _ hF1).mono ?_; rintro e wc ⟨rfl, fc⟩; replace hF1 := hF1.trans fc)
                      | (go_at_call 25; refine (L4.out _ hF1).mono ?_; rintro e wd ⟨rfl, fd⟩; replace hF1 := hF1.trans fd))
                    go_ret
                    exact ⟨rfl, T.out.trans hF1⟩
end Go.Proofs.Ytmionipeoffnhaa
