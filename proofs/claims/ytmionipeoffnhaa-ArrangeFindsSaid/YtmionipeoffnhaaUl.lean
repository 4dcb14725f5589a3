/- zset.Later: updates brought later, and added up. No condition but the sizes. -/
import Derived.Test.YtmionipeoffnhaaUa
namespace Go.Proofs.Ytmionipeoffnhaa
open Go.RowKit srt grp

theorem upd.own_cts {w : World} {base : Nat} {v : Value} {l : List upd.El} (h : w.ownsRow base 41 3 v l.length (upd.elsC l)) (hr : ∀ e ∈ l, RowAt w e.rv e.rd ∧ upd.ElOk e) : upd.Cts w v l := ⟨Src.row h (upd.elsC_one l), hr⟩
theorem lts_zero (f : Nat → upd.El) (t : Int) : lts f t 0 = f := by funext k; unfold lts; rw [if_neg (by omega)]
theorem lts_all (l : List upd.El) (t : Int) {n : Nat} (h : n = l.length) : (List.range n).map (lts (upd.nth l) t n) = l.map (lt1 t) := by
  subst h
  conv => rhs; rw [← upd.range_nth l, List.map_map]
  refine List.map_congr_left fun q hq => ?_
  have := List.mem_range.1 hq
  unfold lts; rw [if_pos this]; rfl

/-- A sorted block read as a list. -/
theorem upd.Srt.cts {g N c : Nat} {w : World} {f : Nat → upd.El} {l : List upd.El} (h : upd.Srt g N w f) (hl : (List.range N).map f = l) (hr : ∀ e ∈ l, RowAt w e.rv e.rd ∧ upd.ElOk e) : upd.Cts w (.slice (some ⟨g, 0, none⟩) l.length c) l := by
  refine ⟨⟨upd.elsC_len _, upd.elsC_one _, Or.inr ⟨⟨g, 0, none⟩, c, rfl, fun j u hj => ?_⟩⟩, hr⟩
  have hadd : (⟨g, 0, none⟩ : Addr).add j = ⟨g, j, none⟩ := by unfold Addr.add; split <;> simp_all
  rw [hadd]
  obtain ⟨i, d, hi, hu⟩ := upd.elsC_of _ j u hj
  obtain ⟨cur, hb, hc⟩ := h
  have hlt := (List.getElem?_eq_some_iff.1 hi).1
  have hln : l.length = N := by rw [← hl]; simp
  have hfi : f i = d := by
    rw [← hl] at hi
    simpa [show i < N by omega] using hi
  obtain ⟨x0, x1, x2⟩ := hc i (by omega)
  rw [hfi] at x0 x1 x2
  rcases hu with ⟨rfl, rfl⟩ | ⟨rfl, rfl⟩ | ⟨rfl, rfl⟩
  · exact cell_blk hb _ _ x0
  · exact cell_blk hb _ _ x1
  · exact cell_blk hb _ _ x2

set_option maxRecDepth 100000
set_option maxHeartbeats 3200000 in
theorem later_any {w : World} {aa : Option Addr} {ac : Nat} {l : List upd.El} {t : Int} (h : upd.Cts w (.slice aa l.length ac) l) (hn : l.length ≤ 3518437208881) (ht : -9223372036854775808 ≤ t ∧ t ≤ 9223372036854775807) :
    Calls Try.prog 29 #[.slice aa l.length ac, .int .i64 t] w (upd.TidyPost w (l.map (lt1 t)) 1) := by
  have HC := Lib.hid h
  have hcl := upd.cloneC_any h.src (by omega)
  clear h
  go_enter Try.func29, Try.ntmps29
  go_upto_region 2 with (go_at_call 59; refine hcl.mono ?_; rintro e w1 ⟨⟨a1, c1, rfl, ho1⟩, f1⟩)
  rcases upd.Srt.own ho1 with ⟨rfl, rfl, rfl⟩ | ⟨g, rfl, hgb, hlc, hsr⟩
  · have F1 := Lib.hid f1
    have hse := upd.settle_any (w := w1) (aa := none) (ac := 0) (l := []) ⟨⟨rfl, by simp [upd.elsC], Or.inl ⟨rfl, rfl⟩⟩, by simp⟩ (by simp)
    have hsz := f1.size
    clear hcl ho1 f1
    go_wp2_with fail
    refine wp_loop_rounds 1 ?_
    rw [rounds_succ]
    go_wp2_with (go_at_call 23; refine hse.mono ?_; rintro e w2 ⟨f2, ⟨h1, outs, a, c, rfl, h2, h3, h4⟩ | ⟨h1, rfl⟩⟩)
    · go_ret2
      exact ⟨F1.out.trans f2, Or.inl ⟨h1, outs, a, c, rfl, h2.base hsz, h3, h4⟩⟩
    · go_ret2
      exact ⟨F1.out.trans f2, Or.inr ⟨h1, rfl⟩⟩
  · have F1 := Lib.hid f1
    have HS := Lib.hid hsr
    have hsz := f1.size
    clear hcl ho1 f1 hsr
    go_wp2_with fail
    go_loopw [12] (fun x wr => ∃ k : Nat, x = .int .i64 k ∧ k ≤ l.length ∧ upd.Srt g l.length wr (lts (upd.nth l) t k) ∧ Fr [g] w1 wr) (fun x _ => l.length - (intOf x).toNat)
    case atStart => exact ⟨0, rfl, Nat.zero_le _, by rw [lts_zero]; exact HS.out, Fr.refl _ _⟩
    case round =>
      obtain ⟨k, rfl, hk, hs, hf⟩ := hrel
      have HS2 := Lib.hid hs
      have HF2 := Lib.hid hf
      by_cases hlt : k < l.length
      · obtain ⟨cur, hb, hc⟩ := hs
        obtain ⟨x0, x1, x2⟩ := hc k hlt
        have e1 : lts (upd.nth l) t k k = upd.nth l k := by unfold lts; rw [if_neg (by omega)]
        rw [e1] at x0 x1 x2
        have y1 := cell_blk hb _ _ x1
        have y2 : wr.frozen? ⟨g, k * 3 + 1, none⟩ = false := by simp [World.frozen?, hb]
        have hmx : -9223372036854775808 ≤ max (upd.nth l k).t t ∧ max (upd.nth l k).t t ≤ 9223372036854775807 := by have := (HC.out.row _ (upd.nth_mem hlt)).2.t; omega
        clear hf hc x0 x1 x2 e1
        go_wp2_with fail
        go_roundw
        case rel => exact ⟨k + 1, by go_num, by omega, HS2.out.later hlt, HF2.out.setCell (by simp) _⟩
        case measure => simp [intOf] <;> omega
      · have hkn := Lib.hid (show k = l.length by omega)
        clear hs hf
        have hcts : upd.Cts wr (.slice (some ⟨g, 0, none⟩) (l.map (lt1 t)).length c1) (l.map (lt1 t)) := by
          refine HS2.out.cts (lts_all l t hkn.out ▸ by rw [hkn.out]) fun e he => ?_
          obtain ⟨e0, h0, rfl⟩ := List.mem_map.1 he
          have h1 := HC.out.row e0 h0
          exact ⟨h1.1.fr (F1.out.past HF2.out (by simpa using hgb)), ⟨h1.2.len, by have := h1.2.t; simp only [lt1]; omega, h1.2.n⟩⟩
        rw [List.length_map] at hcts
        have hse := upd.settle_any (aa := some ⟨g, 0, none⟩) (ac := c1) (l := l.map (lt1 t)) (by rw [List.length_map]; exact hcts) (by rw [List.length_map]; exact hn)
        rw [List.length_map] at hse
        have hsz2 := HF2.out.size
        clear hcts
        go_wp2_with (go_at_call 23; refine hse.mono ?_; rintro e w2 ⟨f2, ⟨h1, outs, a, c, rfl, h2, h3, h4⟩ | ⟨h1, rfl⟩⟩)
        · go_ret2
          exact ⟨(F1.out.past HF2.out (by simpa using hgb)).trans f2, Or.inl ⟨h1, outs, a, c, rfl, h2.base (by omega), h3, h4⟩⟩
        · go_ret2
          exact ⟨(F1.out.past HF2.out (by simpa using hgb)).trans f2, Or.inr ⟨h1, rfl⟩⟩
end Go.Proofs.Ytmionipeoffnhaa
