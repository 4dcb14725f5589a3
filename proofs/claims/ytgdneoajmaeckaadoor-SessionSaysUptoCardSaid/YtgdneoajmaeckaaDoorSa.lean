/- SessionSays: the walk. Conditions: the sizes; the listed tables lie as their text lays them. (Printed by gensa.py.) -/
import Derived.Test.YtgdneoajmaeckaaDoorRt2
import Derived.Test.YtgdneoajmaeckaaDoorArg
namespace Go.Proofs.YtgdneoajmaeckaaDoor
open Go.RowKit

theorem CtsAt.take {w : World} {ra : Option Addr} {rc : Nat} {cts : List Ct} (h : CtsAt w (.slice ra cts.length rc) cts) {k : Nat} (hk : k ≤ cts.length) : CtsAt w (.slice ra k rc) (cts.take k) := by
  obtain ⟨a, c, h1, h2, h3, h4⟩ := h
  simp only [Value.slice.injEq] at h1
  obtain ⟨rfl, -, rfl⟩ := h1
  have hl : (cts.take k).length = k := by rw [List.length_take]; omega
  refine ⟨ra, rc, by rw [hl], h2, by rw [hl]; omega, fun j x hj => h4 j x ?_⟩
  have hjk : j < k := by
    have := (List.getElem?_eq_some_iff.1 hj).1
    omega
  rwa [List.getElem?_take_of_lt hjk] at hj
theorem CtsAt.cap {w : World} {ra : Option Addr} {n rc : Nat} {cts : List Ct} (h : CtsAt w (.slice ra n rc) cts) : cts.length ≤ rc := by
  obtain ⟨a, c, h1, h2, h3, h4⟩ := h
  simp only [Value.slice.injEq] at h1
  obtain ⟨rfl, -, rfl⟩ := h1
  exact h3

set_option maxRecDepth 100000
set_option maxHeartbeats 3200000 in
theorem says_any {w : World} (x : Rp) (hx : x.Ok w) (y : Nt) (hy : y.Ok w) (hT : Tabs w) :
    Calls Tryd.prog 4 #[x.val, y.val] w fun e w' => e = .returned (.bool true) ∧ Fr [] w w' := by
  obtain ⟨ra, rc, hrv, -⟩ := hx.rows.shape
  obtain ⟨la, ln, lc, hcv⟩ := hx.cols
  obtain ⟨tk, kind, code, place, time, n, name, cols, rows, cts⟩ := x
  simp only at hrv hcv
  subst hrv
  subst hcv
  have hrc0 := hx.rows.cap
  simp only at hrc0
  have H2 : ∀ wn, Fr [] w wn → Calls Tryd.prog 13 #[y.val] wn fun e w' => e = .returned (.string ⟨(tellB y).toArray⟩) ∧ Fr [] wn w' := fun wn f => tell_any y (hy.fr f) (hT.fr f)
  have H3 : ∀ wn, Fr [] w wn → Calls Tryd.prog 14 #[y.val] wn fun e w' => e = .returned (.string ⟨(tellB y).toArray⟩) ∧ Fr [] wn w' := fun wn f => rtell_any y (hy.fr f) (hT.p.fr f)
  have H4 : ∀ (u : Rp) wn, Rp.Ok w u → u.cts.length ≤ 60 → Fr [] w wn → Calls Tryd.prog 11 #[u.val] wn fun e w' => e = .returned (.string ⟨(sayB u).toArray⟩) ∧ Fr [] wn w' := fun u wn h1 h2 f => say_any u (h1.fr f) (hT.fr f) h2
  have H5 : ∀ (u : Rp) wn, Rp.Ok w u → u.cts.length ≤ 60 → Fr [] w wn → Calls Tryd.prog 12 #[u.val] wn fun e w' => e = .returned (.string ⟨(sayB u).toArray⟩) ∧ Fr [] wn w' := fun u wn h1 h2 f => rsay_any u (h1.fr f) (hT.p.fr f) h2
  clear hT hy
  generalize tellB y = T at *
  obtain ⟨k2, t2, n2, row2, ds2, e2⟩ := y
  simp only [Nt.val] at H2 H3
  show Calls Tryd.prog _ #[.agg #[.int .i64 tk, .int .i64 kind, .int .i64 code, .int .i64 place, .int .i64 time, .int .i64 n, .string ⟨name.toArray⟩, .slice la ln lc, .slice ra cts.length rc], .agg #[.int .i64 k2, .int .i64 t2, .int .i64 n2, row2, .int .i64 e2]] w _
  have H2 := Lib.hid H2
  have H3 := Lib.hid H3
  by_cases h60 : 60 < cts.length
  · have hrc : (60 : Int) ≤ (rc : Int) := by omega
    have hok : Rp.Ok w ⟨tk, kind, code, place, time, n, name, .slice la ln lc, .slice ra 60 rc, cts.take 60⟩ := ⟨hx.tk, hx.kind, hx.code, hx.place, hx.time, hx.n, hx.name, ⟨_, _, _, rfl⟩, hx.rows.take (by omega)⟩
    have hl : (cts.take 60).length ≤ 60 := by rw [List.length_take]; omega
    have H4 := Lib.hid (fun wn f => H4 _ wn hok hl f)
    have H5 := Lib.hid (fun wn f => H5 _ wn hok hl f)
    simp only [Rp.val] at H4 H5
    clear hx hok hl
    generalize sayB _ = S at *
    go_enter Tryd.func4, Tryd.ntmps4
    go_upto_region 1 with fail
    go_upto_region 3 with fail
    have hblk := heap_alloc_new w (.cells #[.int .i64 tk, .int .i64 kind, .int .i64 code, .int .i64 place, .int .i64 time, .int .i64 n, .string ⟨name.toArray⟩, .slice la ln lc, .slice ra 60 rc] 36)
    have F1 := (Fr.refl [] w).alloc (.cells #[.int .i64 tk, .int .i64 kind, .int .i64 code, .int .i64 place, .int .i64 time, .int .i64 n, .string ⟨name.toArray⟩, .slice la ln lc, .slice ra 60 rc] 36)
    have hsz : (w.alloc (.cells #[.int .i64 tk, .int .i64 kind, .int .i64 code, .int .i64 place, .int .i64 time, .int .i64 n, .string ⟨name.toArray⟩, .slice la ln lc, .slice ra 60 rc] 36)).heap.size = w.heap.size + 1 := Array.size_push _
    generalize w.alloc (.cells #[.int .i64 tk, .int .i64 kind, .int .i64 code, .int .i64 place, .int .i64 time, .int .i64 n, .string ⟨name.toArray⟩, .slice la ln lc, .slice ra 60 rc] 36) = w1 at *
    obtain ⟨c0, c1, c2, c3, c4, c5, c6, c7, c8⟩ := blk9 hblk
    have hblk2 := heap_alloc_new w1 (.cells #[.int .i64 k2, .int .i64 t2, .int .i64 n2, row2, .int .i64 e2] 40)
    have F2 := (Fr.refl [] w1).alloc (.cells #[.int .i64 k2, .int .i64 t2, .int .i64 n2, row2, .int .i64 e2] 40)
    generalize w1.alloc (.cells #[.int .i64 k2, .int .i64 t2, .int .i64 n2, row2, .int .i64 e2] 40) = w2 at *
    rw [hsz] at hblk2
    obtain ⟨d0, d1, d2, d3, d4, -⟩ := blk5 hblk2
    have u0 : ∀ p : FrBy w2, p.wn.cell? ⟨w.heap.size, 0, none⟩ = some (.int .i64 tk) := fun p => (F2.trans p.fr).cell c0 (by simp)
    have u1 : ∀ p : FrBy w2, p.wn.cell? ⟨w.heap.size, 1, none⟩ = some (.int .i64 kind) := fun p => (F2.trans p.fr).cell c1 (by simp)
    have u2 : ∀ p : FrBy w2, p.wn.cell? ⟨w.heap.size, 2, none⟩ = some (.int .i64 code) := fun p => (F2.trans p.fr).cell c2 (by simp)
    have u3 : ∀ p : FrBy w2, p.wn.cell? ⟨w.heap.size, 3, none⟩ = some (.int .i64 place) := fun p => (F2.trans p.fr).cell c3 (by simp)
    have u4 : ∀ p : FrBy w2, p.wn.cell? ⟨w.heap.size, 4, none⟩ = some (.int .i64 time) := fun p => (F2.trans p.fr).cell c4 (by simp)
    have u5 : ∀ p : FrBy w2, p.wn.cell? ⟨w.heap.size, 5, none⟩ = some (.int .i64 n) := fun p => (F2.trans p.fr).cell c5 (by simp)
    have u6 : ∀ p : FrBy w2, p.wn.cell? ⟨w.heap.size, 6, none⟩ = some (.string ⟨name.toArray⟩) := fun p => (F2.trans p.fr).cell c6 (by simp)
    have u7 : ∀ p : FrBy w2, p.wn.cell? ⟨w.heap.size, 7, none⟩ = some (.slice la ln lc) := fun p => (F2.trans p.fr).cell c7 (by simp)
    have u8 : ∀ p : FrBy w2, p.wn.cell? ⟨w.heap.size, 8, none⟩ = some (.slice ra 60 rc) := fun p => (F2.trans p.fr).cell c8 (by simp)
    have v0 : ∀ p : FrBy w2, p.wn.cell? ⟨w.heap.size + 1, 0, none⟩ = some (.int .i64 k2) := fun p => p.fr.cell d0 (by simp)
    have v1 : ∀ p : FrBy w2, p.wn.cell? ⟨w.heap.size + 1, 1, none⟩ = some (.int .i64 t2) := fun p => p.fr.cell d1 (by simp)
    have v2 : ∀ p : FrBy w2, p.wn.cell? ⟨w.heap.size + 1, 2, none⟩ = some (.int .i64 n2) := fun p => p.fr.cell d2 (by simp)
    have v3 : ∀ p : FrBy w2, p.wn.cell? ⟨w.heap.size + 1, 3, none⟩ = some row2 := fun p => p.fr.cell d3 (by simp)
    have v4 : ∀ p : FrBy w2, p.wn.cell? ⟨w.heap.size + 1, 4, none⟩ = some (.int .i64 e2) := fun p => p.fr.cell d4 (by simp)
    have F := Lib.hid (F1.trans F2)
    clear hblk hblk2 c0 c1 c2 c3 c4 c5 c6 c7 c8 d0 d1 d2 d3 d4 F1 F2
    refine wp_region_fr (by kernel_rfl) (by kernel_rfl) ?_
    repeat (go_big_quiet_step (first
      | (go_at_call 11; exact Calls.fr_of (H4.out _ (F.out.trans (FrBy.fr _))))
      | (go_at_call 12; exact Calls.fr_of (H5.out _ (F.out.trans (FrBy.fr _))))
      | (go_at_call 13; exact Calls.fr_of (H2.out _ (F.out.trans (FrBy.fr _))))
      | (go_at_call 14; exact Calls.fr_of (H3.out _ (F.out.trans (FrBy.fr _))))))
    refine wpQuiet_nil ?_
    intro wn hwn
    have fn : Fr [] w2 wn := by obtain ⟨p, rfl⟩ := hwn; exact p.fr
    go_wp2_with fail
    go_ret
    exact ⟨by simp, F.out.trans fn⟩
  · have hok := hx
    have hl : cts.length ≤ 60 := by omega
    have H4 := Lib.hid (fun wn f => H4 _ wn hok hl f)
    have H5 := Lib.hid (fun wn f => H5 _ wn hok hl f)
    simp only [Rp.val] at H4 H5
    clear hx hok hl
    generalize sayB _ = S at *
    go_enter Tryd.func4, Tryd.ntmps4
    go_upto_region 1 with fail
    go_upto_region 3 with fail
    have hblk := heap_alloc_new w (.cells #[.int .i64 tk, .int .i64 kind, .int .i64 code, .int .i64 place, .int .i64 time, .int .i64 n, .string ⟨name.toArray⟩, .slice la ln lc, .slice ra cts.length rc] 36)
    have F1 := (Fr.refl [] w).alloc (.cells #[.int .i64 tk, .int .i64 kind, .int .i64 code, .int .i64 place, .int .i64 time, .int .i64 n, .string ⟨name.toArray⟩, .slice la ln lc, .slice ra cts.length rc] 36)
    have hsz : (w.alloc (.cells #[.int .i64 tk, .int .i64 kind, .int .i64 code, .int .i64 place, .int .i64 time, .int .i64 n, .string ⟨name.toArray⟩, .slice la ln lc, .slice ra cts.length rc] 36)).heap.size = w.heap.size + 1 := Array.size_push _
    generalize w.alloc (.cells #[.int .i64 tk, .int .i64 kind, .int .i64 code, .int .i64 place, .int .i64 time, .int .i64 n, .string ⟨name.toArray⟩, .slice la ln lc, .slice ra cts.length rc] 36) = w1 at *
    obtain ⟨c0, c1, c2, c3, c4, c5, c6, c7, c8⟩ := blk9 hblk
    have hblk2 := heap_alloc_new w1 (.cells #[.int .i64 k2, .int .i64 t2, .int .i64 n2, row2, .int .i64 e2] 40)
    have F2 := (Fr.refl [] w1).alloc (.cells #[.int .i64 k2, .int .i64 t2, .int .i64 n2, row2, .int .i64 e2] 40)
    generalize w1.alloc (.cells #[.int .i64 k2, .int .i64 t2, .int .i64 n2, row2, .int .i64 e2] 40) = w2 at *
    rw [hsz] at hblk2
    obtain ⟨d0, d1, d2, d3, d4, -⟩ := blk5 hblk2
    have u0 : ∀ p : FrBy w2, p.wn.cell? ⟨w.heap.size, 0, none⟩ = some (.int .i64 tk) := fun p => (F2.trans p.fr).cell c0 (by simp)
    have u1 : ∀ p : FrBy w2, p.wn.cell? ⟨w.heap.size, 1, none⟩ = some (.int .i64 kind) := fun p => (F2.trans p.fr).cell c1 (by simp)
    have u2 : ∀ p : FrBy w2, p.wn.cell? ⟨w.heap.size, 2, none⟩ = some (.int .i64 code) := fun p => (F2.trans p.fr).cell c2 (by simp)
    have u3 : ∀ p : FrBy w2, p.wn.cell? ⟨w.heap.size, 3, none⟩ = some (.int .i64 place) := fun p => (F2.trans p.fr).cell c3 (by simp)
    have u4 : ∀ p : FrBy w2, p.wn.cell? ⟨w.heap.size, 4, none⟩ = some (.int .i64 time) := fun p => (F2.trans p.fr).cell c4 (by simp)
    have u5 : ∀ p : FrBy w2, p.wn.cell? ⟨w.heap.size, 5, none⟩ = some (.int .i64 n) := fun p => (F2.trans p.fr).cell c5 (by simp)
    have u6 : ∀ p : FrBy w2, p.wn.cell? ⟨w.heap.size, 6, none⟩ = some (.string ⟨name.toArray⟩) := fun p => (F2.trans p.fr).cell c6 (by simp)
    have u7 : ∀ p : FrBy w2, p.wn.cell? ⟨w.heap.size, 7, none⟩ = some (.slice la ln lc) := fun p => (F2.trans p.fr).cell c7 (by simp)
    have u8 : ∀ p : FrBy w2, p.wn.cell? ⟨w.heap.size, 8, none⟩ = some (.slice ra cts.length rc) := fun p => (F2.trans p.fr).cell c8 (by simp)
    have v0 : ∀ p : FrBy w2, p.wn.cell? ⟨w.heap.size + 1, 0, none⟩ = some (.int .i64 k2) := fun p => p.fr.cell d0 (by simp)
    have v1 : ∀ p : FrBy w2, p.wn.cell? ⟨w.heap.size + 1, 1, none⟩ = some (.int .i64 t2) := fun p => p.fr.cell d1 (by simp)
    have v2 : ∀ p : FrBy w2, p.wn.cell? ⟨w.heap.size + 1, 2, none⟩ = some (.int .i64 n2) := fun p => p.fr.cell d2 (by simp)
    have v3 : ∀ p : FrBy w2, p.wn.cell? ⟨w.heap.size + 1, 3, none⟩ = some row2 := fun p => p.fr.cell d3 (by simp)
    have v4 : ∀ p : FrBy w2, p.wn.cell? ⟨w.heap.size + 1, 4, none⟩ = some (.int .i64 e2) := fun p => p.fr.cell d4 (by simp)
    have F := Lib.hid (F1.trans F2)
    clear hblk hblk2 c0 c1 c2 c3 c4 c5 c6 c7 c8 d0 d1 d2 d3 d4 F1 F2
    refine wp_region_fr (by kernel_rfl) (by kernel_rfl) ?_
    repeat (go_big_quiet_step (first
      | (go_at_call 11; exact Calls.fr_of (H4.out _ (F.out.trans (FrBy.fr _))))
      | (go_at_call 12; exact Calls.fr_of (H5.out _ (F.out.trans (FrBy.fr _))))
      | (go_at_call 13; exact Calls.fr_of (H2.out _ (F.out.trans (FrBy.fr _))))
      | (go_at_call 14; exact Calls.fr_of (H3.out _ (F.out.trans (FrBy.fr _))))))
    refine wpQuiet_nil ?_
    intro wn hwn
    have fn : Fr [] w2 wn := by obtain ⟨p, rfl⟩ := hwn; exact p.fr
    go_wp2_with fail
    go_ret
    exact ⟨by simp, F.out.trans fn⟩
end Go.Proofs.YtgdneoajmaeckaaDoor
