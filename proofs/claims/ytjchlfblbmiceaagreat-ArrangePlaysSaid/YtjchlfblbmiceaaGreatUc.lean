/- The comparator of updates, and the insertion sort. No condition but that the rows lie as they are told. -/
import Derived.Test.YtjchlfblbmiceaaGreatUm
import Derived.Test.YtjchlfblbmiceaaGreatRc
import Derived.Deep.RegionHeld3
namespace Go.Proofs.YtjchlfblbmiceaaGreat.upd
open Go.RowKit srt

def cmpU (a b : Int × List Dt) : Int := if cmpI a.1 b.1 ≠ 0 then cmpI a.1 b.1 else cmpR a.2 b.2
theorem cmpU_swap (a b : Int × List Dt) : cmpU b a = - cmpU a b := by
  unfold cmpU
  rw [cmpI_swap a.1 b.1, cmpR_swap a.2 b.2]
  by_cases h : cmpI a.1 b.1 = 0
  · rw [if_neg (by simp [h]), if_neg (by simp [h])]
  · rw [if_pos (by omega), if_pos h]
theorem cmpU_eq {a b : Int × List Dt} (h : cmpU a b = 0) : a = b := by
  unfold cmpU at h
  split at h
  · contradiction
  · rename_i h1
    exact Prod.ext (cmpI_eq (by simpa using h1)) (cmpR_eq h)
theorem cmpU_trans {a b c : Int × List Dt} (h : cmpU a b ≤ 0) (k : cmpU b c ≤ 0) : cmpU a c ≤ 0 := by
  unfold cmpU at *
  by_cases h1 : cmpI a.1 b.1 = 0
  · have e1 := cmpI_eq h1
    rw [if_neg (by simp [h1])] at h
    rw [e1]
    split
    · rename_i h2; rw [if_pos h2] at k; exact k
    · rename_i h2; rw [if_neg h2] at k; exact cmpR_trans h k
  · rw [if_pos h1] at h
    by_cases h2 : cmpI b.1 c.1 = 0
    · have e2 := cmpI_eq h2
      rw [← e2, if_pos h1]; exact h
    · rw [if_pos h2] at k
      have := cmpI_trans h k
      split
      · exact this.1
      · rename_i h3
        exact absurd (this.2 (by simpa using h3)).1 h1

set_option maxRecDepth 100000
theorem nan_any (x : Int) (w : World) : Calls Tryz.prog 92 #[.int .i64 x] w fun e w' => e = .returned (.bool false) ∧ w = w' := by
  have hz : (x != x) = false := by simp
  go_enter Tryz.func92, Tryz.ntmps92
  go_wp2
  go_ret
  exact ⟨rfl, rfl⟩
theorem cmp64_any (x y : Int) (w : World) : Calls Tryz.prog 67 #[.int .i64 x, .int .i64 y] w fun e w' => e = .returned (.int .i64 (cmpI x y)) ∧ w = w' := by
  rcases Int.lt_trichotomy x y with h | h | h
  · have HR := Lib.hid (show cmpI x y = -1 by simp [cmpI, h])
    go_enter Tryz.func67, Tryz.ntmps67
    go_wp2_with (go_at_call 92; refine (nan_any _ _).mono ?_; rintro e w' ⟨rfl, rfl⟩)
    go_ret
    exact ⟨ret_int HR.out.symm, rfl⟩
  · subst h
    have HR := Lib.hid (show cmpI x x = 0 by simp [cmpI])
    have h0 : ¬ x < x := by omega
    go_enter Tryz.func67, Tryz.ntmps67
    go_wp2_with (go_at_call 92; refine (nan_any _ _).mono ?_; rintro e w' ⟨rfl, rfl⟩)
    go_ret
    exact ⟨ret_int HR.out.symm, rfl⟩
  · have h1 : ¬ x < y := by omega
    have HR := Lib.hid (show cmpI x y = 1 by simp [cmpI, h, h1])
    go_enter Tryz.func67, Tryz.ntmps67
    go_wp2_with (go_at_call 92; refine (nan_any _ _).mono ?_; rintro e w' ⟨rfl, rfl⟩)
    go_ret
    exact ⟨ret_int HR.out.symm, rfl⟩

def orI (x y : Int) : Int := if x ≠ 0 then x else y
theorem or_any {x y : Int} {w : World} {b : Nat} (h : w.heap[b]? = some (.cells #[.int .i64 x, .int .i64 y] 3)) : Calls Tryz.prog 66 #[.slice (some ⟨b, 0, none⟩) 2 2] w fun e w' => e = .returned (.int .i64 (orI x y)) ∧ w = w' := by
  have x0 := cell_blk h 0 _ rfl
  have x1 := cell_blk h 1 _ rfl
  clear h
  by_cases hx : x = 0
  · have hb : (x != 0) = false := by simp [hx]
    have HX := Lib.hid hx
    by_cases hy : y = 0
    · have hb2 : (y != 0) = false := by simp [hy]
      have HY := Lib.hid hy
      clear hx hy
      go_enter Tryz.func66, Tryz.ntmps66
      go_wp2_with fail
      refine wp_loop_rounds 3 ?_
      rw [rounds_succ]
      go_wp2_with fail
      rw [rounds_succ]
      go_wp2_with fail
      rw [rounds_succ]
      go_wp2_with fail
      go_ret
      exact ⟨ret_int (by unfold orI; rw [if_neg (by simp [HX.out])]; exact HY.out.symm), rfl⟩
    · have hb2 : (y != 0) = true := by simp [hy]
      clear hx hy
      go_enter Tryz.func66, Tryz.ntmps66
      go_wp2_with fail
      refine wp_loop_rounds 2 ?_
      rw [rounds_succ]
      go_wp2_with fail
      rw [rounds_succ]
      go_wp2_with fail
      go_ret
      exact ⟨ret_int (by unfold orI; rw [if_neg (by simp [HX.out])]), rfl⟩
  · have hb : (x != 0) = true := by simp [hx]
    have HX := Lib.hid hx
    clear hx
    go_enter Tryz.func66, Tryz.ntmps66
    go_wp2_with fail
    refine wp_loop_rounds 1 ?_
    rw [rounds_succ]
    go_wp2_with fail
    go_ret
    exact ⟨ret_int (by unfold orI; rw [if_pos HX.out]), rfl⟩

/-- A row that lies as it is told, whatever happens to block g. -/
def RowOk (g : Nat) (w : World) (e : El) : Prop := e.rd.length ≤ 140737488351232 ∧ ∀ wi, Fr [g] w wi → RowAt wi e.rv e.rd
def key (e : El) : Int × List Dt := (e.t, e.rd)
def ec (e e' : El) : Int := cmpU (key e) (key e')
theorem ecGood : srt.Good ec := srt.Good.mk (fun a b => cmpU_swap (key a) (key b)) (fun _ _ _ h k => cmpU_trans h k)

set_option maxHeartbeats 1600000 in
theorem cmpEl_any {w : World} {e e' : El} (h : RowAt w e.rv e.rd) (h' : RowAt w e'.rv e'.rd) (hm : e.rd.length ≤ 140737488351232) :
    Calls Tryz.prog 65 #[.agg #[.slice e.ra e.rl e.rc, .int .i64 e.t, .int .i64 e.n], .agg #[.slice e'.ra e'.rl e'.rc, .int .i64 e'.t, .int .i64 e'.n]] w fun x w' => x = .returned (.int .i64 (ec e e')) ∧ Fr [] w w' := by
  have hc : ∀ wi, Fr [] w wi → Calls Tryz.prog 68 #[.slice e.ra e.rl e.rc, .slice e'.ra e'.rl e'.rc] wi fun x w' => x = .returned (.int .i64 (cmpR e.rd e'.rd)) ∧ Fr [] wi w' := fun wi f => rowcmp_any (h.fr f) (h'.fr f) hm
  have he : ec e e' = orI (cmpI e.t e'.t) (cmpR e.rd e'.rd) := rfl
  have HE := Lib.hid he
  clear h h' he
  generalize ec e e' = ev at *
  generalize cmpR e.rd e'.rd = cv at *
  go_enter Tryz.func65, Tryz.ntmps65
  go_upto_region 1 with fail
  have fa : Fr [] w ((w.alloc (.cells #[.slice e.ra e.rl e.rc, .int .i64 e.t, .int .i64 e.n] 65)).alloc (.cells #[.slice e'.ra e'.rl e'.rc, .int .i64 e'.t, .int .i64 e'.n] 65)) := ((Fr.refl [] w).alloc _).alloc _
  have b1 : ((w.alloc (.cells #[.slice e.ra e.rl e.rc, .int .i64 e.t, .int .i64 e.n] 65)).alloc (.cells #[.slice e'.ra e'.rl e'.rc, .int .i64 e'.t, .int .i64 e'.n] 65)).heap[w.heap.size]? = some (.cells #[.slice e.ra e.rl e.rc, .int .i64 e.t, .int .i64 e.n] 65) := ((Fr.refl [] _).alloc _).heap (heap_alloc_new w _) (by simp)
  have b2 : ((w.alloc (.cells #[.slice e.ra e.rl e.rc, .int .i64 e.t, .int .i64 e.n] 65)).alloc (.cells #[.slice e'.ra e'.rl e'.rc, .int .i64 e'.t, .int .i64 e'.n] 65)).heap[w.heap.size + 1]? = some (.cells #[.slice e'.ra e'.rl e'.rc, .int .i64 e'.t, .int .i64 e'.n] 65) := by
    have := heap_alloc_new (w.alloc (.cells #[.slice e.ra e.rl e.rc, .int .i64 e.t, .int .i64 e.n] 65)) (.cells #[.slice e'.ra e'.rl e'.rc, .int .i64 e'.t, .int .i64 e'.n] 65)
    have e9 : (w.alloc (.cells #[.slice e.ra e.rl e.rc, .int .i64 e.t, .int .i64 e.n] 65)).heap.size = w.heap.size + 1 := by simp
    rwa [e9] at this
  have FA := Lib.hid fa
  clear fa
  generalize (w.alloc (.cells #[.slice e.ra e.rl e.rc, .int .i64 e.t, .int .i64 e.n] 65)).alloc (.cells #[.slice e'.ra e'.rl e'.rc, .int .i64 e'.t, .int .i64 e'.n] 65) = w2 at *
  have x0 := cell_blk b1 0 (.slice e.ra e.rl e.rc) rfl
  have x1 := cell_blk b1 1 (.int .i64 e.t) rfl
  have y0 := cell_blk b2 0 (.slice e'.ra e'.rl e'.rc) rfl
  have y1 := cell_blk b2 1 (.int .i64 e'.t) rfl
  clear b1 b2
  generalize w.heap.size + 1 = g2 at *
  generalize w.heap.size = g1 at *
  have HC := Lib.hid hc
  clear hc
  go_region_held3 (fun w' => w'.cell? ⟨g1, 0, none⟩ = some (.slice e.ra e.rl e.rc) ∧ w'.cell? ⟨g1, 1, none⟩ = some (.int .i64 e.t) ∧ w'.cell? ⟨g2, 0, none⟩ = some (.slice e'.ra e'.rl e'.rc) ∧ w'.cell? ⟨g2, 1, none⟩ = some (.int .i64 e'.t))
    (first | go_keep | exact ⟨f5.cell x0 (by simp), f5.cell x1 (by simp), f5.cell y0 (by simp), f5.cell y1 (by simp)⟩ | exact ⟨(f5.alloc _).cell x0 (by simp), (f5.alloc _).cell x1 (by simp), (f5.alloc _).cell y0 (by simp), (f5.alloc _).cell y1 (by simp)⟩)
    (first
      | (go_at_call 67; refine (cmp64_any _ _ _).mono ?_; rintro x w' ⟨rfl, rfl⟩)
      | (go_at_call 68; refine (HC.out _ (FA.out.drew)).mono ?_; rintro x w5 ⟨rfl, f5⟩)
      | (go_at_call 66; refine (or_any (heap_alloc_new w5 _)).mono ?_; rintro x w' ⟨rfl, rfl⟩))
  all_goals
    go_wp2_with fail
    go_ret
    exact ⟨ret_int HE.out.symm, (FA.out.drew.trans f5).alloc _⟩

theorem Srt.fr {g N : Nat} {w w' : World} {f : Nat → El} (h : Srt g N w f) (k : Fr [] w w') : Srt g N w' f := by
  obtain ⟨cur, hb, hc⟩ := h
  exact ⟨cur, k.heap hb (by simp), hc⟩

def InsR (g N : Nat) (w : World) (f : Nat → El) (a b : Nat) (x : Value) (wr : World) : Prop :=
  ∃ (i : Nat) (f' : Nat → El), x = .int .i64 i ∧ a + 1 ≤ i ∧ (i ≤ b ∨ i = a + 1) ∧ Srt g N wr f' ∧ Fr [g] w wr ∧ Pm a b f f' ∧ Srtd ec f' a i

def InsQ (g N : Nat) (w : World) (f : Nat → El) (a b i : Nat) (y : Value) (wr : World) : Prop :=
  ∃ (j : Nat) (f' : Nat → El), y = .int .i64 j ∧ Srt g N wr f' ∧ Fr [g] w wr ∧ Pm a b f f' ∧ Ins ec f' a i j

set_option maxHeartbeats 1600000 in
theorem insertion_any {w : World} {g N cap a b : Nat} {f : Nat → El} (h : Srt g N w f) (hrow : ∀ k, a ≤ k → k < b → RowOk g w (f k)) (hab : a ≤ b) (hb : b ≤ N) (hN : N ≤ 4398046511103) :
    Calls Tryz.prog 114 #[.slice (some ⟨g, 0, none⟩) N cap, .int .i64 a, .int .i64 b, .func (.func 65) #[] #[]] w fun e w' => e = .returned (.tuple #[]) ∧ ∃ f', Srt g N w' f' ∧ Fr [g] w w' ∧ Pm a b f f' ∧ Srtd ec f' a b := by
  have H := Lib.hid h
  have HRow := Lib.hid hrow
  clear h hrow
  go_enter Tryz.func114, Tryz.ntmps114
  go_wp2_with fail
  go_loopw [8] (fun x wr => InsR g N w f a b x wr) (fun x _ => b - (intOf x).toNat)
  case atStart => exact ⟨a + 1, f, by go_num, Nat.le_refl _, Or.inr rfl, H.out, Fr.refl _ _, .refl, Srtd.one ecGood (by omega)⟩
  case round =>
    obtain ⟨i, f', rfl, hai, hib, hs, hf, hp, ho⟩ := hrel
    have HS := Lib.hid hs
    have HF := Lib.hid hf
    have HP := Lib.hid hp
    have HO := Lib.hid ho
    clear hs hf hp ho
    by_cases hlt : i < b
    · go_wp2_with fail
      go_loopw [9] (fun y wr' => InsQ g N w f a b i y wr') (fun y _ => (intOf y).toNat)
      case atStart => exact ⟨i, f', rfl, HS.out, HF.out, HP.out, Ins.start ecGood HO.out (by omega)⟩
      case round =>
        obtain ⟨j, f2, rfl, hs, hf, hp, hI⟩ := hrel
        have hlo := hI.lo
        have hhi := hI.hi
        have HS := Lib.hid hs
        have HF := Lib.hid hf
        have HP := Lib.hid hp
        have HI := Lib.hid hI
        by_cases hja : a < j
        · obtain ⟨j', rfl⟩ : ∃ j', j = j' + 1 := ⟨j - 1, by omega⟩
          obtain ⟨x0, x1, x2, x3, x4, x5⟩ := hs.cell (k := j' + 1) (by omega)
          obtain ⟨y0, y1, y2, y3, y4, y5⟩ := hs.cell (k := j') (by omega)
          have hall := hp.all (P := RowOk g w) HRow.out
          have r1 := hall (j' + 1) (by omega) (by omega)
          have r2 := hall j' (by omega) (by omega)
          have hc := fun wi (f5 : Fr [g] w wi) => cmpEl_any (r1.2 wi f5) (r2.2 wi f5) r1.1
          have hc2 : ∀ p : FrBy wr, Calls Tryz.prog 65 #[.agg #[.slice (f2 (j' + 1)).ra (f2 (j' + 1)).rl (f2 (j' + 1)).rc, .int .i64 (f2 (j' + 1)).t, .int .i64 (f2 (j' + 1)).n], .agg #[.slice (f2 j').ra (f2 j').rl (f2 j').rc, .int .i64 (f2 j').t, .int .i64 (f2 j').n]] p.wn fun x w' => x = .returned (.int .i64 (ec (f2 (j' + 1)) (f2 j'))) ∧ Fr [] p.wn w' := fun p => hc _ (hf.trans p.fr.nil)
          have u0 : ∀ p : FrBy wr, p.wn.cell? ⟨g, (j' + 1) * 3, none⟩ = some (.slice (f2 (j' + 1)).ra (f2 (j' + 1)).rl (f2 (j' + 1)).rc) := fun p => p.fr.cell x0 (by simp)
          have u1 : ∀ p : FrBy wr, p.wn.cell? ⟨g, (j' + 1) * 3 + 1, none⟩ = some (.int .i64 (f2 (j' + 1)).t) := fun p => p.fr.cell x1 (by simp)
          have u1b : ∀ p : FrBy wr, p.wn.cell? ⟨g, (j' + 1) * 3 + 2, none⟩ = some (.int .i64 (f2 (j' + 1)).n) := fun p => p.fr.cell x2 (by simp)
          have v0 : ∀ p : FrBy wr, p.wn.cell? ⟨g, j' * 3, none⟩ = some (.slice (f2 j').ra (f2 j').rl (f2 j').rc) := fun p => p.fr.cell y0 (by simp)
          have v1 : ∀ p : FrBy wr, p.wn.cell? ⟨g, j' * 3 + 1, none⟩ = some (.int .i64 (f2 j').t) := fun p => p.fr.cell y1 (by simp)
          have v1b : ∀ p : FrBy wr, p.wn.cell? ⟨g, j' * 3 + 2, none⟩ = some (.int .i64 (f2 j').n) := fun p => p.fr.cell y2 (by simp)
          have HC := Lib.hid hc2
          clear hs hf hp hI hall r1 r2 hc hc2 x0 x1 x2 x3 x4 x5 y0 y1 y2 y3 y4 y5
          have i1 : (a : Int) < (j' : Int) + 1 := by omega
          have i2 : (j' : Int) + 1 < (N : Int) := by omega
          have i3 : (j' : Int) < (N : Int) := by omega
          have i4 : (0 : Int) ≤ (j' : Int) + 1 := by omega
          have i8 : IntKind.i64.wrap (j' : Int) = (j' : Int) := by rw [IntKind.wrap_i64]; omega
          have i9 : ((j' : Int) + 1).toNat = j' + 1 := by omega
          generalize hcv : ec (f2 (j' + 1)) (f2 j') = cv at HC
          have HCV := Lib.hid hcv
          clear hcv
          by_cases hlv : cv < 0
          · go_upto_region 4 with fail
            refine wp_region_fr (by kernel_rfl) (by kernel_rfl) ?_
            repeat (go_big_quiet_step ((go_at_call 65; exact Calls.fr_of (HC.out _))))
            refine wpQuiet_nil ?_
            intro wn hwn
            have fn : Fr [] wr wn := by obtain ⟨p, rfl⟩ := hwn; exact p.fr
            have hs2 := HS.out.fr fn
            obtain ⟨x0, x1, x2, x3, x4, x5⟩ := hs2.cell (k := j' + 1) (by omega)
            obtain ⟨y0, y1, y2, y3, y4, y5⟩ := hs2.cell (k := j') (by omega)
            have HS2 := Lib.hid hs2
            have FN := Lib.hid fn
            clear hwn u0 u1 u1b v0 v1 v1b HC hs2 fn
            go_upto_region 6 with fail
            go_region
            go_wp2_with fail
            go_roundw
            case rel => exact ⟨j', swp f2 (j' + 1) j', by go_num, HS2.out.swap (by omega) (by omega) (by omega), (HF.out.trans FN.out.nil).set6 _ _ _ _ _ _ _ _ _ _ _ _, HP.out.step (by omega) (by omega) (by omega) (by omega), by
              have := HI.out.step ecGood (by omega) (by rw [Nat.add_sub_cancel, HCV.out]; exact hlv)
              rwa [Nat.add_sub_cancel] at this⟩
            case measure => simp [intOf] <;> omega
          · go_upto_region 4 with fail
            refine wp_region_fr (by kernel_rfl) (by kernel_rfl) ?_
            repeat (go_big_quiet_step ((go_at_call 65; exact Calls.fr_of (HC.out _))))
            refine wpQuiet_nil ?_
            intro wn hwn
            have fn : Fr [] wr wn := by obtain ⟨p, rfl⟩ := hwn; exact p.fr
            have FN := Lib.hid fn
            clear hwn u0 u1 u1b v0 v1 v1b HC fn
            have hdone := Lib.hid (HI.out.done ecGood (Or.inr (by rw [Nat.add_sub_cancel, HCV.out]; exact hlv)))
            go_wp2_with fail
            go_roundw
            case rel => exact ⟨i + 1, f2, by go_num, by omega, Or.inl (by omega), HS.out.fr FN.out, HF.out.trans FN.out.nil, HP.out, hdone.out⟩
            case measure => simp [intOf]; omega
        · clear hs hf hp hI
          have hja' : ¬ (a : Int) < (j : Int) := by omega
          have hd : decide ((a : Int) < (j : Int)) = false := decide_eq_false (by omega)
          have hdone := Lib.hid (HI.out.done ecGood (Or.inl (by omega)))
          go_upto_region 4 with fail
          go_quiet (fail)
          go_wp2_with fail
          go_roundw
          case rel => exact ⟨i + 1, f2, by go_num, by omega, Or.inl (by omega), HS.out, HF.out.drewN _, HP.out, hdone.out⟩
          case measure => simp [intOf]; omega
    · go_wp2_with fail
      go_end0
      exact ⟨rfl, f', HS.out, HF.out, HP.out, fun p q x y z => HO.out p q x y (by omega)⟩
end Go.Proofs.YtjchlfblbmiceaaGreat.upd
