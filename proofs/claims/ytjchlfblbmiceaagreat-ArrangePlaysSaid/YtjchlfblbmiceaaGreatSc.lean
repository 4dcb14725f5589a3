/- The comparator of counted rows, and the insertion sort. No condition but that the rows lie as they are told. -/
import Derived.Test.YtjchlfblbmiceaaGreatSm
import Derived.Test.YtjchlfblbmiceaaGreatSr
import Derived.BigQuiet
import Derived.Deep.QuietTactic
namespace Go.Proofs.YtjchlfblbmiceaaGreat
open Go.RowKit srt

/-! ### a region that reads, beside calls that may make memory: walked once, in the class of the worlds within a frame -/
structure FrBy (w : World) where
  wn : World
  fr : Fr [] w wn

instance (w : World) : Nonempty (FrBy w) := ⟨⟨w, Fr.refl [] w⟩⟩

theorem wp_region_fr {P : Program} {id : Nat} {Q : Exit → Act → World → Prop} {a : Act} {w : World} {l : List Oper} (hm : P.follows .mixedOrders = true) (hB : Region.lexB .any l.toArray = true)
    (h : wpQuiet P l.toArray (fun w' => ∃ p : FrBy w, w' = p.wn) (fun a' => ∀ w', (∃ p : FrBy w, w' = p.wn) → Q .normal a' w') l a) : (Code.region id l.toArray true).wp P Q a w :=
  wp_region_quiet (C := fun w' => ∃ p : FrBy w, w' = p.wn) hm hB ⟨⟨w.drew, ⟨rfl, rfl, rfl, Nat.le_refl _, fun _ _ _ => rfl⟩⟩, rfl⟩ (by simpa using h)

theorem Calls.fr_of {P : Program} {f : FuncId} {args : Array Value} {w : World} {p : FrBy w} {v : Value} (h : Calls P f args p.wn fun e w' => e = .returned v ∧ Fr [] p.wn w') : Calls P f args p.wn fun e w'' => e = .returned v ∧ ∃ q : FrBy w, w'' = q.wn :=
  h.mono fun _ _ ⟨he, hf⟩ => ⟨he, ⟨_, p.fr.trans hf⟩, rfl⟩

theorem Fr.drewN {S : List Nat} {a b : World} (h : Fr S a b) (n : Nat) : Fr S a (b.drewN n) := ⟨h.os, h.tape, h.output, h.size, h.block⟩

def El.agg (e : El) : Value := .agg #[.slice e.ra e.rl e.rc, .int .i64 e.n]

set_option maxRecDepth 100000
theorem cmpEl_any {w : World} {e e' : El} (h : RowAt w e.rv e.rd) (h' : RowAt w e'.rv e'.rd) (hm : e.rd.length ≤ 140737488351232) :
    Calls Tryz.prog 101 #[.agg #[.slice e.ra e.rl e.rc, .int .i64 e.n], .agg #[.slice e'.ra e'.rl e'.rc, .int .i64 e'.n]] w fun x w' => x = .returned (.int .i64 (cmpR e.rd e'.rd)) ∧ Fr [] w w' := by
  have hc : ∀ wi, Fr [] w wi → Calls Tryz.prog 68 #[.slice e.ra e.rl e.rc, .slice e'.ra e'.rl e'.rc] wi fun x w' => x = .returned (.int .i64 (cmpR e.rd e'.rd)) ∧ Fr [] wi w' := fun wi f => rowcmp_any (h.fr f) (h'.fr f) hm
  clear h h'
  go_enter Tryz.func101, Tryz.ntmps101
  go_wp2_with (go_at_call 68; refine (hc _ (((Fr.refl [] w).alloc _).alloc _)).mono ?_; rintro x w5 ⟨rfl, f5⟩)
  go_ret
  exact ⟨rfl, (((Fr.refl [] w).alloc _).alloc _).trans f5⟩

theorem Srt.fr {g N : Nat} {w w' : World} {f : Nat → El} (h : Srt g N w f) (k : Fr [] w w') : Srt g N w' f := by
  obtain ⟨cur, hb, hc⟩ := h
  exact ⟨cur, k.heap hb (by simp), hc⟩

/-- A row that lies as it is told, whatever happens to block g. -/
def RowOk (g : Nat) (w : World) (e : El) : Prop := e.rd.length ≤ 140737488351232 ∧ ∀ wi, Fr [g] w wi → RowAt wi e.rv e.rd
def ec (e e' : El) : Int := cmpR e.rd e'.rd
theorem ecGood : srt.Good ec := srt.Good.mk (fun a b => cmpR_swap a.rd b.rd) (fun _ _ _ h k => cmpR_trans h k)

def InsR (g N : Nat) (w : World) (f : Nat → El) (a b : Nat) (x : Value) (wr : World) : Prop :=
  ∃ (i : Nat) (f' : Nat → El), x = .int .i64 i ∧ a + 1 ≤ i ∧ (i ≤ b ∨ i = a + 1) ∧ Srt g N wr f' ∧ Fr [g] w wr ∧ Pm a b f f' ∧ Srtd ec f' a i

def InsQ (g N : Nat) (w : World) (f : Nat → El) (a b i : Nat) (y : Value) (wr : World) : Prop :=
  ∃ (j : Nat) (f' : Nat → El), y = .int .i64 j ∧ Srt g N wr f' ∧ Fr [g] w wr ∧ Pm a b f f' ∧ Ins ec f' a i j

set_option maxHeartbeats 1600000 in
theorem insertion_any {w : World} {g N cap a b : Nat} {f : Nat → El} (h : Srt g N w f) (hrow : ∀ k, a ≤ k → k < b → RowOk g w (f k)) (hab : a ≤ b) (hb : b ≤ N) (hN : N ≤ 4398046511103) :
    Calls Tryz.prog 122 #[.slice (some ⟨g, 0, none⟩) N cap, .int .i64 a, .int .i64 b, .func (.func 101) #[] #[]] w fun e w' => e = .returned (.tuple #[]) ∧ ∃ f', Srt g N w' f' ∧ Fr [g] w w' ∧ Pm a b f f' ∧ Srtd ec f' a b := by
  have H := Lib.hid h
  have HRow := Lib.hid hrow
  clear h hrow
  go_enter Tryz.func122, Tryz.ntmps122
  go_wp2_with fail
  go_loopw [8] (fun x wr => InsR g N w f a b x wr) (fun x _ => b - (intOf x).toNat)
  case atStart => exact ⟨a + 1, f, by go_num, Nat.le_refl _, Or.inr rfl, H.out, Fr.refl _ _, .refl, Srtd.one ecGood (by omega)⟩
  case round =>
    obtain ⟨i, f', rfl, hai, hib, hs, hf, hp, ho⟩ := hrel
    have HS := Lib.hid hs
    have HF := Lib.hid hf
    have HP := Lib.hid hp
    have HO := Lib.hid ho
    clear hs hf hp ho
    by_cases hlt : i < b
    · go_wp2_with fail
      go_loopw [9] (fun y wr' => InsQ g N w f a b i y wr') (fun y _ => (intOf y).toNat)
      case atStart => exact ⟨i, f', rfl, HS.out, HF.out, HP.out, Ins.start ecGood HO.out (by omega)⟩
      case round =>
        obtain ⟨j, f2, rfl, hs, hf, hp, hI⟩ := hrel
        have hlo := hI.lo
        have hhi := hI.hi
        have HS := Lib.hid hs
        have HF := Lib.hid hf
        have HP := Lib.hid hp
        have HI := Lib.hid hI
        by_cases hja : a < j
        · obtain ⟨j', rfl⟩ : ∃ j', j = j' + 1 := ⟨j - 1, by omega⟩
          obtain ⟨x0, x1, x2, x3⟩ := hs.cell (k := j' + 1) (by omega)
          obtain ⟨y0, y1, y2, y3⟩ := hs.cell (k := j') (by omega)
          have hall := hp.all (P := RowOk g w) HRow.out
          have r1 := hall (j' + 1) (by omega) (by omega)
          have r2 := hall j' (by omega) (by omega)
          have hc := fun wi (f5 : Fr [g] w wi) => cmpEl_any (r1.2 wi f5) (r2.2 wi f5) r1.1
          have hc2 : ∀ p : FrBy wr, Calls Tryz.prog 101 #[.agg #[.slice (f2 (j' + 1)).ra (f2 (j' + 1)).rl (f2 (j' + 1)).rc, .int .i64 (f2 (j' + 1)).n], .agg #[.slice (f2 j').ra (f2 j').rl (f2 j').rc, .int .i64 (f2 j').n]] p.wn fun x w' => x = .returned (.int .i64 (ec (f2 (j' + 1)) (f2 j'))) ∧ Fr [] p.wn w' := fun p => hc _ (hf.trans p.fr.nil)
          have u0 : ∀ p : FrBy wr, p.wn.cell? ⟨g, (j' + 1) * 2, none⟩ = some (.slice (f2 (j' + 1)).ra (f2 (j' + 1)).rl (f2 (j' + 1)).rc) := fun p => p.fr.cell x0 (by simp)
          have u1 : ∀ p : FrBy wr, p.wn.cell? ⟨g, (j' + 1) * 2 + 1, none⟩ = some (.int .i64 (f2 (j' + 1)).n) := fun p => p.fr.cell x1 (by simp)
          have v0 : ∀ p : FrBy wr, p.wn.cell? ⟨g, j' * 2, none⟩ = some (.slice (f2 j').ra (f2 j').rl (f2 j').rc) := fun p => p.fr.cell y0 (by simp)
          have v1 : ∀ p : FrBy wr, p.wn.cell? ⟨g, j' * 2 + 1, none⟩ = some (.int .i64 (f2 j').n) := fun p => p.fr.cell y1 (by simp)
          have HC := Lib.hid hc2
          clear hs hf hp hI hall r1 r2 hc hc2 x0 x1 x2 x3 y0 y1 y2 y3
          have i1 : (a : Int) < (j' : Int) + 1 := by omega
          have i2 : (j' : Int) + 1 < (N : Int) := by omega
          have i3 : (j' : Int) < (N : Int) := by omega
          have i4 : (0 : Int) ≤ (j' : Int) + 1 := by omega
          have i8 : IntKind.i64.wrap (j' : Int) = (j' : Int) := by rw [IntKind.wrap_i64]; omega
          have i9 : ((j' : Int) + 1).toNat = j' + 1 := by omega
          generalize hcv : ec (f2 (j' + 1)) (f2 j') = cv at HC
          have HCV := Lib.hid hcv
          clear hcv
          by_cases hlv : cv < 0
          · go_upto_region 4 with fail
            refine wp_region_fr (by kernel_rfl) (by kernel_rfl) ?_
            repeat (go_big_quiet_step ((go_at_call 101; exact Calls.fr_of (HC.out _))))
            refine wpQuiet_nil ?_
            intro wn hwn
            have fn : Fr [] wr wn := by obtain ⟨p, rfl⟩ := hwn; exact p.fr
            have hs2 := HS.out.fr fn
            obtain ⟨x0, x1, x2, x3⟩ := hs2.cell (k := j' + 1) (by omega)
            obtain ⟨y0, y1, y2, y3⟩ := hs2.cell (k := j') (by omega)
            have HS2 := Lib.hid hs2
            have FN := Lib.hid fn
            clear hwn u0 u1 v0 v1 HC hs2 fn
            go_upto_region 6 with fail
            go_region
            go_wp2_with fail
            go_roundw
            case rel => exact ⟨j', swp f2 (j' + 1) j', by go_num, HS2.out.swap (by omega) (by omega) (by omega), (HF.out.trans FN.out.nil).set4 _ _ _ _ _ _ _ _, HP.out.step (by omega) (by omega) (by omega) (by omega), by
              have := HI.out.step ecGood (by omega) (by rw [Nat.add_sub_cancel, HCV.out]; exact hlv)
              rwa [Nat.add_sub_cancel] at this⟩
            case measure => simp [intOf] <;> omega
          · go_upto_region 4 with fail
            refine wp_region_fr (by kernel_rfl) (by kernel_rfl) ?_
            repeat (go_big_quiet_step ((go_at_call 101; exact Calls.fr_of (HC.out _))))
            refine wpQuiet_nil ?_
            intro wn hwn
            have fn : Fr [] wr wn := by obtain ⟨p, rfl⟩ := hwn; exact p.fr
            have FN := Lib.hid fn
            clear hwn u0 u1 v0 v1 HC fn
            have hdone := Lib.hid (HI.out.done ecGood (Or.inr (by rw [Nat.add_sub_cancel, HCV.out]; exact hlv)))
            go_wp2_with fail
            go_roundw
            case rel => exact ⟨i + 1, f2, by go_num, by omega, Or.inl (by omega), HS.out.fr FN.out, HF.out.trans FN.out.nil, HP.out, hdone.out⟩
            case measure => simp [intOf]; omega
        · clear hs hf hp hI
          have hja' : ¬ (a : Int) < (j : Int) := by omega
          have hd : decide ((a : Int) < (j : Int)) = false := decide_eq_false (by omega)
          have hdone := Lib.hid (HI.out.done ecGood (Or.inl (by omega)))
          go_upto_region 4 with fail
          go_quiet (fail)
          go_wp2_with fail
          go_roundw
          case rel => exact ⟨i + 1, f2, by go_num, by omega, Or.inl (by omega), HS.out, HF.out.drewN _, HP.out, hdone.out⟩
          case measure => simp [intOf]; omega
    · go_wp2_with fail
      go_end0
      exact ⟨rfl, f', HS.out, HF.out, HP.out, fun p q x y z => HO.out p q x y (by omega)⟩
end Go.Proofs.YtjchlfblbmiceaaGreat
