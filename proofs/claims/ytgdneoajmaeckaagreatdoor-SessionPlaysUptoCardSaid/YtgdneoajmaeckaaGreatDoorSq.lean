/- session.long: is there a line of too many bytes? Its range over strings.SplitSeq, walked through the model's own rules of such a loop. No condition but the size, and that the variable MaxLen lies. -/
import Derived.Test.YtgdneoajmaeckaaGreatDoorSs
import Derived.Test.YtgdneoajmaeckaaGreatDoorShelf
import Derived.Shelf.Strings.SlTrimAscii
import Derived.RangeFuncNested
import Derived.RangeFuncBound
import Derived.RangeFuncCalls
import Derived.RangeFuncLeaves
import Derived.Shelf.Abstract
import Derived.Shelf.RegionOpen
import Derived.OwnWalkIn
import Derived.TacticsInMore
import Derived.LoopNIn
import Derived.LoopIn
namespace Go.Proofs.YtgdneoajmaeckaaGreatDoor
open Go.RowKit Go.Shelf
attribute [local go_sem] Oper.semAt_some

def SomeMax (w : World) : Prop := ∃ m, w.cell? ⟨0, 0, none⟩ = some (.int .i64 m)
theorem SomeMax.fr {w w' : World} (h : SomeMax w) (f : Fr [] w w') : SomeMax w' := by
  obtain ⟨m, h⟩ := h
  exact ⟨m, f.cell h (by simp)⟩

def closB (w : World) : Value := .func (.func 64) #[] #[.pointer (some ⟨w.heap.size + 1, 0, none⟩), .pointer (some ⟨w.heap.size, 0, none⟩), .pointer (some ⟨w.heap.size + 1 + 1, 0, none⟩)]

theorem splits_any (s : ByteArray) (w : World) :
    Calls Tryz.prog 51 #[.string s, .string ⟨#[10]⟩, .int .i64 0] w fun e w' => e = .returned (closB w) ∧ w' = ((w.alloc (.cells #[.string s] 9)).alloc (.cells #[.string ⟨#[10]⟩] 9)).alloc (.cells #[.int .i64 0] 3) := by
  go_enter Tryz.func51, Tryz.ntmps51
  go_wp2_with fail
  go_ret
  exact ⟨rfl, rfl⟩
theorem split_any (s : ByteArray) (w : World) :
    Calls Tryz.prog 37 #[.string s, .string ⟨#[10]⟩] w fun e w' => e = .returned (closB w) ∧ w' = ((w.alloc (.cells #[.string s] 9)).alloc (.cells #[.string ⟨#[10]⟩] 9)).alloc (.cells #[.int .i64 0] 3) := by
  go_enter Tryz.func37, Tryz.ntmps37
  go_wp2_with (go_at_call 51; refine (splits_any s _).mono ?_; rintro e w1 ⟨rfl, rfl⟩)
  go_ret
  exact ⟨rfl, rfl⟩

/-- The blocks of such a loop: the result's, the three of the iterator's, the deferred calls', the loop's. -/
structure SqAt (w : World) (s : ByteArray) (q : Bool) (r : Loop) (W : World) : Prop where
  fr : Fr [] w W
  re : W.heap[w.heap.size]? = some (.cells #[.bool q] 4)
  bx : W.heap[w.heap.size + 1]? = some (.cells #[.string s] 9)
  sp : W.heap[w.heap.size + 2]? = some (.cells #[.string ⟨#[10]⟩] 9)
  sv : W.heap[w.heap.size + 3]? = some (.cells #[.int .i64 0] 3)
  df : W.heap[w.heap.size + 4]? = some (.deferred (some []))
  lp : W.heap[w.heap.size + 5]? = some (.loop r)

theorem Fr.setFresh {S : List Nat} {a b : World} (h : Fr S a b) {p : Addr} (hp : a.heap.size ≤ p.block) (u : Value) : Fr S a (b.setCell p u) :=
  h.past (Fr.setCell (S := [p.block]) (Fr.refl _ b) (by simp) u) (by simp; exact Or.inl hp)
theorem Fr.putFresh {S : List Nat} {a b : World} (h : Fr S a b) {l : Nat} (hl : a.heap.size ≤ l) (o : Obj) : Fr S a (b.putObj l o) :=
  h.fresh (grownBy_putObj' b l o) (fun r e => by cases e; exact Or.inl hl)
theorem heap_far {W : World} {p : Addr} {u : Value} {k : Nat} (h : k ≠ p.block) : (W.setCell p u).heap[k]? = W.heap[k]? := Below.heap_setCell W p u k h

theorem SqAt.drewN {w W : World} {s : ByteArray} {q : Bool} {r : Loop} (h : SqAt w s q r W) (n : Nat) : SqAt w s q r (W.drewN n) := ⟨h.fr.drewN n, h.re, h.bx, h.sp, h.sv, h.df, h.lp⟩
theorem SqAt.box {w W : World} {s : ByteArray} {q : Bool} {r : Loop} (h : SqAt w s q r W) (s' : ByteArray) : SqAt w s' q r (W.setCell ⟨w.heap.size + 1, 0, none⟩ (.string s')) :=
  ⟨h.fr.setFresh (by simp) _, (heap_far (by simp)).trans h.re, blk_set h.bx 0 _, (heap_far (by simp)).trans h.sp, (heap_far (by simp)).trans h.sv, (heap_far (by simp)).trans h.df, (heap_far (by simp)).trans h.lp⟩
theorem SqAt.res {w W : World} {s : ByteArray} {q : Bool} {r : Loop} (h : SqAt w s q r W) (q' : Bool) : SqAt w s q' r (W.setCell ⟨w.heap.size, 0, none⟩ (.bool q')) :=
  ⟨h.fr.setFresh (by simp) _, blk_set h.re 0 _, (heap_far (by simp)).trans h.bx, (heap_far (by simp)).trans h.sp, (heap_far (by simp)).trans h.sv, (heap_far (by simp)).trans h.df, (heap_far (by simp)).trans h.lp⟩
theorem SqAt.put {w W : World} {s : ByteArray} {q : Bool} {r : Loop} (h : SqAt w s q r W) (r' : Loop) : SqAt w s q r' (W.putObj (w.heap.size + 5) (.loop r')) :=
  ⟨h.fr.putFresh (by omega) _, (World.putObj_heap_other (by omega)).trans h.re, (World.putObj_heap_other (by omega)).trans h.bx, (World.putObj_heap_other (by omega)).trans h.sp, (World.putObj_heap_other (by omega)).trans h.sv, (World.putObj_heap_other (by omega)).trans h.df,
    World.putObj_heap_same (Array.getElem?_eq_some_iff.1 h.lp).1⟩

/-- How the body of a round leaves. -/
def longPost (w : World) (x : ByteArray) (W : World) : Exit → Act → World → Prop
  | .normal, _, W' => x.size ≤ 4000 ∧ W' = W
  | .ret, _, W' => 4000 < x.size ∧ W' = W.setCell ⟨w.heap.size, 0, none⟩ (.bool true)
  | _, _, _ => False

def SqEnd (w : World) (big : Bool) (rd rs : Loop) (e : Ending) (W' : World) : Prop :=
  (∃ v, e = .returned v) ∧ ((big = false ∧ ∃ s', SqAt w s' false rd W') ∨ (big = true ∧ ∃ s', SqAt w s' true rs W'))
def YieldR (w : World) (x s' : ByteArray) (rd rs : Loop) (e : Ending) (W' : World) : Prop :=
  (x.size ≤ 4000 ∧ e = .returned (.bool true) ∧ SqAt w s' false rd W') ∨ (4000 < x.size ∧ e = .returned (.bool false) ∧ SqAt w s' true rs W')

def boxLen (b : Nat) (W : World) : Nat :=
  match W.cell? ⟨b, 0, none⟩ with
  | some (.string s) => s.size
  | _ => 0

theorem blk1 {w : World} {b : Nat} {x : Value} {t : Nat} (h : w.heap[b]? = some (.cells #[x] t)) : w.cell? ⟨b, 0, none⟩ = some x ∧ w.frozen? ⟨b, 0, none⟩ = false := by
  simp [World.cell?, World.frozen?, h]

theorem index_any (s : ByteArray) (w : World) (hs : s.size < 4294967281) (hM : SomeMax w) :
    Calls Tryz.prog 65 #[.string s, .string ⟨#[10]⟩] w fun e w' => e = .returned (.int .i64 (Lib.index s.data.toList [10])) ∧ ∃ n, w' = w.drewN n := by
  obtain ⟨m, hm⟩ := hM
  exact (Tryz.strings_Index s ⟨#[10]⟩ m w hs hm).mono fun e w' ⟨h1, h2⟩ => ⟨h1, 0, h2⟩

set_option maxRecDepth 100000
set_option maxHeartbeats 1600000 in
theorem iter_any {w : World} {rd rs : Loop} (hM : SomeMax w)
    (hY : ∀ (x s' : ByteArray) (W : World), SqAt w s' false rd W → YieldAt Fence.wide 1 Tryz.prog (w.heap.size + 5) #[.string x] W (YieldR w x s' rd rs))
    (s : ByteArray) (hs : s.size < 4294967281) (W : World) (hS : SqAt w s false rd W) :
    CallsIn Fence.wide 2 Tryz.prog 64 #[.func (.yield (w.heap.size + 5)) #[] #[], .pointer (some ⟨w.heap.size + 2, 0, none⟩), .pointer (some ⟨w.heap.size + 1, 0, none⟩), .pointer (some ⟨w.heap.size + 3, 0, none⟩)] W
      (SqEnd w (longB s.data.toList) rd rs) := by
  refine callsIn_of_wp Tryz.func64 rfl trivial ?_ rfl
  simp only [Tryz.ntmps64, List.size_toArray, List.length_cons, List.length_nil, Nat.reduceAdd, Nat.reduceSub, Array.replicate_succ, Array.replicate_zero, List.push_toArray, List.append_toArray, List.nil_append, List.cons_append]
  obtain ⟨c2, y2⟩ := blk1 hS.sp
  have HY := Lib.hid hY
  have HM := Lib.hid hM
  have HS := Lib.hid hS
  clear hY hM hS
  gi_wp2_with fail
  gi_loopw [7, 8] (fun _ _ wr => ∃ s' : ByteArray, s'.size ≤ s.size ∧ SqAt w s' false rd wr ∧ longB s.data.toList = longB s'.data.toList) (fun _ _ wr => boxLen (w.heap.size + 1) wr)
  case atStart => exact ⟨s, Nat.le_refl _, HS.out, rfl⟩
  case round =>
    obtain ⟨s', hl, hq, hb⟩ := hrel
    obtain ⟨l, rfl⟩ : ∃ l : List UInt8, s' = ⟨l.toArray⟩ := ⟨s'.data.toList, by simp⟩
    have hl' : l.length ≤ s.size := by rw [size_mk] at hl; exact hl
    have hlen : (⟨l.toArray⟩ : ByteArray).size < 4294967281 := by rw [size_mk]; omega
    obtain ⟨c1, y1⟩ := blk1 hq.bx
    obtain ⟨c2', y2'⟩ := blk1 hq.sp
    obtain ⟨c3, y3⟩ := blk1 hq.sv
    have HQ := Lib.hid hq
    have HB := Lib.hid hb
    have HI := fun wi => index_any ⟨l.toArray⟩ wi hlen
    rcases index_cut l with ⟨hn, hi⟩ | ⟨a, r, hn, hi⟩
    · have HN := Lib.hid (segN_none hn)
      simp only [hi] at HI
      clear hq hb hn hi hl hlen
      gi_wp2_with (refine ⟨trivial, ?_⟩; gi_at_call 65; refine (callsIn_wide.2 (HI _ (HM.out.fr HQ.out.fr))).mono ?_; rintro e W1 ⟨rfl, n, rfl⟩; obtain ⟨fn, tmps, assign, body, hy, hR⟩ := HY.out ⟨l.toArray⟩ ⟨l.toArray⟩ _ (HQ.out.drewN n))
      clear hy
      have HLo := Lib.hid (show longB s.data.toList = decide (4000 < l.length) by rw [HB.out, longB_seg, HN.out]; simp)
      refine hR.mono ?_
      rintro e W3 (⟨h4, rfl, hS3⟩ | ⟨h4, rfl, hS3⟩)
      · have HS3 := Lib.hid hS3
        clear hS3
        gi_wp2
        go_end0
        exact ⟨⟨_, rfl⟩, Or.inl ⟨by rw [HLo.out]; exact decide_eq_false (by rw [size_mk] at h4; omega), _, HS3.out⟩⟩
      · have HS3 := Lib.hid hS3
        clear hS3
        gi_wp2
        go_end0
        exact ⟨⟨_, rfl⟩, Or.inr ⟨by rw [HLo.out]; exact decide_eq_true (by rw [size_mk] at h4; omega), _, HS3.out⟩⟩
    · have HN := Lib.hid (segN_some hn)
      obtain ⟨he, -⟩ := cutN_eq hn
      have hal : a.length + r.length + 1 = l.length := cutN_len hn
      have hx : ∀ wx, (Instr.slice 9 (.string ⟨l.toArray⟩) none (some (.int .i64 (a.length : Int))) none).run Tryz.prog wx = .ok (.string ⟨a.toArray⟩) wx := fun wx => by
        have := cut_head l a.length (by omega) wx
        rwa [show l.take a.length = a by rw [he]; simp] at this
      have hz : ∀ wx, (Instr.slice 9 (.string ⟨l.toArray⟩) (some (.int .i64 ((a.length : Int) + 1))) none none).run Tryz.prog wx = .ok (.string ⟨r.toArray⟩) wx := fun wx => by
        have := cut_tail l (a.length + 1) (by omega) wx
        rw [show l.drop (a.length + 1) = r by rw [he]; simp] at this
        rwa [show ((a.length + 1 : Nat) : Int) = (a.length : Int) + 1 by omega] at this
      simp only [hi] at HI
      clear hq hb hn hi hl hlen he
      gi_wp2_with (refine ⟨trivial, ?_⟩; gi_at_call 65; refine (callsIn_wide.2 (HI _ (HM.out.fr HQ.out.fr))).mono ?_; rintro e W1 ⟨rfl, n, rfl⟩; obtain ⟨fn, tmps, assign, body, hy, hR⟩ := HY.out ⟨a.toArray⟩ ⟨l.toArray⟩ _ (HQ.out.drewN n))
      clear hy
      have HLo := Lib.hid (show longB s.data.toList = (decide (4000 < a.length) || longB r) by rw [HB.out, longB_seg, HN.out, List.any_cons, ← longB_seg])
      have HLen := Lib.hid (show boxLen (w.heap.size + 1) wr = l.length by simp [boxLen, c1, size_mk])
      refine hR.mono ?_
      rintro e W3 (⟨h4, rfl, hS3⟩ | ⟨h4, rfl, hS3⟩)
      · obtain ⟨d1, z1⟩ := blk1 hS3.bx
        obtain ⟨d2, z2⟩ := blk1 hS3.sp
        have HS3 := Lib.hid (hS3.box ⟨r.toArray⟩)
        clear hS3
        gi_wp2
        go_roundw
        case rel => exact ⟨_, by rw [size_mk]; omega, HS3.out, by rw [HLo.out, decide_eq_false (by rw [size_mk] at h4; omega), Bool.false_or]⟩
        case measure =>
          rw [HLen.out]
          have := (blk1 HS3.out.bx).1
          simp only [boxLen, this, size_mk]
          omega
      · have HS3 := Lib.hid hS3
        clear hS3
        gi_wp2
        refine bodyPost_ret (results_none rfl _ _ _) rfl ?_
        exact ⟨⟨_, rfl⟩, Or.inr ⟨by rw [HLo.out, decide_eq_true (by rw [size_mk] at h4; omega)]; rfl, _, HS3.out⟩⟩

set_option maxHeartbeats 1600000 in
theorem seq_law {assign body : Code} {Q : Exit → Act → World → Prop} {a : Act} {w W0 : World} (s : ByteArray) (hs : s.size < 4294967281) (hM : SomeMax w)
    (hg : a.eval (.tmp 5) = .func (.func 64) #[] #[.pointer (some ⟨w.heap.size + 2, 0, none⟩), .pointer (some ⟨w.heap.size + 1, 0, none⟩), .pointer (some ⟨w.heap.size + 3, 0, none⟩)])
    (hsz : W0.heap.size = w.heap.size + 4) (fr : Fr [] w W0) (re : W0.heap[w.heap.size]? = some (.cells #[.bool false] 4)) (bx : W0.heap[w.heap.size + 1]? = some (.cells #[.string s] 9))
    (sp : W0.heap[w.heap.size + 2]? = some (.cells #[.string ⟨#[10]⟩] 9)) (sv : W0.heap[w.heap.size + 3]? = some (.cells #[.int .i64 0] 3)) (a1 : ByteArray → Act)
    (hassign : ∀ (l : Nat) (x : ByteArray) (W : World) (K : Act → World → Prop), K (a1 x) W →
      assign.wpIn (Fence.wide.inRound l) 1 Tryz.prog (Exit.then K (fun _ _ _ => False)) { tmps := ((#[6] : Array Tmp).zip #[Value.string x]).foldl (fun t (p, v) => t.setIfInBounds p v) a.tmps, defers := [] } W)
    (hbody : ∀ (l : Nat) (x : ByteArray) (W : World), W.heap[w.heap.size]? = some (.cells #[.bool false] 4) → body.wpIn (Fence.wide.inRound l) 1 Tryz.prog (longPost w x W) (a1 x) W)
    (hdone : ∀ W, longB s.data.toList = false → Fr [] w W → W.heap[w.heap.size]? = some (.cells #[.bool false] 4) → W.heap[w.heap.size + 4]? = some (.deferred (some [])) →
      Q .normal { a with defers := { target := .collected (w.heap.size + 4), args := #[] } :: a.defers } W)
    (hstop : ∀ W, longB s.data.toList = true → Fr [] w W → W.heap[w.heap.size]? = some (.cells #[.bool true] 4) → W.heap[w.heap.size + 4]? = some (.deferred (some [])) →
      Code.ret.wpIn Fence.wide 3 Tryz.prog Q { a with defers := { target := .collected (w.heap.size + 4), args := #[] } :: a.defers } W) :
    (Code.rangeFunc (.tmp 5) #[6] assign body).wpIn Fence.wide 3 Tryz.prog Q a W0 := by
  refine wpIn_rangeFunc ?_
  intro fn hfn
  obtain ⟨rec, hrec⟩ : ∃ rec : LoopState → Option Code → Loop, rec = fun st pe => { state := st, pending := pe, fn, tmps := a.tmps, params := #[6], assign, body, defers := w.heap.size + 4 } := ⟨_, rfl⟩
  obtain ⟨W1, hW1⟩ : ∃ W1, (W0.alloc (.deferred (some []))).alloc (.loop (rec .ready none)) = W1 := ⟨_, rfl⟩
  have hS : SqAt w s false (rec .ready none) W1 := by
    rw [← hW1]
    have f2 : Fr [] W0 ((W0.alloc (.deferred (some []))).alloc (.loop (rec .ready none))) := ((Fr.refl _ _).alloc _).alloc _
    refine ⟨(fr.alloc _).alloc _, f2.heap re (by simp), f2.heap bx (by simp), f2.heap sp (by simp), f2.heap sv (by simp), ?_, ?_⟩
    · have := World.alloc_heap_new W0 (.deferred (some []))
      rw [hsz] at this
      exact ((Fr.refl [] _).alloc _).heap this (by simp)
    · have := World.alloc_heap_new (W0.alloc (.deferred (some []))) (.loop (rec .ready none))
      rwa [World.size_alloc, hsz] at this
  have eg : ∀ args w, (callFunc 64 args).run Tryz.prog w = .ok (.enter 64 args) w := enters_of Tryz.func64 (by kernel_rfl) rfl
  refine ⟨w.heap.size + 5, [{ target := .collected (w.heap.size + 4), args := #[] }], W1, { target := .fn (.func 64) #[.pointer (some ⟨w.heap.size + 2, 0, none⟩), .pointer (some ⟨w.heap.size + 1, 0, none⟩), .pointer (some ⟨w.heap.size + 3, 0, none⟩)], args := #[.func (.yield (w.heap.size + 5)) #[] #[]] }, W1, 64,
    #[.func (.yield (w.heap.size + 5)) #[] #[], .pointer (some ⟨w.heap.size + 2, 0, none⟩), .pointer (some ⟨w.heap.size + 1, 0, none⟩), .pointer (some ⟨w.heap.size + 3, 0, none⟩)], W1, ?_, ?_, ?_, ?_, fun _ => by omega, ?_⟩
  · rw [← hW1, hrec]
    have := run_enterLoop_outer (P := Tryz.prog) (w := W0) fn a.tmps #[6] assign body
    rw [hsz] at this
    exact this
  · simp only [resolve, hg]
    simp [go_sem]
  · intro f' hf'; trivial
  · simp [invoke, go_sem, eg]
  · refine (iter_any hM ?_ s hs W1 hS (rs := rec .done (some .ret))).mono ?_
    · intro x s' W hq
      have hy := run_yield (P := Tryz.prog) (args := #[.string x]) hq.lp (by rw [hrec]; rfl)
      rw [hrec] at hy
      refine ⟨fn, _, assign, body, hy, roundIn_of_wpIn hfn ?_⟩
      refine hassign _ x W _ ?_
      refine ⟨_, run_beginRound hq.lp (by rw [hrec]), ?_⟩
      have hq2 := hq.put { rec .ready none with state := .busy }
      refine wpIn_mono (hbody _ x _ hq2.re) ?_
      rintro e a3 W3 hp
      cases e with
      | normal =>
        obtain ⟨hx, rfl⟩ := hp
        have h1 := run_endRound (P := Tryz.prog) none hq2.lp
        refine ⟨_, _, h1, Or.inl ⟨hx, rfl, ?_⟩⟩
        have h2 := hq2.put (rec .ready none)
        rw [hrec] at h2 ⊢
        exact h2
      | ret =>
        obtain ⟨hx, rfl⟩ := hp
        have hq3 := hq2.res true
        have h1 := run_endRound (P := Tryz.prog) (some .ret) hq3.lp
        refine ⟨_, _, h1, Or.inr ⟨hx, rfl, ?_⟩⟩
        have h2 := hq3.put (rec .done (some .ret))
        rw [hrec] at h2 ⊢
        exact h2
      | exit id => exact hp.elim
      | goto t => exact hp.elim
      | panic ch => exact hp.elim
      | outgrown => exact hp.elim
    · rintro e W2 ⟨⟨v, rfl⟩, (⟨hb, s', hq⟩ | ⟨hb, s', hq⟩)⟩
      · have h1 := run_endLoop (P := Tryz.prog) hq.lp (by rw [hrec]; simp)
        have h2 := hq.put { rec .ready none with state := .exhausted }
        rw [hrec] at h1 h2
        refine ⟨none, _, h1, hdone _ hb h2.fr h2.re h2.df⟩
      · have h1 := run_endLoop (P := Tryz.prog) hq.lp (by rw [hrec]; simp)
        have h2 := hq.put { rec .done (some .ret) with state := .exhausted }
        rw [hrec] at h1 h2
        refine ⟨some .ret, _, h1, hstop _ hb h2.fr h2.re h2.df⟩

set_option maxRecDepth 100000
theorem long_any (s : ByteArray) (w : World) (hs : s.size < 4294967281) (hM : SomeMax w) :
    Calls Tryz.prog 25 #[.string s] w fun e w' => e = .returned (.bool (longB s.data.toList)) ∧ Fr [] w w' := by
  have HM := Lib.hid hM
  clear hM
  refine (callsIn_wide (n := 3)).1 ?_
  refine callsIn_of_wp_marks Tryz.func25 rfl trivial ?_ rfl
  simp only [Tryz.ntmps25, List.size_toArray, List.length_cons, List.length_nil, Nat.reduceAdd, Nat.reduceSub, Array.replicate_succ, Array.replicate_zero, List.push_toArray, List.append_toArray, List.nil_append, List.cons_append]
  gi_wp2_with (refine ⟨trivial, ?_⟩; gi_at_call 37; refine (callsIn_wide.2 (split_any s _)).mono ?_; rintro e w' ⟨rfl, rfl⟩)
  have f0 : Fr [] w (w.alloc (.cells #[.bool false] 4)) := (Fr.refl _ _).alloc _
  have f1 := f0.alloc (.cells #[.string s] 9)
  have f2 := f1.alloc (.cells #[.string ⟨#[10]⟩] 9)
  have f3 := f2.alloc (.cells #[.int .i64 0] 3)
  refine seq_law (w := w) s hs HM.out (by simp [Act.eval, closB]) (by simp) f3 ?_ ?_ ?_ ?_
    (fun x => { tmps := #[.string s, undef, .pointer (some ⟨w.heap.size, 0, none⟩), .string x, .string s, closB (w.alloc (.cells #[.bool false] 4)), .string x, undef, undef, undef], defers := [] }) ?_ ?_ ?_ ?_
  · exact ((((Fr.refl [] _).alloc _).alloc _).alloc _).heap (heap_alloc_new w _) (by simp)
  · have := heap_alloc_new (w.alloc (.cells #[.bool false] 4)) (.cells #[.string s] 9)
    rw [World.size_alloc] at this
    exact (((Fr.refl [] _).alloc _).alloc _).heap this (by simp)
  · have := heap_alloc_new ((w.alloc (.cells #[.bool false] 4)).alloc (.cells #[.string s] 9)) (.cells #[.string ⟨#[10]⟩] 9)
    simp only [World.size_alloc] at this
    exact ((Fr.refl [] _).alloc _).heap this (by simp)
  · have := heap_alloc_new (((w.alloc (.cells #[.bool false] 4)).alloc (.cells #[.string s] 9)).alloc (.cells #[.string ⟨#[10]⟩] 9)) (.cells #[.int .i64 0] 3)
    simp only [World.size_alloc] at this
    exact this
  · intro l x W K hK
    gi_wp2
    exact hK
  · intro l x W hW
    obtain ⟨c0, y0⟩ := blk1 hW
    clear hW
    by_cases hx : 4000 < x.size
    · gi_wp2
      exact ⟨hx, rfl⟩
    · gi_wp2
      exact ⟨by omega, rfl⟩
  · intro W hb f hre hdf
    obtain ⟨c0, y0⟩ := blk1 hre
    have HRe := Lib.hid hre
    have HDf := Lib.hid hdf
    have HF := Lib.hid f
    clear hre hdf f
    gi_wp2
    have hK' := (KeepsOthers.setCell W ⟨w.heap.size, 0, none⟩ (.bool false)).same _ _ HDf.out rfl
    refine ⟨by simp, .inl ⟨_, _, rfl, run_takeDeferred hK', ?_⟩⟩
    have h5 : ((W.setCell ⟨w.heap.size, 0, none⟩ (.bool false)).putObj (w.heap.size + 4) (.deferred none)).heap[w.heap.size]? = some (.cells #[.bool false] 4) :=
      (World.putObj_heap_other (by omega)).trans (blk_set HRe.out 0 _)
    have hc5 := (blk1 h5).1
    refine ⟨.bool false, ?_, by rw [hb], (HF.out.setFresh (by simp) _).putFresh (by omega) _⟩
    simp [results, Tryz.f25, go_sem, hc5]
  · intro W hb f hre hdf
    have hc := (blk1 hre).1
    have HRe := Lib.hid hre
    have HDf := Lib.hid hdf
    have HF := Lib.hid f
    clear hre hdf f
    gi_wp2
    refine ⟨by simp, .inl ⟨_, _, rfl, run_takeDeferred HDf.out, ?_⟩⟩
    have h5 : (W.putObj (w.heap.size + 4) (.deferred none)).heap[w.heap.size]? = some (.cells #[.bool true] 4) := (World.putObj_heap_other (by omega)).trans HRe.out
    have hc5 := (blk1 h5).1
    refine ⟨.bool true, ?_, by rw [hb], HF.out.putFresh (by omega) _⟩
    simp [results, Tryz.f25, go_sem, hc5]
end Go.Proofs.YtgdneoajmaeckaaGreatDoor
