/- SessionPlays: what its rounds keep; short. No condition. -/
import Derived.Test.YtgdneoajmaeckaaGreatDoorRyb
import Derived.Test.YtgdneoajmaeckaaGreatDoorRyd
import Derived.Test.YtgdneoajmaeckaaGreatDoorOq
namespace Go.Proofs.YtgdneoajmaeckaaGreatDoor
open Go.RowKit

theorem tookS_ok {S : Ss} (h : S.Ok) (n : Int) : ({ S with out := S.out.drop (takeN S n) } : Ss).Ok := by
  obtain ⟨r0, r1, r2, r3⟩ := h
  exact ⟨r0, r1, by simp only [List.length_drop]; omega, r3⟩
theorem waitS_ok {S : Ss} (h : S.Ok) (t : Int) : (waitS S t).Ok := by
  unfold waitS
  split
  · exact ⟨h.r0, h.r1, h.ou, h.ip⟩
  · exact h
theorem lineS_ok {S : Ss} (h : S.Ok) : (lineS S).Ok := by
  unfold lineS
  split
  · exact ⟨h.r0, h.r1, h.ou, Nat.le_trans (ask_len _ _) h.ip⟩
  · exact h
theorem closeS_ok {S : Ss} (h : S.Ok) : ({ S with st := 3, inp := [] } : Ss).Ok := ⟨h.r0, h.r1, h.ou, by simp⟩
theorem ansS_ok {S : Ss} (h : S.Ok) (x : Rp) : (ansS S x).Ok := by
  unfold ansS
  split
  · exact outS_ok h _ _
  · exact h
theorem noteS_ok {S : Ss} (h : S.Ok) (x : Nt) : (noteS S x).Ok := by
  unfold noteS
  split
  · exact outS_ok h _ _
  · exact h
theorem outS_tk (S : Ss) (l : List UInt8) (st : Int) : (outS S l st).tk = S.tk := by
  unfold outS
  split <;> rfl
theorem putS_tk (S : Ss) (l : List UInt8) : (putS S l).tk = S.tk := by
  unfold putS
  split
  · rfl
  · split <;> rfl
theorem lineS_tk (S : Ss) : (lineS S).tk = S.tk := by
  unfold lineS
  split <;> rfl
theorem ansS_tk (S : Ss) (x : Rp) : (ansS S x).tk = S.tk := by
  unfold ansS
  split
  · exact outS_tk _ _ _
  · rfl
theorem noteS_tk (S : Ss) (x : Nt) : (noteS S x).tk = S.tk := by
  unfold noteS
  split
  · exact outS_tk _ _ _
  · rfl
theorem waitS_tk {S : Ss} (h : fits64 S.tk) (t : Int) (ht : fits64 t) : fits64 (waitS S t).tk := by
  unfold waitS
  split
  · exact ht
  · exact h

/-- What the rounds keep: both sessions are alike. -/
structure PlR (w : World) (b q : Nat) (S : Ss) (wr : World) : Prop where
  ok : S.Ok
  tk : fits64 S.tk
  s : SsAt TS wr b S
  r : SsAt TR wr q S
  ne : b ≠ q
  nb : w.heap.size ≤ b
  nr : w.heap.size ≤ q
  fr : Fr [] w wr
theorem PlR.keep {w wr w' : World} {b r : Nat} {S : Ss} (h : PlR w b r S wr) (f : Fr [] wr w') : PlR w b r S w' :=
  ⟨h.ok, h.tk, h.s.fr f (by simp), h.r.fr f (by simp), h.ne, h.nb, h.nr, h.fr.trans f⟩
theorem PlR.step {w wr w1 w2 : World} {b r : Nat} {S S' : Ss} (h : PlR w b r S wr) (s1 : SsAt TS w1 b S') (f1 : Fr [b] wr w1) (s2 : SsAt TR w2 r S') (f2 : Fr [r] w1 w2) (ho : S'.Ok) (ht : fits64 S'.tk) : PlR w b r S' w2 :=
  ⟨ho, ht, s1.fr f2 (by simpa using h.ne), s2, h.ne, h.nb, h.nr, (h.fr.past f1 (by simpa using h.nb)).past f2 (by simpa using h.nr)⟩
theorem PlR.ref {w wr w1 : World} {b r : Nat} {S : Ss} (h : PlR w b r S wr) (f1 : Fr [b] wr w1) : SsAt TR w1 r S := h.r.fr f1 (by simpa using h.ne.symm)

theorem short_any (a : Option Addr) (n c : Nat) (hn : n ≤ c) (w : World) :
    Calls Tryz.prog 6 #[.slice a n c, .int .i64 60] w fun e w' => e = .returned (.slice a (min n 60) c) ∧ w' = w := by
  by_cases h : 60 < n
  · have hi : (60 : Int) < (n : Int) := by omega
    have hc : (60 : Int) ≤ (c : Int) := by omega
    have HM := Lib.hid (show min n 60 = 60 by omega)
    go_enter Tryz.func6, Tryz.ntmps6
    go_wp2_with fail
    go_ret
    exact ⟨by rw [HM.out]; rfl, rfl⟩
  · have hi : (n : Int) ≤ 60 := by omega
    have HM := Lib.hid (show min n 60 = n by omega)
    go_enter Tryz.func6, Tryz.ntmps6
    go_wp2_with fail
    go_ret
    exact ⟨by rw [HM.out]; rfl, rfl⟩

theorem blk17 {w : World} {b : Nat} {x0 x1 x2 x3 x4 x5 x6 x7 x8 x9 x10 x11 x12 x13 x14 x15 x16 : Value} {t : Nat} (h : w.heap[b]? = some (.cells #[x0, x1, x2, x3, x4, x5, x6, x7, x8, x9, x10, x11, x12, x13, x14, x15, x16] t)) :
    w.cell? ⟨b, 0, none⟩ = some x0 ∧ w.cell? ⟨b, 1, none⟩ = some x1 ∧ w.cell? ⟨b, 2, none⟩ = some x2 ∧ w.cell? ⟨b, 3, none⟩ = some x3 ∧ w.cell? ⟨b, 4, none⟩ = some x4 ∧ w.cell? ⟨b, 5, none⟩ = some x5 ∧
      w.cell? ⟨b, 6, none⟩ = some x6 ∧ w.cell? ⟨b, 7, none⟩ = some x7 ∧ w.cell? ⟨b, 8, none⟩ = some x8 ∧ w.cell? ⟨b, 9, none⟩ = some x9 ∧ w.cell? ⟨b, 10, none⟩ = some x10 ∧ w.cell? ⟨b, 11, none⟩ = some x11 ∧
      w.cell? ⟨b, 12, none⟩ = some x12 ∧ w.cell? ⟨b, 13, none⟩ = some x13 ∧ w.cell? ⟨b, 14, none⟩ = some x14 ∧ w.cell? ⟨b, 15, none⟩ = some x15 ∧ w.cell? ⟨b, 16, none⟩ = some x16 ∧ w.frozen? ⟨b, 3, none⟩ = false := by
  simp [World.cell?, World.frozen?, h]

theorem set17 {w : World} {b : Nat} {x0 x1 x2 x3 x4 x5 x6 x7 x8 x9 x10 x11 x12 x13 x14 x15 x16 : Value} {t : Nat} (h : w.heap[b]? = some (.cells #[x0, x1, x2, x3, x4, x5, x6, x7, x8, x9, x10, x11, x12, x13, x14, x15, x16] t)) (v : Value) :
    (w.setCell ⟨b, 3, none⟩ v).heap[b]? = some (.cells #[x0, x1, x2, v, x4, x5, x6, x7, x8, x9, x10, x11, x12, x13, x14, x15, x16] t) := blk_set h 3 v
theorem PlR.put {w wr : World} {b q j : Nat} {S : Ss} (h : PlR w b q S wr) (hb : b ≠ j) (hq : q ≠ j) (hj : w.heap.size ≤ j) (i : Nat) (v : Value) : PlR w b q S (wr.setCell ⟨j, i, none⟩ v) :=
  have f : Fr [j] wr (wr.setCell ⟨j, i, none⟩ v) := (Fr.refl [j] wr).setCell (p := ⟨j, i, none⟩) (by simp) v
  ⟨h.ok, h.tk, h.s.fr f (by simpa using hb), h.r.fr f (by simpa using hq), h.ne, h.nb, h.nr, h.fr.past f (by simpa using hj)⟩
theorem takeN_all {S : Ss} (h : S.Ok) : takeN S 1048576 = S.out.length := by
  obtain ⟨r0, r1, r2, r3⟩ := h
  unfold takeN
  omega
theorem Rp.Ok.ticket {w : World} {x : Rp} (h : x.Ok w) {t : Int} (ht : fits64 t) : ({ x with tk := t } : Rp).Ok w := ⟨ht, h.kind, h.code, h.place, h.time, h.n, h.name, h.cols, h.rows⟩
end Go.Proofs.YtgdneoajmaeckaaGreatDoor
