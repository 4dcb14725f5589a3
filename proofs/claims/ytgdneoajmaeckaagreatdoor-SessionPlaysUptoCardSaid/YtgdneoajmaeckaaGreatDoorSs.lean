/- A session in memory, and its methods but for Put, Line, Answer and Note. No condition but its sizes. -/
import Derived.Test.YtgdneoajmaeckaaGreatDoorLm
import Derived.Test.YtgdneoajmaeckaaGreatDoorFr
import Derived.Test.YtgdneoajmaeckaaGreatDoorProg
import Derived.Lib.Hide
import Derived.WalkKit
import Derived.StillTailTactics
import Derived.Deep.QuietTactic
import Derived.BigQuiet
namespace Go.Proofs.YtgdneoajmaeckaaGreatDoor
open Go.RowKit

theorem Fr.drewN {S : List Nat} {a b : World} (h : Fr S a b) (n : Nat) : Fr S a (b.drewN n) := ⟨h.os, h.tape, h.output, h.size, h.block⟩

structure Ss where
  room : Int
  st : Int
  tk : Int
  inp : List UInt8
  out : List UInt8

/-- A session's block, of a type. -/
def SsAt (T : Nat) (w : World) (b : Nat) (S : Ss) : Prop :=
  w.heap[b]? = some (.cells #[.int .i64 S.room, .int .i64 S.st, .int .i64 S.tk, .string ⟨S.inp.toArray⟩, .string ⟨S.out.toArray⟩] T)

structure Ss.Ok (S : Ss) : Prop where
  r0 : 1 ≤ S.room
  r1 : S.room ≤ 1048576
  ou : (S.out.length : Int) ≤ S.room
  ip : S.inp.length ≤ 16000

theorem blk5 {w : World} {b : Nat} {x y z u v : Value} {t : Nat} (h : w.heap[b]? = some (.cells #[x, y, z, u, v] t)) :
    w.cell? ⟨b, 0, none⟩ = some x ∧ w.cell? ⟨b, 1, none⟩ = some y ∧ w.cell? ⟨b, 2, none⟩ = some z ∧ w.cell? ⟨b, 3, none⟩ = some u ∧ w.cell? ⟨b, 4, none⟩ = some v ∧
      w.frozen? ⟨b, 0, none⟩ = false ∧ w.frozen? ⟨b, 1, none⟩ = false ∧ w.frozen? ⟨b, 2, none⟩ = false ∧ w.frozen? ⟨b, 3, none⟩ = false ∧ w.frozen? ⟨b, 4, none⟩ = false := by
  simp [World.cell?, World.frozen?, h]

theorem blk_set {w : World} {b : Nat} {cs : Array Value} {t : Nat} (h : w.heap[b]? = some (.cells cs t)) (i : Nat) (v : Value) :
    (w.setCell ⟨b, i, none⟩ v).heap[b]? = some (.cells (cs.setIfInBounds i v) t) := by
  simp [World.setCell, Array.getElem?_modify, h]

theorem SsAt.fr {T b : Nat} {w w' : World} {S : Ss} {L : List Nat} (h : SsAt T w b S) (f : Fr L w w') (hb : b ∉ L) : SsAt T w' b S := f.heap h hb
theorem SsAt.lt {T b : Nat} {w : World} {S : Ss} (h : SsAt T w b S) : b < w.heap.size := (Array.getElem?_eq_some_iff.1 h).1
theorem SsAt.set1 {T b : Nat} {w : World} {S : Ss} (h : SsAt T w b S) (x : Int) : SsAt T (w.setCell ⟨b, 1, none⟩ (.int .i64 x)) b { S with st := x } := blk_set h 1 _
theorem SsAt.set2 {T b : Nat} {w : World} {S : Ss} (h : SsAt T w b S) (x : Int) : SsAt T (w.setCell ⟨b, 2, none⟩ (.int .i64 x)) b { S with tk := x } := blk_set h 2 _
theorem SsAt.set3 {T b : Nat} {w : World} {S : Ss} (h : SsAt T w b S) (x : List UInt8) : SsAt T (w.setCell ⟨b, 3, none⟩ (.string ⟨x.toArray⟩)) b { S with inp := x } := blk_set h 3 _
theorem SsAt.set4 {T b : Nat} {w : World} {S : Ss} (h : SsAt T w b S) (x : List UInt8) : SsAt T (w.setCell ⟨b, 4, none⟩ (.string ⟨x.toArray⟩)) b { S with out := x } := blk_set h 4 _
theorem SsAt.drew {T b : Nat} {w : World} {S : Ss} (h : SsAt T w b S) : SsAt T w.drew b S := h

theorem size_mk (l : List UInt8) : (⟨l.toArray⟩ : ByteArray).size = l.length := by simp [ByteArray.size]

abbrev TS : Nat := 53

theorem cut_tail (l : List UInt8) (k : Nat) (h : k ≤ l.length) (wx : World) :
    (Instr.slice 9 (.string ⟨l.toArray⟩) (some (.int .i64 (k : Int))) none none).run Tryz.prog wx = .ok (.string ⟨(l.drop k).toArray⟩) wx := by
  have := run_slice_string_l (P := Tryz.prog) (w := wx) 9 ⟨l.toArray⟩ Tryz.underlying9 .i64 (k : Int) (by omega) (by rw [size_mk]; omega)
  rw [this]
  have h2 : (⟨l.toArray⟩ : ByteArray).extract ((k : Int)).toNat (⟨l.toArray⟩ : ByteArray).size = ⟨(l.drop k).toArray⟩ := by
    apply ByteArray.ext
    rw [ByteArray.data_extract, size_mk]
    apply Array.toList_inj.1
    simp
    exact List.take_of_length_le (by simp)
  rw [h2]
theorem cut_head (l : List UInt8) (k : Nat) (h : k ≤ l.length) (wx : World) :
    (Instr.slice 9 (.string ⟨l.toArray⟩) none (some (.int .i64 (k : Int))) none).run Tryz.prog wx = .ok (.string ⟨(l.take k).toArray⟩) wx := by
  have := run_slice_string_h (P := Tryz.prog) (w := wx) 9 ⟨l.toArray⟩ Tryz.underlying9 .i64 (k : Int) (by omega) (by rw [size_mk]; omega)
  rw [this]
  have h2 : (⟨l.toArray⟩ : ByteArray).extract 0 ((k : Int)).toNat = ⟨(l.take k).toArray⟩ := by
    apply ByteArray.ext
    rw [ByteArray.data_extract]
    apply Array.toList_inj.1
    simp
  rw [h2]

theorem bytes_all (l : List UInt8) : (⟨l.toArray⟩ : ByteArray).extract 0 l.length = ⟨l.toArray⟩ := by
  apply ByteArray.ext
  rw [ByteArray.data_extract]
  apply Array.toList_inj.1
  simp

def NewR (room : Int) (w : World) (e : Ending) (w' : World) : Prop :=
  (1 ≤ room ∧ room ≤ 1048576 ∧ ∃ b, e = .returned (.tuple #[.pointer (some ⟨b, 0, none⟩), .int .i64 0]) ∧ SsAt TS w' b ⟨room, 0, 0, [], []⟩ ∧ w.heap.size ≤ b ∧ Fr [] w w') ∨
  ((room < 1 ∨ 1048576 < room) ∧ e = .returned (.tuple #[.pointer none, .int .i64 1]) ∧ Fr [] w w')

theorem new_any (room : Int) (w : World) : Calls Tryz.prog 4 #[.int .i64 room] w (NewR room w) := by
  rcases Int.lt_or_le room 1 with h | h
  · go_enter Tryz.func4, Tryz.ntmps4
    go_wp2_with fail
    go_ret2
    exact Or.inr ⟨Or.inl h, rfl, Fr.refl _ _⟩
  · rcases Int.lt_or_le 1048576 room with h2 | h2
    · go_enter Tryz.func4, Tryz.ntmps4
      go_wp2_with fail
      go_ret2
      exact Or.inr ⟨Or.inr h2, rfl, Fr.refl _ _⟩
    · go_enter Tryz.func4, Tryz.ntmps4
      go_wp2_with fail
      go_ret2
      exact Or.inl ⟨h, h2, _, rfl, heap_alloc_new w _, Nat.le_refl _, (Fr.refl _ _).alloc _⟩

theorem new_yes (room : Int) (w : World) (h1 : 1 ≤ room) (h2 : room ≤ 1048576) :
    Calls Tryz.prog 4 #[.int .i64 room] w fun e w' => (∃ b, e = .returned (.tuple #[.pointer (some ⟨b, 0, none⟩), .int .i64 0]) ∧ SsAt TS w' b ⟨room, 0, 0, [], []⟩ ∧ w.heap.size ≤ b) ∧ Fr [] w w' :=
  (new_any room w).mono fun e w' h => by
    rcases h with ⟨-, -, b, h3, h4, h5, h6⟩ | ⟨h3, -⟩
    · exact ⟨⟨b, h3, h4, h5⟩, h6⟩
    · omega
theorem new_no (room : Int) (w : World) (h : room < 1 ∨ 1048576 < room) :
    Calls Tryz.prog 4 #[.int .i64 room] w fun e w' => e = .returned (.tuple #[.pointer none, .int .i64 1]) ∧ Fr [] w w' :=
  (new_any room w).mono fun e w' h => by
    rcases h with ⟨h1, h2, -⟩ | ⟨-, h3, h4⟩
    · omega
    · exact ⟨h3, h4⟩

theorem close_any {w : World} {b : Nat} {S : Ss} (h : SsAt TS w b S) :
    Calls Tryz.prog 19 #[.pointer (some ⟨b, 0, none⟩)] w fun e w' => e = .returned (.tuple #[]) ∧ SsAt TS w' b { S with st := 3, inp := [] } ∧ Fr [b] w w' := by
  obtain ⟨c0, c1, c2, c3, c4, y0, y1, y2, y3, y4⟩ := blk5 h
  have H := Lib.hid h
  clear h
  go_enter Tryz.func19, Tryz.ntmps19
  go_wp2_with fail
  go_end0
  exact ⟨rfl, (H.out.set1 3).set3 [], ((Fr.refl [b] w).setCell (p := ⟨b, 1, none⟩) (by simp) _).setCell (p := ⟨b, 3, none⟩) (by simp) _⟩

theorem state_any {w : World} {b : Nat} {S : Ss} (h : SsAt TS w b S) :
    Calls Tryz.prog 21 #[.pointer (some ⟨b, 0, none⟩)] w fun e w' => e = .returned (.int .i64 S.st) ∧ w' = w := by
  obtain ⟨c0, c1, c2, c3, c4, y0, y1, y2, y3, y4⟩ := blk5 h
  clear h
  go_enter Tryz.func21, Tryz.ntmps21
  go_wp2_with fail
  go_ret
  exact ⟨rfl, rfl⟩

def tickB (S : Ss) : Int := if S.st = 1 then S.tk else 0

theorem ticket_any {w : World} {b : Nat} {S : Ss} (h : SsAt TS w b S) :
    Calls Tryz.prog 22 #[.pointer (some ⟨b, 0, none⟩)] w fun e w' => e = .returned (.int .i64 (tickB S)) ∧ w' = w := by
  obtain ⟨c0, c1, c2, c3, c4, y0, y1, y2, y3, y4⟩ := blk5 h
  clear h
  by_cases hs : S.st = 1
  · have HT := Lib.hid (show tickB S = S.tk from if_pos hs)
    rw [hs] at c1
    clear hs
    go_enter Tryz.func22, Tryz.ntmps22
    go_wp2_with fail
    go_ret
    exact ⟨by rw [HT.out]; rfl, rfl⟩
  · have HT := Lib.hid (show tickB S = 0 from if_neg hs)
    have h1 : (S.st != 1) = true := by simpa using hs
    have h2 : (S.st == 1) = false := by simpa using hs
    clear hs
    go_enter Tryz.func22, Tryz.ntmps22
    go_wp2_with fail
    go_ret
    exact ⟨by rw [HT.out]; rfl, rfl⟩

theorem room_any {w : World} {b : Nat} {S : Ss} (h : SsAt TS w b S) (ho : S.Ok) :
    Calls Tryz.prog 24 #[.pointer (some ⟨b, 0, none⟩)] w fun e w' => e = .returned (.int .i64 (S.room - (S.out.length : Int))) ∧ Fr [] w w' := by
  obtain ⟨c0, c1, c2, c3, c4, y0, y1, y2, y3, y4⟩ := blk5 h
  obtain ⟨r0, r1, r2, -⟩ := ho
  have hsz := size_mk S.out
  generalize (⟨S.out.toArray⟩ : ByteArray) = o at *
  have HS := Lib.hid hsz
  have hw : IntKind.i64.wrap (S.room - (o.size : Int)) = S.room - (o.size : Int) := by rw [IntKind.wrap_i64]; omega
  clear h hsz
  go_enter Tryz.func24, Tryz.ntmps24
  go_wp2_with fail
  go_quiet (fail)
  go_wp2_with fail
  go_ret
  exact ⟨by rw [HS.out]; rfl, (Fr.refl [] w).drewN _⟩

def whyB (S : Ss) (st : Int) : Int := if S.st = st then 0 else if S.st = 3 then 201 else 210

theorem asked_any {w : World} {b : Nat} {S : Ss} (h : SsAt TS w b S) (st : Int) :
    Calls Tryz.prog 29 #[.pointer (some ⟨b, 0, none⟩), .int .i64 st] w fun e w' => e = .returned (.int .i64 (whyB S st)) ∧ w' = w := by
  obtain ⟨c0, c1, c2, c3, c4, y0, y1, y2, y3, y4⟩ := blk5 h
  clear h
  by_cases hs : S.st = st
  · have HT := Lib.hid (show whyB S st = 0 from if_pos hs)
    subst hs
    go_enter Tryz.func29, Tryz.ntmps29
    go_wp2_with fail
    go_ret
    exact ⟨by rw [HT.out]; rfl, rfl⟩
  · have h2 : (S.st == st) = false := by simpa using hs
    by_cases h3 : S.st = 3
    · have HT := Lib.hid (show whyB S st = 201 by rw [whyB, if_neg hs, if_pos h3])
      rw [h3] at c1 h2
      clear hs h3
      go_enter Tryz.func29, Tryz.ntmps29
      go_wp2_with fail
      go_ret
      exact ⟨by rw [HT.out]; rfl, rfl⟩
    · have HT := Lib.hid (show whyB S st = 210 by rw [whyB, if_neg hs, if_neg h3])
      have h4 : (S.st == 3) = false := by simpa using h3
      clear hs h3
      go_enter Tryz.func29, Tryz.ntmps29
      go_wp2_with fail
      go_ret
      exact ⟨by rw [HT.out]; rfl, rfl⟩

def waitS (S : Ss) (t : Int) : Ss := if whyB S 0 = 0 then { S with st := 1, tk := t } else S

theorem wait_any {w : World} {b : Nat} {S : Ss} (h : SsAt TS w b S) (t : Int) :
    Calls Tryz.prog 13 #[.pointer (some ⟨b, 0, none⟩), .int .i64 t] w fun e w' => e = .returned (.int .i64 (whyB S 0)) ∧ SsAt TS w' b (waitS S t) ∧ Fr [b] w w' := by
  obtain ⟨c0, c1, c2, c3, c4, y0, y1, y2, y3, y4⟩ := blk5 h
  have ha := asked_any h 0
  by_cases hz : whyB S 0 = 0
  · have HW := Lib.hid (show waitS S t = { S with st := 1, tk := t } from if_pos hz)
    have HZ := Lib.hid hz
    rw [hz] at ha
    have H := Lib.hid h
    clear h hz
    go_enter Tryz.func13, Tryz.ntmps13
    go_wp2_with (go_at_call 29; refine ha.mono ?_; rintro e w1 ⟨rfl, rfl⟩)
    go_ret
    refine ⟨by rw [HZ.out]; rfl, ?_, ((Fr.refl [b] _).setCell (p := ⟨b, 1, none⟩) (by simp) _).setCell (p := ⟨b, 2, none⟩) (by simp) _⟩
    rw [HW.out]
    exact (H.out.set1 1).set2 t
  · have HW := Lib.hid (show waitS S t = S from if_neg hz)
    have h1 : (whyB S 0 != 0) = true := by simpa using hz
    generalize whyB S 0 = z at *
    have H := Lib.hid h
    clear h hz
    go_enter Tryz.func13, Tryz.ntmps13
    go_wp2_with (go_at_call 29; refine ha.mono ?_; rintro e w1 ⟨rfl, rfl⟩)
    go_ret
    refine ⟨rfl, ?_, Fr.refl _ _⟩
    rw [HW.out]
    exact H.out

/-- How many bytes a Take takes. -/
def takeN (S : Ss) (n : Int) : Nat := (min (max n 0) (S.out.length : Int)).toNat

theorem take_any {w : World} {b : Nat} {S : Ss} (h : SsAt TS w b S) (ho : S.Ok) (n : Int) :
    Calls Tryz.prog 11 #[.pointer (some ⟨b, 0, none⟩), .int .i64 n] w fun e w' =>
      e = .returned (.string ⟨(S.out.take (takeN S n)).toArray⟩) ∧ SsAt TS w' b { S with out := S.out.drop (takeN S n) } ∧ Fr [b] w w' := by
  obtain ⟨c0, c1, c2, c3, c4, y0, y1, y2, y3, y4⟩ := blk5 h
  have H := Lib.hid h
  obtain ⟨r0, r1, r2, -⟩ := ho
  have hsz := size_mk S.out
  rcases Int.lt_or_le n 0 with hn | hn
  · have HN := Lib.hid (show takeN S n = 0 by unfold takeN; omega)
    have hn0 : n ≤ 0 := by omega
    have hx : ∀ wx, (Instr.slice 9 (.string ⟨S.out.toArray⟩) none (some (.int .i64 0)) none).run Tryz.prog wx = .ok (.string ⟨(S.out.take 0).toArray⟩) wx := fun wx => cut_head S.out 0 (by omega) wx
    have hy : ∀ wx, (Instr.slice 9 (.string ⟨S.out.toArray⟩) (some (.int .i64 0)) none none).run Tryz.prog wx = .ok (.string ⟨(S.out.drop 0).toArray⟩) wx := fun wx => cut_tail S.out 0 (by omega) wx
    clear h
    go_enter Tryz.func11, Tryz.ntmps11
    go_wp2_with fail
    go_ret
    rw [HN.out]
    refine ⟨rfl, ?_, (Fr.refl [b] w).setCell (p := ⟨b, 4, none⟩) (by simp) _⟩
    exact H.out.set4 S.out
  · obtain ⟨k, rfl⟩ : ∃ k : Nat, n = (k : Int) := ⟨n.toNat, by omega⟩
    rcases Nat.lt_or_ge S.out.length k with hk | hk
    · have HN := Lib.hid (show takeN S (k : Int) = S.out.length by unfold takeN; omega)
      have HX := Lib.hid (bytes_all S.out)
      have HT := Lib.hid (show S.out.take S.out.length = S.out from List.take_length)
      have HD := Lib.hid (show S.out.drop S.out.length = [] from List.drop_length)
      have hk2 : (S.out.length : Int) < (k : Int) := by omega
      clear h
      go_enter Tryz.func11, Tryz.ntmps11
      go_wp2_with fail
      go_ret
      rw [HN.out, HT.out, HD.out]
      refine ⟨?_, H.out.set4 [], (Fr.refl [b] w).setCell (p := ⟨b, 4, none⟩) (by simp) _⟩
      exact congrArg (fun z => Ending.returned (Value.string z)) HX.out
    · have HN := Lib.hid (show takeN S (k : Int) = k by unfold takeN; omega)
      have hx : ∀ wx, (Instr.slice 9 (.string ⟨S.out.toArray⟩) none (some (.int .i64 (k : Int))) none).run Tryz.prog wx = .ok (.string ⟨(S.out.take k).toArray⟩) wx := fun wx => cut_head S.out k (by omega) wx
      have hy : ∀ wx, (Instr.slice 9 (.string ⟨S.out.toArray⟩) (some (.int .i64 (k : Int))) none none).run Tryz.prog wx = .ok (.string ⟨(S.out.drop k).toArray⟩) wx := fun wx => cut_tail S.out k (by omega) wx
      have hk2 : (k : Int) ≤ (S.out.length : Int) := by omega
      clear h
      go_enter Tryz.func11, Tryz.ntmps11
      go_wp2_with fail
      go_ret
      rw [HN.out]
      exact ⟨rfl, H.out.set4 _, (Fr.refl [b] w).setCell (p := ⟨b, 4, none⟩) (by simp) _⟩
end Go.Proofs.YtgdneoajmaeckaaGreatDoor
