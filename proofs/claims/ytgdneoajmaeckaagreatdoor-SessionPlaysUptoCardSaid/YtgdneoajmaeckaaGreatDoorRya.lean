/- The reference's session: its short methods. No condition but its sizes. -/
import Derived.Test.YtgdneoajmaeckaaGreatDoorNu
namespace Go.Proofs.YtgdneoajmaeckaaGreatDoor
open Go.RowKit

abbrev TR : Nat := 47

theorem rnew_yes (room : Int) (w : World) (h1 : 1 ≤ room) (h2 : room ≤ 1048576) :
    Calls Tryz.prog 5 #[.int .i64 room] w fun e w' => (∃ b, e = .returned (.tuple #[.pointer (some ⟨b, 0, none⟩), .bool true]) ∧ SsAt TR w' b ⟨room, 0, 0, [], []⟩ ∧ w.heap.size ≤ b) ∧ Fr [] w w' := by
  go_enter Tryz.func5, Tryz.ntmps5
  go_wp2_with fail
  go_ret2
  exact ⟨⟨_, rfl, heap_alloc_new w _, Nat.le_refl _⟩, (Fr.refl _ _).alloc _⟩
theorem rnew_no (room : Int) (w : World) (h : room < 1 ∨ 1048576 < room) :
    Calls Tryz.prog 5 #[.int .i64 room] w fun e w' => (∃ b, e = .returned (.tuple #[.pointer (some ⟨b, 0, none⟩), .bool false])) ∧ Fr [] w w' := by
  rcases Int.lt_or_le room 1 with h1 | h1
  · clear h
    go_enter Tryz.func5, Tryz.ntmps5
    go_wp2_with fail
    go_ret2
    exact ⟨⟨_, rfl⟩, (Fr.refl _ _).alloc _⟩
  · have HD := Lib.hid (show decide (room ≤ 1048576) = false from decide_eq_false (by omega))
    clear h
    go_enter Tryz.func5, Tryz.ntmps5
    go_wp2_with fail
    go_ret2
    exact ⟨⟨w.heap.size, show Ending.returned (.tuple #[.pointer (some ⟨w.heap.size, 0, none⟩), .bool (decide (room ≤ 1048576))]) = _ by rw [HD.out]⟩, (Fr.refl _ _).alloc _⟩

theorem rclose_any {w : World} {b : Nat} {S : Ss} (h : SsAt TR w b S) :
    Calls Tryz.prog 20 #[.pointer (some ⟨b, 0, none⟩)] w fun e w' => e = .returned (.tuple #[]) ∧ SsAt TR w' b { S with st := 3, inp := [] } ∧ Fr [b] w w' := by
  obtain ⟨c0, c1, c2, c3, c4, y0, y1, y2, y3, y4⟩ := blk5 h
  have H := Lib.hid h
  clear h
  go_enter Tryz.func20, Tryz.ntmps20
  go_wp2_with fail
  go_end0
  exact ⟨rfl, (H.out.set1 3).set3 [], ((Fr.refl [b] w).setCell (p := ⟨b, 1, none⟩) (by simp) _).setCell (p := ⟨b, 3, none⟩) (by simp) _⟩

theorem rticket_any {w : World} {b : Nat} {S : Ss} (h : SsAt TR w b S) :
    Calls Tryz.prog 23 #[.pointer (some ⟨b, 0, none⟩)] w fun e w' => e = .returned (.int .i64 (tickB S)) ∧ w' = w := by
  obtain ⟨c0, c1, c2, c3, c4, y0, y1, y2, y3, y4⟩ := blk5 h
  clear h
  by_cases hs : S.st = 1
  · have HT := Lib.hid (show tickB S = S.tk from if_pos hs)
    rw [hs] at c1
    clear hs
    go_enter Tryz.func23, Tryz.ntmps23
    go_wp2_with fail
    go_ret
    exact ⟨by rw [HT.out]; rfl, rfl⟩
  · have HT := Lib.hid (show tickB S = 0 from if_neg hs)
    have h1 : (S.st != 1) = true := by simpa using hs
    have h2 : (S.st == 1) = false := by simpa using hs
    clear hs
    go_enter Tryz.func23, Tryz.ntmps23
    go_wp2_with fail
    go_ret
    exact ⟨by rw [HT.out]; rfl, rfl⟩

theorem rwhy_any {w : World} {b : Nat} {S : Ss} (h : SsAt TR w b S) (st : Int) (hst3 : st ≠ 3) :
    Calls Tryz.prog 30 #[.pointer (some ⟨b, 0, none⟩), .int .i64 st] w fun e w' => e = .returned (.int .i64 (whyB S st)) ∧ w' = w := by
  obtain ⟨c0, c1, c2, c3, c4, y0, y1, y2, y3, y4⟩ := blk5 h
  clear h
  by_cases h3 : S.st = 3
  · have HT := Lib.hid (show whyB S st = 201 by rw [whyB, if_neg (by omega), if_pos h3])
    rw [h3] at c1
    clear h3 hst3
    go_enter Tryz.func30, Tryz.ntmps30
    go_wp2_with fail
    go_ret
    exact ⟨by rw [HT.out]; rfl, rfl⟩
  · have h4 : (S.st == 3) = false := by simpa using h3
    by_cases hs : S.st = st
    · have HT := Lib.hid (show whyB S st = 0 from if_pos hs)
      subst hs
      clear h3 hst3
      go_enter Tryz.func30, Tryz.ntmps30
      go_wp2_with fail
      go_ret
      exact ⟨by rw [HT.out]; rfl, rfl⟩
    · have HT := Lib.hid (show whyB S st = 210 by rw [whyB, if_neg hs, if_neg h3])
      have h2 : (S.st == st) = false := by simpa using hs
      have h1 : (S.st != st) = true := by simpa using hs
      clear hs h3 hst3
      go_enter Tryz.func30, Tryz.ntmps30
      go_wp2_with fail
      go_ret
      exact ⟨by rw [HT.out]; rfl, rfl⟩

theorem rwait_any {w : World} {b : Nat} {S : Ss} (h : SsAt TR w b S) (t : Int) :
    Calls Tryz.prog 14 #[.pointer (some ⟨b, 0, none⟩), .int .i64 t] w fun e w' => e = .returned (.int .i64 (whyB S 0)) ∧ SsAt TR w' b (waitS S t) ∧ Fr [b] w w' := by
  obtain ⟨c0, c1, c2, c3, c4, y0, y1, y2, y3, y4⟩ := blk5 h
  have ha := rwhy_any h 0 (by decide)
  by_cases hz : whyB S 0 = 0
  · have HW := Lib.hid (show waitS S t = { S with st := 1, tk := t } from if_pos hz)
    have HZ := Lib.hid hz
    rw [hz] at ha
    have H := Lib.hid h
    clear h hz
    go_enter Tryz.func14, Tryz.ntmps14
    go_wp2_with (go_at_call 30; refine ha.mono ?_; rintro e w1 ⟨rfl, rfl⟩)
    go_ret
    refine ⟨by rw [HZ.out]; rfl, ?_, ((Fr.refl [b] _).setCell (p := ⟨b, 1, none⟩) (by simp) _).setCell (p := ⟨b, 2, none⟩) (by simp) _⟩
    rw [HW.out]
    exact (H.out.set1 1).set2 t
  · have HW := Lib.hid (show waitS S t = S from if_neg hz)
    have h1 : (whyB S 0 != 0) = true := by simpa using hz
    have h2 : (whyB S 0 == 0) = false := by simpa using hz
    generalize whyB S 0 = z at *
    have H := Lib.hid h
    clear h hz
    go_enter Tryz.func14, Tryz.ntmps14
    go_wp2_with (go_at_call 30; refine ha.mono ?_; rintro e w1 ⟨rfl, rfl⟩)
    go_ret
    refine ⟨rfl, ?_, Fr.refl _ _⟩
    rw [HW.out]
    exact H.out

theorem rtake_any {w : World} {b : Nat} {S : Ss} (h : SsAt TR w b S) (ho : S.Ok) (n : Int) :
    Calls Tryz.prog 12 #[.pointer (some ⟨b, 0, none⟩), .int .i64 n] w fun e w' =>
      e = .returned (.string ⟨(S.out.take (takeN S n)).toArray⟩) ∧ SsAt TR w' b { S with out := S.out.drop (takeN S n) } ∧ Fr [b] w w' := by
  obtain ⟨c0, c1, c2, c3, c4, y0, y1, y2, y3, y4⟩ := blk5 h
  have H := Lib.hid h
  obtain ⟨r0, r1, r2, -⟩ := ho
  have hsz := size_mk S.out
  rcases Int.lt_or_le n 0 with hn | hn
  · have HN := Lib.hid (show takeN S n = 0 by unfold takeN; omega)
    have hx : ∀ wx, (Instr.slice 9 (.string ⟨S.out.toArray⟩) none (some (.int .i64 0)) none).run Tryz.prog wx = .ok (.string ⟨(S.out.take 0).toArray⟩) wx := fun wx => cut_head S.out 0 (by omega) wx
    have hy : ∀ wx, (Instr.slice 9 (.string ⟨S.out.toArray⟩) (some (.int .i64 0)) none none).run Tryz.prog wx = .ok (.string ⟨(S.out.drop 0).toArray⟩) wx := fun wx => cut_tail S.out 0 (by omega) wx
    clear h
    go_enter Tryz.func12, Tryz.ntmps12
    go_wp2_with fail
    go_ret
    rw [HN.out]
    refine ⟨rfl, ?_, (Fr.refl [b] w).setCell (p := ⟨b, 4, none⟩) (by simp) _⟩
    exact H.out.set4 S.out
  · obtain ⟨k, rfl⟩ : ∃ k : Nat, n = (k : Int) := ⟨n.toNat, by omega⟩
    rcases Nat.lt_or_ge S.out.length k with hk | hk
    · have HN := Lib.hid (show takeN S (k : Int) = S.out.length by unfold takeN; omega)
      have HX := Lib.hid (bytes_all S.out)
      have HT := Lib.hid (show S.out.take S.out.length = S.out from List.take_length)
      have HD := Lib.hid (show S.out.drop S.out.length = [] from List.drop_length)
      have hk2 : (S.out.length : Int) < (k : Int) := by omega
      clear h
      go_enter Tryz.func12, Tryz.ntmps12
      go_wp2_with fail
      go_ret
      rw [HN.out, HT.out, HD.out]
      refine ⟨?_, H.out.set4 [], (Fr.refl [b] w).setCell (p := ⟨b, 4, none⟩) (by simp) _⟩
      exact congrArg (fun z => Ending.returned (Value.string z)) HX.out
    · have HN := Lib.hid (show takeN S (k : Int) = k by unfold takeN; omega)
      have hx : ∀ wx, (Instr.slice 9 (.string ⟨S.out.toArray⟩) none (some (.int .i64 (k : Int))) none).run Tryz.prog wx = .ok (.string ⟨(S.out.take k).toArray⟩) wx := fun wx => cut_head S.out k (by omega) wx
      have hy : ∀ wx, (Instr.slice 9 (.string ⟨S.out.toArray⟩) (some (.int .i64 (k : Int))) none none).run Tryz.prog wx = .ok (.string ⟨(S.out.drop k).toArray⟩) wx := fun wx => cut_tail S.out k (by omega) wx
      have hk2 : (k : Int) ≤ (S.out.length : Int) := by omega
      clear h
      go_enter Tryz.func12, Tryz.ntmps12
      go_wp2_with fail
      go_ret
      rw [HN.out]
      exact ⟨rfl, H.out.set4 _, (Fr.refl [b] w).setCell (p := ⟨b, 4, none⟩) (by simp) _⟩

set_option maxRecDepth 100000
set_option maxHeartbeats 1600000 in
theorem rout_any {w : World} {b : Nat} {S : Ss} (h : SsAt TR w b S) (ho : S.Ok) (l : List UInt8) (st : Int) :
    Calls Tryz.prog 33 #[.pointer (some ⟨b, 0, none⟩), .string ⟨l.toArray⟩, .int .i64 st] w fun e w' => e = .returned (.int .i64 (outE S l)) ∧ SsAt TR w' b (outS S l st) ∧ Fr [b] w w' := by
  obtain ⟨c0, c1, c2, c3, c4, y0, y1, y2, y3, y4⟩ := blk5 h
  have H := Lib.hid h
  obtain ⟨r0, r1, r2, -⟩ := ho
  have hsz := size_mk S.out
  have hsl := size_mk l
  have hw : IntKind.i64.wrap (S.room - (S.out.length : Int)) = S.room - (S.out.length : Int) := by rw [IntKind.wrap_i64]; omega
  by_cases hn : l = []
  · have HE := Lib.hid (show outE S l = 1 from if_pos hn)
    have HP := Lib.hid (show outS S l st = S by rw [outS, if_neg (by rw [HE.out]; decide)])
    have t2 : (⟨l.toArray⟩ : ByteArray).toList = [] := by rw [ByteArray.toList_eq]; exact hn
    have t4 : ((⟨l.toArray⟩ : ByteArray).toList == []) = true := by simpa using t2
    have t1 : (⟨l.toArray⟩ : ByteArray).toList.isEmpty = true := by simpa using t2
    clear h hn hsl
    generalize (⟨l.toArray⟩ : ByteArray) = T at *
    go_enter Tryz.func33, Tryz.ntmps33
    go_wp2_with fail
    go_ret
    exact ⟨by rw [HE.out]; rfl, by rw [HP.out]; exact H.out, Fr.refl _ _⟩
  · have t2 : ¬ (⟨l.toArray⟩ : ByteArray).toList = [] := by rw [ByteArray.toList_eq]; exact hn
    have t4 : ((⟨l.toArray⟩ : ByteArray).toList == []) = false := by simpa using t2
    have t1 : (⟨l.toArray⟩ : ByteArray).toList.isEmpty = false := by simpa using t2
    by_cases hb : S.room - (S.out.length : Int) < (l.length : Int)
    · have HE := Lib.hid (show outE S l = 2 by rw [outE, if_neg hn, if_pos hb])
      have HP := Lib.hid (show outS S l st = S by rw [outS, if_neg (by rw [HE.out]; decide)])
      clear h hn
      generalize hT : (⟨l.toArray⟩ : ByteArray) = T at *
      generalize hO : (⟨S.out.toArray⟩ : ByteArray) = O at *
      clear hT hO
      rw [← hsl, ← hsz] at hb
      rw [← hsz] at hw
      go_enter Tryz.func33, Tryz.ntmps33
      go_wp2_with fail
      go_quiet (fail)
      go_wp2_with fail
      go_ret
      exact ⟨by rw [HE.out]; rfl, by rw [HP.out]; exact H.out.fr ((Fr.refl [] w).drewN _) (by simp), (Fr.refl _ _).drewN _⟩
    · have HE := Lib.hid (show outE S l = 0 by rw [outE, if_neg hn, if_neg hb])
      have HP := Lib.hid (show outS S l st = { S with out := S.out ++ l, st := st } by rw [outS, if_pos HE.out])
      have hc := cat S.out l
      have hsm : S.out.length + l.length ≤ 1048576 := by omega
      have HN := Lib.hid (fun (w1 : World) (hs : SsAt TR w1 b S) => (hs.set4 (S.out ++ l)).set1 st)
      have hb2 : (l.length : Int) ≤ S.room - (S.out.length : Int) := by omega
      have hsc : (⟨(S.out ++ l).toArray⟩ : ByteArray).size ≤ 1048576 := by rw [size_mk, List.length_append]; exact hsm
      rw [← hsl, ← hsz] at hb2
      rw [← hsz] at hw
      rw [← hsz, ← hsl] at hsm
      clear h hn hb hsl
      generalize (⟨(S.out ++ l).toArray⟩ : ByteArray) = U at *
      generalize (⟨l.toArray⟩ : ByteArray) = T at *
      generalize (⟨S.out.toArray⟩ : ByteArray) = O at *
      go_enter Tryz.func33, Tryz.ntmps33
      go_wp2_with fail
      go_quiet (fail)
      go_wp2_with fail
      go_ret
      exact ⟨by rw [HE.out]; rfl, by rw [HP.out]; exact HN.out _ (H.out.fr ((Fr.refl [] w).drewN _) (by simp)), (((Fr.refl [b] w).drewN _).setCell (p := ⟨b, 4, none⟩) (by simp) _).setCell (p := ⟨b, 1, none⟩) (by simp) _⟩
end Go.Proofs.YtgdneoajmaeckaaGreatDoor
