/- freshetlaw21.known: what is fixed of a new session. No condition but that the variable MaxLen lies. -/
import Derived.Test.YtgdneoajmaeckaaDoorSl
namespace Go.Proofs.YtgdneoajmaeckaaDoor
open Go.RowKit

theorem SomeMax.lt {w : World} (h : SomeMax w) : 0 < w.heap.size := by
  obtain ⟨m, h⟩ := h
  exact World.block_lt_of_cell? w _ h
theorem SomeMax.past {w w' : World} {L : List Nat} (h : SomeMax w) (f : Fr L w w') (hL : 0 ∉ L) : SomeMax w' := by
  obtain ⟨m, h⟩ := h
  exact ⟨m, f.cell h hL⟩

def kIn : List UInt8 := [32, 10, 120, 10]
theorem kPut (r : Int) : putE ⟨r, 0, 0, [], []⟩ kIn = 0 ∧ putS ⟨r, 0, 0, [], []⟩ kIn = ⟨r, 0, 0, kIn, []⟩ := ⟨rfl, rfl⟩
theorem kLine (r : Int) : lineO ⟨r, 0, 0, kIn, []⟩ = some [120] ∧ lineS ⟨r, 0, 0, kIn, []⟩ = ⟨r, 0, 0, [], []⟩ := ⟨rfl, rfl⟩
theorem kWait (r : Int) : whyB ⟨r, 0, 0, [], []⟩ 0 = 0 ∧ waitS ⟨r, 0, 0, [], []⟩ 1 = ⟨r, 1, 1, [], []⟩ := ⟨rfl, rfl⟩

theorem known_any (w : World) (hM : SomeMax w) : Calls Tryd.prog 10 #[] w fun e w' => e = .returned (.bool true) ∧ Fr [] w w' := by
  have hn := fun wi => new_yes 10 wi (by decide) (by decide)
  have hlt := hM.lt
  have hokA : ∀ st tk l, l.length ≤ 16000 → (⟨10, st, tk, l, []⟩ : Ss).Ok := fun st tk l hl => ⟨by simp, by simp, by simp, hl⟩
  have hp : ∀ wi b, SsAt TS wi b ⟨10, 0, 0, [], []⟩ → SomeMax wi → Calls Tryd.prog 8 #[.pointer (some ⟨b, 0, none⟩), .string ⟨#[32, 10, 120, 10]⟩] wi fun e w' => e = .returned (.int .i64 0) ∧ SsAt TS w' b ⟨10, 0, 0, kIn, []⟩ ∧ Fr [b] wi w' := fun wi b h hm => by
    have := put_any h (hokA _ _ _ (by decide)) kIn (by decide) hm
    rw [(kPut 10).1, (kPut 10).2] at this
    exact this
  have hl : ∀ wi b, SsAt TS wi b ⟨10, 0, 0, kIn, []⟩ → b ≠ 0 → SomeMax wi → Calls Tryd.prog 9 #[.pointer (some ⟨b, 0, none⟩)] wi fun e w' => e = .returned (.tuple #[.string ⟨#[120]⟩, .bool true]) ∧ SsAt TS w' b ⟨10, 0, 0, [], []⟩ ∧ Fr [b] wi w' := fun wi b h hb hm => by
    have := line_any h (hokA _ _ _ (by decide)) hb hm
    unfold LineE at this
    rw [(kLine 10).1, (kLine 10).2] at this
    exact this
  have hw : ∀ wi b, SsAt TS wi b ⟨10, 0, 0, [], []⟩ → Calls Tryd.prog 18 #[.pointer (some ⟨b, 0, none⟩), .int .i64 1] wi fun e w' => e = .returned (.int .i64 0) ∧ SsAt TS w' b ⟨10, 1, 1, [], []⟩ ∧ Fr [b] wi w' := fun wi b h => by
    have := wait_any h 1
    rw [(kWait 10).1, (kWait 10).2] at this
    exact this
  have hs : ∀ wi b, SsAt TS wi b ⟨10, 1, 1, [], []⟩ → Calls Tryd.prog 23 #[.pointer (some ⟨b, 0, none⟩)] wi fun e w' => e = .returned (.int .i64 1) ∧ w' = wi := fun wi b h => state_any h
  have ht : ∀ wi b, SsAt TS wi b ⟨10, 1, 1, [], []⟩ → Calls Tryd.prog 28 #[.pointer (some ⟨b, 0, none⟩)] wi fun e w' => e = .returned (.int .i64 1) ∧ w' = wi := fun wi b h => ticket_any h
  have hr : ∀ wi b, SsAt TS wi b ⟨10, 1, 1, [], []⟩ → Calls Tryd.prog 21 #[.pointer (some ⟨b, 0, none⟩)] wi fun e w' => e = .returned (.int .i64 10) ∧ Fr [] wi w' := fun wi b h => room_any h (hokA _ _ _ (by decide))
  have HM := Lib.hid hM
  have HP := Lib.hid hp
  have HL := Lib.hid hl
  have HW := Lib.hid hw
  have HS := Lib.hid hs
  have HT := Lib.hid ht
  have HR := Lib.hid hr
  clear hM hokA hp hl hw hs ht hr
  go_enter Tryd.func10, Tryd.ntmps10
  go_wp2_with (first
    | (go_at_call 7; refine (hn _).mono ?_; rintro e w1 ⟨⟨b, rfl, s1, g1⟩, f1⟩; have hbn : b ≠ 0 := by omega
       have HBN := Lib.hid hbn
       have S1 := Lib.hid s1
       have F1 := Lib.hid f1
       clear s1 f1 hbn)
    | (go_at_call 8; refine (HP.out _ _ S1.out (HM.out.past F1.out (by simp))).mono ?_; rintro e w2 ⟨rfl, s2, f2⟩; have S2 := Lib.hid s2; have F2 := Lib.hid (F1.out.past f2 (by simpa using g1)); clear s2 f2)
    | (go_at_call 9; refine (HL.out _ _ S2.out HBN.out (HM.out.past F2.out (by simp))).mono ?_; rintro e w3 ⟨rfl, s3, f3⟩; have S3 := Lib.hid s3; have F3 := Lib.hid (F2.out.past f3 (by simpa using g1)); clear s3 f3)
    | (go_at_call 18; refine (HW.out _ _ S3.out).mono ?_; rintro e w4 ⟨rfl, s4, f4⟩; have S4 := Lib.hid s4; have F4 := Lib.hid (F3.out.past f4 (by simpa using g1)); clear s4 f4)
    | (go_at_call 23; refine (HS.out _ _ S4.out).mono ?_; rintro e w5 ⟨rfl, rfl⟩)
    | (go_at_call 28; refine (HT.out _ _ S4.out).mono ?_; rintro e w5 ⟨rfl, rfl⟩)
    | (go_at_call 21; refine (HR.out _ _ S4.out).mono ?_; rintro e w5 ⟨rfl, f5⟩))
  go_ret
  exact ⟨rfl, F4.out.trans f5⟩
end Go.Proofs.YtgdneoajmaeckaaDoor
