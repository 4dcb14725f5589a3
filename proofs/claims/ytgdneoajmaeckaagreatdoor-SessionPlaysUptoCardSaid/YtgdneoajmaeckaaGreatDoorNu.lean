/- A session's put, Note and Answer. Conditions: the sizes; the listed tables lie as their text lays them. -/
import Derived.Test.YtgdneoajmaeckaaGreatDoorSp
import Derived.Test.YtgdneoajmaeckaaGreatDoorSz
namespace Go.Proofs.YtgdneoajmaeckaaGreatDoor
open Go.RowKit

/-- What becomes of bytes that are to go out. -/
def outE (S : Ss) (l : List UInt8) : Int := if l = [] then 1 else if S.room - (S.out.length : Int) < (l.length : Int) then 2 else 0
def outS (S : Ss) (l : List UInt8) (st : Int) : Ss := if outE S l = 0 then { S with out := S.out ++ l, st := st } else S

theorem outS_ok {S : Ss} (h : S.Ok) (l : List UInt8) (st : Int) : (outS S l st).Ok := by
  unfold outS
  split
  · rename_i h1
    obtain ⟨r0, r1, r2, r3⟩ := h
    refine ⟨r0, r1, ?_, r3⟩
    unfold outE at h1
    split at h1
    · cases h1
    · split at h1
      · cases h1
      · simp only [List.length_append]; omega
  · exact h

set_option maxRecDepth 100000
set_option maxHeartbeats 1600000 in
theorem out_any {w : World} {b : Nat} {S : Ss} (h : SsAt TS w b S) (ho : S.Ok) (l : List UInt8) (st : Int) :
    Calls Tryz.prog 31 #[.pointer (some ⟨b, 0, none⟩), .string ⟨l.toArray⟩, .int .i64 st] w fun e w' => e = .returned (.int .i64 (outE S l)) ∧ SsAt TS w' b (outS S l st) ∧ Fr [b] w w' := by
  obtain ⟨c0, c1, c2, c3, c4, y0, y1, y2, y3, y4⟩ := blk5 h
  have hr := room_any h ho
  have H := Lib.hid h
  obtain ⟨r0, r1, r2, -⟩ := ho
  have hsz := size_mk S.out
  have hsl := size_mk l
  by_cases hn : l = []
  · have HE := Lib.hid (show outE S l = 1 from if_pos hn)
    have HP := Lib.hid (show outS S l st = S by rw [outS, if_neg (by rw [HE.out]; decide)])
    have t2 : (⟨l.toArray⟩ : ByteArray).toList = [] := by rw [ByteArray.toList_eq]; exact hn
    have t4 : ((⟨l.toArray⟩ : ByteArray).toList == []) = true := by simpa using t2
    have t1 : (⟨l.toArray⟩ : ByteArray).toList.isEmpty = true := by simpa using t2
    clear h hr hn hsl
    generalize (⟨l.toArray⟩ : ByteArray) = T at *
    go_enter Tryz.func31, Tryz.ntmps31
    go_wp2_with fail
    go_ret
    exact ⟨by rw [HE.out]; rfl, by rw [HP.out]; exact H.out, Fr.refl _ _⟩
  · have t2 : ¬ (⟨l.toArray⟩ : ByteArray).toList = [] := by rw [ByteArray.toList_eq]; exact hn
    have t4 : ((⟨l.toArray⟩ : ByteArray).toList == []) = false := by simpa using t2
    have t1 : (⟨l.toArray⟩ : ByteArray).toList.isEmpty = false := by simpa using t2
    by_cases hb : S.room - (S.out.length : Int) < (l.length : Int)
    · have HE := Lib.hid (show outE S l = 2 by rw [outE, if_neg hn, if_pos hb])
      have HP := Lib.hid (show outS S l st = S by rw [outS, if_neg (by rw [HE.out]; decide)])
      clear h hn
      generalize hT : (⟨l.toArray⟩ : ByteArray) = T at *
      clear hT
      rw [← hsl] at hb
      generalize S.room - (S.out.length : Int) = R at *
      go_enter Tryz.func31, Tryz.ntmps31
      go_wp2_with (go_at_call 24; refine hr.mono ?_; rintro e w1 ⟨rfl, f1⟩)
      go_ret
      exact ⟨by rw [HE.out]; rfl, by rw [HP.out]; exact H.out.fr f1 (by simp), f1.mono (by simp)⟩
    · have HE := Lib.hid (show outE S l = 0 by rw [outE, if_neg hn, if_neg hb])
      have HP := Lib.hid (show outS S l st = { S with out := S.out ++ l, st := st } by rw [outS, if_pos HE.out])
      have hc := cat S.out l
      have hsm : S.out.length + l.length ≤ 1048576 := by omega
      have HN := Lib.hid (fun (w1 : World) (hs : SsAt TS w1 b S) => (hs.set4 (S.out ++ l)).set1 st)
      have hb2 : (l.length : Int) ≤ S.room - (S.out.length : Int) := by omega
      have hsc : (⟨(S.out ++ l).toArray⟩ : ByteArray).size ≤ 1048576 := by rw [size_mk, List.length_append]; exact hsm
      rw [← hsl] at hb2
      rw [← hsz, ← hsl] at hsm
      clear h hn hb hsl
      generalize (⟨(S.out ++ l).toArray⟩ : ByteArray) = U at *
      generalize (⟨l.toArray⟩ : ByteArray) = T at *
      generalize S.room - (S.out.length : Int) = R at *
      go_enter Tryz.func31, Tryz.ntmps31
      go_wp2_with (go_at_call 24; refine hr.mono ?_; rintro e w1 ⟨rfl, f1⟩; have H1 := Lib.hid (H.out.fr f1 (by simp)); obtain ⟨d0, d1, d2, d3, d4, z0, z1, z2, z3, z4⟩ := blk5 H1.out)
      go_ret
      exact ⟨by rw [HE.out]; rfl, by rw [HP.out]; exact HN.out _ H1.out, ((f1.mono (by simp)).setCell (p := ⟨b, 4, none⟩) (by simp) _).setCell (p := ⟨b, 1, none⟩) (by simp) _⟩

def noteE (S : Ss) (x : Nt) : Int := if whyB S 2 = 0 then outE S (tellB x) else whyB S 2
def noteS (S : Ss) (x : Nt) : Ss := if whyB S 2 = 0 then outS S (tellB x) (if x.kind = 4 then 0 else 2) else S

set_option maxRecDepth 100000
set_option maxHeartbeats 1600000 in
theorem note_any {w : World} {b : Nat} {S : Ss} (h : SsAt TS w b S) (ho : S.Ok) (x : Nt) (hx : x.Ok w) (hT : Tabs w) :
    Calls Tryz.prog 17 #[.pointer (some ⟨b, 0, none⟩), x.val] w fun e w' => e = .returned (.int .i64 (noteE S x)) ∧ SsAt TS w' b (noteS S x) ∧ Fr [b] w w' := by
  have ha := fun w' (f : Fr [] w w') => asked_any (h.fr f (by simp)) 2
  have ht := fun w' f => tell_any (w := w') x (hx.fr f) (hT.fr f)
  have hp := fun w' st (f : Fr [] w w') => out_any (h.fr f (by simp)) ho (tellB x) st
  have H := Lib.hid h
  clear h ho hx hT
  by_cases hz : whyB S 2 = 0
  · have HE := Lib.hid (show noteE S x = outE S (tellB x) from if_pos hz)
    by_cases hk : x.kind = 4
    · have HS := Lib.hid (show noteS S x = outS S (tellB x) 0 by rw [noteS, if_pos hz, if_pos hk])
      rw [hz] at ha
      clear hz
      obtain ⟨kind, time, n, row, ds, code⟩ := x
      simp only at hk
      subst hk
      simp only [Nt.val] at *
      generalize tellB _ = l at *
      generalize noteE _ _ = E1 at *
      generalize noteS _ _ = S1 at *
      have f1 := (Fr.refl [] w).alloc (.cells #[.int .i64 4, .int .i64 time, .int .i64 n, row, .int .i64 code] 38)
      have F1 := Lib.hid f1
      have Ha := Lib.hid (ha _ f1)
      have Ht := Lib.hid (ht _ f1)
      have Hp := Lib.hid hp
      clear ha ht hp f1
      go_enter Tryz.func17, Tryz.ntmps17
      go_wp2_with (first
        | (go_at_call 29; refine Ha.out.mono ?_; rintro e w2 ⟨rfl, rfl⟩)
        | (go_at_call 35; refine Ht.out.mono ?_; rintro e w3 ⟨rfl, f3⟩)
        | (go_at_call 31; refine (Hp.out _ _ (F1.out.trans f3)).mono ?_; rintro e w4 ⟨rfl, s4, f4⟩))
      go_ret
      exact ⟨by rw [HE.out]; rfl, by rw [HS.out]; exact s4, ((F1.out.trans f3).mono (by simp)).trans f4⟩
    · have HS := Lib.hid (show noteS S x = outS S (tellB x) 2 by rw [noteS, if_pos hz, if_neg hk])
      rw [hz] at ha
      clear hz
      obtain ⟨kind, time, n, row, ds, code⟩ := x
      simp only at hk
      have hkb : (kind == 4) = false := by simpa using hk
      simp only [Nt.val] at *
      generalize tellB _ = l at *
      generalize noteE _ _ = E1 at *
      generalize noteS _ _ = S1 at *
      have f1 := (Fr.refl [] w).alloc (.cells #[.int .i64 kind, .int .i64 time, .int .i64 n, row, .int .i64 code] 38)
      have F1 := Lib.hid f1
      have Ha := Lib.hid (ha _ f1)
      have Ht := Lib.hid (ht _ f1)
      have Hp := Lib.hid hp
      clear ha ht hp f1 hk
      go_enter Tryz.func17, Tryz.ntmps17
      go_wp2_with (first
        | (go_at_call 29; refine Ha.out.mono ?_; rintro e w2 ⟨rfl, rfl⟩)
        | (go_at_call 35; refine Ht.out.mono ?_; rintro e w3 ⟨rfl, f3⟩)
        | (go_at_call 31; refine (Hp.out _ _ (F1.out.trans f3)).mono ?_; rintro e w4 ⟨rfl, s4, f4⟩))
      go_ret
      exact ⟨by rw [HE.out]; rfl, by rw [HS.out]; exact s4, ((F1.out.trans f3).mono (by simp)).trans f4⟩
  · have HE := Lib.hid (show noteE S x = whyB S 2 from if_neg hz)
    have HS := Lib.hid (show noteS S x = S from if_neg hz)
    have h1 : (whyB S 2 != 0) = true := by simpa using hz
    have h2 : (whyB S 2 == 0) = false := by simpa using hz
    generalize whyB S 2 = z at *
    obtain ⟨kind, time, n, row, ds, code⟩ := x
    simp only [Nt.val] at *
    generalize noteE _ _ = E1 at *
    generalize noteS _ _ = S1 at *
    have f1 := (Fr.refl [] w).alloc (.cells #[.int .i64 kind, .int .i64 time, .int .i64 n, row, .int .i64 code] 38)
    have F1 := Lib.hid f1
    have Ha := Lib.hid (ha _ f1)
    clear ha ht hp f1 hz
    go_enter Tryz.func17, Tryz.ntmps17
    go_wp2_with (go_at_call 29; refine Ha.out.mono ?_; rintro e w2 ⟨rfl, rfl⟩)
    go_ret
    exact ⟨by rw [HE.out]; rfl, by rw [HS.out]; exact H.out.fr F1.out (by simp), F1.out.mono (by simp)⟩

def ansE (S : Ss) (x : Rp) : Int := if whyB S 1 = 0 then (if x.tk = S.tk then outE S (sayB x) else 210) else whyB S 1
def ansS (S : Ss) (x : Rp) : Ss := if whyB S 1 = 0 ∧ x.tk = S.tk then outS S (sayB x) (if x.kind = 4 then 2 else 0) else S

set_option maxRecDepth 100000
set_option maxHeartbeats 1600000 in
theorem answer_any {w : World} {b : Nat} {S : Ss} (h : SsAt TS w b S) (ho : S.Ok) (x : Rp) (hx : x.Ok w) (h60 : x.cts.length ≤ 60) (hT : Tabs w) :
    Calls Tryz.prog 15 #[.pointer (some ⟨b, 0, none⟩), x.val] w fun e w' => e = .returned (.int .i64 (ansE S x)) ∧ SsAt TS w' b (ansS S x) ∧ Fr [b] w w' := by
  have ha := fun w' (f : Fr [] w w') => asked_any (h.fr f (by simp)) 1
  have ht := fun w' f => say_any (w := w') x (hx.fr f) (hT.fr f) h60
  have hp := fun w' st (f : Fr [] w w') => out_any (h.fr f (by simp)) ho (sayB x) st
  have H := Lib.hid h
  clear h ho hx hT h60
  by_cases hz : whyB S 1 = 0
  · by_cases htk : x.tk = S.tk
    · have HE := Lib.hid (show ansE S x = outE S (sayB x) by rw [ansE, if_pos hz, if_pos htk])
      by_cases hk : x.kind = 4
      · have HS := Lib.hid (show ansS S x = outS S (sayB x) 2 by rw [ansS, if_pos ⟨hz, htk⟩, if_pos hk])
        rw [hz] at ha
        clear hz
        obtain ⟨tk, kind, code, place, time, n, name, cols, rows, cts⟩ := x
        simp only at htk
        simp only at hk
        subst hk
        subst htk
        simp only [Rp.val] at *
        generalize sayB _ = l at *
        generalize ansE _ _ = E1 at *
        generalize ansS _ _ = S1 at *
        have f1 := (Fr.refl [] w).alloc (.cells #[.int .i64 S.tk, .int .i64 4, .int .i64 code, .int .i64 place, .int .i64 time, .int .i64 n, .string ⟨name.toArray⟩, cols, rows] 34)
        have F1 := Lib.hid f1
        obtain ⟨c0, c1, c2, c3, c4, y0, y1, y2, y3, y4⟩ := blk5 (H.out.fr f1 (by simp))
        have Ha := Lib.hid (ha _ f1)
        have Ht := Lib.hid ht
        have Hp := Lib.hid hp
        clear ha ht hp f1
        go_enter Tryz.func15, Tryz.ntmps15
        go_wp2_with (go_at_call 29; refine Ha.out.mono ?_; rintro e w2 ⟨rfl, rfl⟩)
        go_quiet (fail)
        go_wp2_with (first
          | (go_at_call 32; refine (Ht.out _ (F1.out.drewN _)).mono ?_; rintro e w3 ⟨rfl, f3⟩)
          | (go_at_call 31; refine (Hp.out _ _ ((F1.out.drewN _).trans f3)).mono ?_; rintro e w4 ⟨rfl, s4, f4⟩))
        go_ret
        exact ⟨by rw [HE.out]; rfl, by rw [HS.out]; exact s4, (((F1.out.drewN _).trans f3).mono (by simp)).trans f4⟩
      · have HS := Lib.hid (show ansS S x = outS S (sayB x) 0 by rw [ansS, if_pos ⟨hz, htk⟩, if_neg hk])
        rw [hz] at ha
        clear hz
        obtain ⟨tk, kind, code, place, time, n, name, cols, rows, cts⟩ := x
        simp only at htk
        simp only at hk
        have hkb : (kind == 4) = false := by simpa using hk
        subst htk
        simp only [Rp.val] at *
        generalize sayB _ = l at *
        generalize ansE _ _ = E1 at *
        generalize ansS _ _ = S1 at *
        have f1 := (Fr.refl [] w).alloc (.cells #[.int .i64 S.tk, .int .i64 kind, .int .i64 code, .int .i64 place, .int .i64 time, .int .i64 n, .string ⟨name.toArray⟩, cols, rows] 34)
        have F1 := Lib.hid f1
        obtain ⟨c0, c1, c2, c3, c4, y0, y1, y2, y3, y4⟩ := blk5 (H.out.fr f1 (by simp))
        have Ha := Lib.hid (ha _ f1)
        have Ht := Lib.hid ht
        have Hp := Lib.hid hp
        clear ha ht hp f1 hk
        go_enter Tryz.func15, Tryz.ntmps15
        go_wp2_with (go_at_call 29; refine Ha.out.mono ?_; rintro e w2 ⟨rfl, rfl⟩)
        go_quiet (fail)
        go_wp2_with (first
          | (go_at_call 32; refine (Ht.out _ (F1.out.drewN _)).mono ?_; rintro e w3 ⟨rfl, f3⟩)
          | (go_at_call 31; refine (Hp.out _ _ ((F1.out.drewN _).trans f3)).mono ?_; rintro e w4 ⟨rfl, s4, f4⟩))
        go_ret
        exact ⟨by rw [HE.out]; rfl, by rw [HS.out]; exact s4, (((F1.out.drewN _).trans f3).mono (by simp)).trans f4⟩
    · have HE := Lib.hid (show ansE S x = 210 by rw [ansE, if_pos hz, if_neg htk])
      have HS := Lib.hid (show ansS S x = S by rw [ansS, if_neg (fun e => htk e.2)])
      rw [hz] at ha
      clear hz
      obtain ⟨tk, kind, code, place, time, n, name, cols, rows, cts⟩ := x
      simp only at htk
      have htb : (tk == S.tk) = false := by simpa using htk
      simp only [Rp.val] at *
      generalize sayB _ = l at *
      generalize ansE _ _ = E1 at *
      generalize ansS _ _ = S1 at *
      have f1 := (Fr.refl [] w).alloc (.cells #[.int .i64 tk, .int .i64 kind, .int .i64 code, .int .i64 place, .int .i64 time, .int .i64 n, .string ⟨name.toArray⟩, cols, rows] 34)
      have F1 := Lib.hid f1
      obtain ⟨c0, c1, c2, c3, c4, y0, y1, y2, y3, y4⟩ := blk5 (H.out.fr f1 (by simp))
      have Ha := Lib.hid (ha _ f1)
      clear ha ht hp f1 htk
      go_enter Tryz.func15, Tryz.ntmps15
      go_wp2_with (go_at_call 29; refine Ha.out.mono ?_; rintro e w2 ⟨rfl, rfl⟩)
      go_quiet (fail)
      go_wp2_with fail
      go_ret
      exact ⟨by rw [HE.out]; rfl, by rw [HS.out]; exact H.out.fr (F1.out.drewN _) (by simp), (F1.out.drewN _).mono (by simp)⟩
  · have HE := Lib.hid (show ansE S x = whyB S 1 from if_neg hz)
    have HS := Lib.hid (show ansS S x = S by rw [ansS, if_neg (fun e => hz e.1)])
    have h1 : (whyB S 1 != 0) = true := by simpa using hz
    have h2 : (whyB S 1 == 0) = false := by simpa using hz
    generalize whyB S 1 = z at *
    obtain ⟨tk, kind, code, place, time, n, name, cols, rows, cts⟩ := x
    simp only [Rp.val] at *
    generalize sayB _ = l at *
    generalize ansE _ _ = E1 at *
    generalize ansS _ _ = S1 at *
    have f1 := (Fr.refl [] w).alloc (.cells #[.int .i64 tk, .int .i64 kind, .int .i64 code, .int .i64 place, .int .i64 time, .int .i64 n, .string ⟨name.toArray⟩, cols, rows] 34)
    have F1 := Lib.hid f1
    obtain ⟨c0, c1, c2, c3, c4, y0, y1, y2, y3, y4⟩ := blk5 (H.out.fr f1 (by simp))
    have Ha := Lib.hid (ha _ f1)
    clear ha ht hp f1 hz
    go_enter Tryz.func15, Tryz.ntmps15
    go_wp2_with (go_at_call 29; refine Ha.out.mono ?_; rintro e w2 ⟨rfl, rfl⟩)
    go_ret
    exact ⟨by rw [HE.out]; rfl, by rw [HS.out]; exact H.out.fr F1.out (by simp), F1.out.mono (by simp)⟩
end Go.Proofs.YtgdneoajmaeckaaGreatDoor
