/- The reference's session: Note and Answer. Conditions: the sizes; the listed tables lie as their text lays them. -/
import Derived.Test.YtgdneoajmaeckaaGreatDoorRya
import Derived.Test.YtgdneoajmaeckaaGreatDoorRt2
namespace Go.Proofs.YtgdneoajmaeckaaGreatDoor
open Go.RowKit


set_option maxRecDepth 100000
set_option maxHeartbeats 1600000 in
theorem rnote_any {w : World} {b : Nat} {S : Ss} (h : SsAt TR w b S) (ho : S.Ok) (x : Nt) (hx : x.Ok w) (hT : Tabs w) :
    Calls Tryz.prog 18 #[.pointer (some ⟨b, 0, none⟩), x.val] w fun e w' => e = .returned (.int .i64 (noteE S x)) ∧ SsAt TR w' b (noteS S x) ∧ Fr [b] w w' := by
  have ha := fun w' (f : Fr [] w w') => rwhy_any (h.fr f (by simp)) 2 (by decide)
  have ht := fun w' f => rtell_any (w := w') x (hx.fr f) (hT.p.fr f)
  have hp := fun w' st (f : Fr [] w w') => rout_any (h.fr f (by simp)) ho (tellB x) st
  have H := Lib.hid h
  clear h ho hx hT
  by_cases hz : whyB S 2 = 0
  · have HE := Lib.hid (show noteE S x = outE S (tellB x) from if_pos hz)
    by_cases hk : x.kind = 4
    · have HS := Lib.hid (show noteS S x = outS S (tellB x) 0 by rw [noteS, if_pos hz, if_pos hk])
      rw [hz] at ha
      clear hz
      obtain ⟨kind, time, n, row, ds, code⟩ := x
      simp only at hk
      subst hk
      simp only [Nt.val] at *
      generalize tellB _ = l at *
      generalize noteE _ _ = E1 at *
      generalize noteS _ _ = S1 at *
      have f1 := (Fr.refl [] w).alloc (.cells #[.int .i64 4, .int .i64 time, .int .i64 n, row, .int .i64 code] 38)
      have F1 := Lib.hid f1
      have Ha := Lib.hid (ha _ f1)
      have Ht := Lib.hid (ht _ f1)
      have Hp := Lib.hid hp
      clear ha ht hp f1
      go_enter Tryz.func18, Tryz.ntmps18
      go_wp2_with (first
        | (go_at_call 30; refine Ha.out.mono ?_; rintro e w2 ⟨rfl, rfl⟩)
        | (go_at_call 36; refine Ht.out.mono ?_; rintro e w3 ⟨rfl, f3⟩)
        | (go_at_call 33; refine (Hp.out _ _ (F1.out.trans f3)).mono ?_; rintro e w4 ⟨rfl, s4, f4⟩))
      go_ret
      exact ⟨by rw [HE.out]; rfl, by rw [HS.out]; exact s4, ((F1.out.trans f3).mono (by simp)).trans f4⟩
    · have HS := Lib.hid (show noteS S x = outS S (tellB x) 2 by rw [noteS, if_pos hz, if_neg hk])
      rw [hz] at ha
      clear hz
      obtain ⟨kind, time, n, row, ds, code⟩ := x
      simp only at hk
      have hkb : (kind == 4) = false := by simpa using hk
      simp only [Nt.val] at *
      generalize tellB _ = l at *
      generalize noteE _ _ = E1 at *
      generalize noteS _ _ = S1 at *
      have f1 := (Fr.refl [] w).alloc (.cells #[.int .i64 kind, .int .i64 time, .int .i64 n, row, .int .i64 code] 38)
      have F1 := Lib.hid f1
      have Ha := Lib.hid (ha _ f1)
      have Ht := Lib.hid (ht _ f1)
      have Hp := Lib.hid hp
      clear ha ht hp f1 hk
      go_enter Tryz.func18, Tryz.ntmps18
      go_wp2_with (first
        | (go_at_call 30; refine Ha.out.mono ?_; rintro e w2 ⟨rfl, rfl⟩)
        | (go_at_call 36; refine Ht.out.mono ?_; rintro e w3 ⟨rfl, f3⟩)
        | (go_at_call 33; refine (Hp.out _ _ (F1.out.trans f3)).mono ?_; rintro e w4 ⟨rfl, s4, f4⟩))
      go_ret
      exact ⟨by rw [HE.out]; rfl, by rw [HS.out]; exact s4, ((F1.out.trans f3).mono (by simp)).trans f4⟩
  · have HE := Lib.hid (show noteE S x = whyB S 2 from if_neg hz)
    have HS := Lib.hid (show noteS S x = S from if_neg hz)
    have h1 : (whyB S 2 != 0) = true := by simpa using hz
    have h2 : (whyB S 2 == 0) = false := by simpa using hz
    generalize whyB S 2 = z at *
    obtain ⟨kind, time, n, row, ds, code⟩ := x
    simp only [Nt.val] at *
    generalize noteE _ _ = E1 at *
    generalize noteS _ _ = S1 at *
    have f1 := (Fr.refl [] w).alloc (.cells #[.int .i64 kind, .int .i64 time, .int .i64 n, row, .int .i64 code] 38)
    have F1 := Lib.hid f1
    have Ha := Lib.hid (ha _ f1)
    clear ha ht hp f1 hz
    go_enter Tryz.func18, Tryz.ntmps18
    go_wp2_with (go_at_call 30; refine Ha.out.mono ?_; rintro e w2 ⟨rfl, rfl⟩)
    go_ret
    exact ⟨by rw [HE.out]; rfl, by rw [HS.out]; exact H.out.fr F1.out (by simp), F1.out.mono (by simp)⟩


set_option maxRecDepth 100000
set_option maxHeartbeats 1600000 in
theorem ranswer_any {w : World} {b : Nat} {S : Ss} (h : SsAt TR w b S) (ho : S.Ok) (x : Rp) (hx : x.Ok w) (h60 : x.cts.length ≤ 60) (hT : Tabs w) :
    Calls Tryz.prog 16 #[.pointer (some ⟨b, 0, none⟩), x.val] w fun e w' => e = .returned (.int .i64 (ansE S x)) ∧ SsAt TR w' b (ansS S x) ∧ Fr [b] w w' := by
  have ha := fun w' (f : Fr [] w w') => rwhy_any (h.fr f (by simp)) 1 (by decide)
  have ht := fun w' f => rsay_any (w := w') x (hx.fr f) (hT.p.fr f) h60
  have hp := fun w' st (f : Fr [] w w') => rout_any (h.fr f (by simp)) ho (sayB x) st
  have H := Lib.hid h
  clear h ho hx hT h60
  by_cases hz : whyB S 1 = 0
  · by_cases htk : x.tk = S.tk
    · have HE := Lib.hid (show ansE S x = outE S (sayB x) by rw [ansE, if_pos hz, if_pos htk])
      by_cases hk : x.kind = 4
      · have HS := Lib.hid (show ansS S x = outS S (sayB x) 2 by rw [ansS, if_pos ⟨hz, htk⟩, if_pos hk])
        rw [hz] at ha
        clear hz
        obtain ⟨tk, kind, code, place, time, n, name, cols, rows, cts⟩ := x
        simp only at htk
        simp only at hk
        subst hk
        subst htk
        simp only [Rp.val] at *
        generalize sayB _ = l at *
        generalize ansE _ _ = E1 at *
        generalize ansS _ _ = S1 at *
        have f1 := (Fr.refl [] w).alloc (.cells #[.int .i64 S.tk, .int .i64 4, .int .i64 code, .int .i64 place, .int .i64 time, .int .i64 n, .string ⟨name.toArray⟩, cols, rows] 34)
        have F1 := Lib.hid f1
        obtain ⟨c0, c1, c2, c3, c4, y0, y1, y2, y3, y4⟩ := blk5 (H.out.fr f1 (by simp))
        have Ha := Lib.hid (ha _ f1)
        have Ht := Lib.hid ht
        have Hp := Lib.hid hp
        clear ha ht hp f1
        go_enter Tryz.func16, Tryz.ntmps16
        go_wp2_with (go_at_call 30; refine Ha.out.mono ?_; rintro e w2 ⟨rfl, rfl⟩)
        go_quiet (fail)
        go_wp2_with (first
          | (go_at_call 34; refine (Ht.out _ (F1.out.drewN _)).mono ?_; rintro e w3 ⟨rfl, f3⟩)
          | (go_at_call 33; refine (Hp.out _ _ ((F1.out.drewN _).trans f3)).mono ?_; rintro e w4 ⟨rfl, s4, f4⟩))
        go_ret
        exact ⟨by rw [HE.out]; rfl, by rw [HS.out]; exact s4, (((F1.out.drewN _).trans f3).mono (by simp)).trans f4⟩
      · have HS := Lib.hid (show ansS S x = outS S (sayB x) 0 by rw [ansS, if_pos ⟨hz, htk⟩, if_neg hk])
        rw [hz] at ha
        clear hz
        obtain ⟨tk, kind, code, place, time, n, name, cols, rows, cts⟩ := x
        simp only at htk
        simp only at hk
        have hkb : (kind == 4) = false := by simpa using hk
        subst htk
        simp only [Rp.val] at *
        generalize sayB _ = l at *
        generalize ansE _ _ = E1 at *
        generalize ansS _ _ = S1 at *
        have f1 := (Fr.refl [] w).alloc (.cells #[.int .i64 S.tk, .int .i64 kind, .int .i64 code, .int .i64 place, .int .i64 time, .int .i64 n, .string ⟨name.toArray⟩, cols, rows] 34)
        have F1 := Lib.hid f1
        obtain ⟨c0, c1, c2, c3, c4, y0, y1, y2, y3, y4⟩ := blk5 (H.out.fr f1 (by simp))
        have Ha := Lib.hid (ha _ f1)
        have Ht := Lib.hid ht
        have Hp := Lib.hid hp
        clear ha ht hp f1 hk
        go_enter Tryz.func16, Tryz.ntmps16
        go_wp2_with (go_at_call 30; refine Ha.out.mono ?_; rintro e w2 ⟨rfl, rfl⟩)
        go_quiet (fail)
        go_wp2_with (first
          | (go_at_call 34; refine (Ht.out _ (F1.out.drewN _)).mono ?_; rintro e w3 ⟨rfl, f3⟩)
          | (go_at_call 33; refine (Hp.out _ _ ((F1.out.drewN _).trans f3)).mono ?_; rintro e w4 ⟨rfl, s4, f4⟩))
        go_ret
        exact ⟨by rw [HE.out]; rfl, by rw [HS.out]; exact s4, (((F1.out.drewN _).trans f3).mono (by simp)).trans f4⟩
    · have HE := Lib.hid (show ansE S x = 210 by rw [ansE, if_pos hz, if_neg htk])
      have HS := Lib.hid (show ansS S x = S by rw [ansS, if_neg (fun e => htk e.2)])
      rw [hz] at ha
      clear hz
      obtain ⟨tk, kind, code, place, time, n, name, cols, rows, cts⟩ := x
      simp only at htk
      have htb : (tk == S.tk) = false := by simpa using htk
      simp only [Rp.val] at *
      generalize sayB _ = l at *
      generalize ansE _ _ = E1 at *
      generalize ansS _ _ = S1 at *
      have f1 := (Fr.refl [] w).alloc (.cells #[.int .i64 tk, .int .i64 kind, .int .i64 code, .int .i64 place, .int .i64 time, .int .i64 n, .string ⟨name.toArray⟩, cols, rows] 34)
      have F1 := Lib.hid f1
      obtain ⟨c0, c1, c2, c3, c4, y0, y1, y2, y3, y4⟩ := blk5 (H.out.fr f1 (by simp))
      have Ha := Lib.hid (ha _ f1)
      clear ha ht hp f1 htk
      go_enter Tryz.func16, Tryz.ntmps16
      go_wp2_with (go_at_call 30; refine Ha.out.mono ?_; rintro e w2 ⟨rfl, rfl⟩)
      go_quiet (fail)
      go_wp2_with fail
      go_ret
      exact ⟨by rw [HE.out]; rfl, by rw [HS.out]; exact H.out.fr (F1.out.drewN _) (by simp), (F1.out.drewN _).mono (by simp)⟩
  · have HE := Lib.hid (show ansE S x = whyB S 1 from if_neg hz)
    have HS := Lib.hid (show ansS S x = S by rw [ansS, if_neg (fun e => hz e.1)])
    have h1 : (whyB S 1 != 0) = true := by simpa using hz
    have h2 : (whyB S 1 == 0) = false := by simpa using hz
    generalize whyB S 1 = z at *
    obtain ⟨tk, kind, code, place, time, n, name, cols, rows, cts⟩ := x
    simp only [Rp.val] at *
    generalize sayB _ = l at *
    generalize ansE _ _ = E1 at *
    generalize ansS _ _ = S1 at *
    have f1 := (Fr.refl [] w).alloc (.cells #[.int .i64 tk, .int .i64 kind, .int .i64 code, .int .i64 place, .int .i64 time, .int .i64 n, .string ⟨name.toArray⟩, cols, rows] 34)
    have F1 := Lib.hid f1
    obtain ⟨c0, c1, c2, c3, c4, y0, y1, y2, y3, y4⟩ := blk5 (H.out.fr f1 (by simp))
    have Ha := Lib.hid (ha _ f1)
    clear ha ht hp f1 hz
    go_enter Tryz.func16, Tryz.ntmps16
    go_wp2_with (go_at_call 30; refine Ha.out.mono ?_; rintro e w2 ⟨rfl, rfl⟩)
    go_ret
    exact ⟨by rw [HE.out]; rfl, by rw [HS.out]; exact H.out.fr F1.out (by simp), F1.out.mono (by simp)⟩
end Go.Proofs.YtgdneoajmaeckaaGreatDoor
