/- SessionCuts: the walk. No condition but that the variable MaxLen lies. -/
import Derived.Test.YtgdneoajmaeckaaDoorMm
import Derived.Deep.LoopGhost
import Derived.Deep.CutBlock
namespace Go.Proofs.YtgdneoajmaeckaaDoor
open Go.RowKit

def cS (l : List UInt8) : Ss := ⟨100, 0, 0, l, []⟩
theorem cS_ok {l : List UInt8} (h : l.length ≤ 16000) : (cS l).Ok := ⟨by simp [cS], by simp [cS], by simp [cS], h⟩

theorem cPut {l x : List UInt8} (h : l.length + x.length ≤ 3000) : putE (cS l) x = 0 ∧ putS (cS l) x = cS (l ++ x) := by
  have hb : badB (cS l) x = false := by
    unfold badB cS
    rw [decide_eq_false (by simp only; omega)]
    exact longN_small 0 _ (by simp; omega)
  refine ⟨?_, ?_⟩
  · rw [putE, hb]; rfl
  · rw [putS, hb]; rfl

theorem cput_any {w : World} {b : Nat} {l : List UInt8} (h : SsAt TS w b (cS l)) (x : List UInt8) (hx : l.length + x.length ≤ 3000) (hM : SomeMax w) :
    Calls Tryd.prog 8 #[.pointer (some ⟨b, 0, none⟩), .string ⟨x.toArray⟩] w fun e w' => e = .returned (.int .i64 0) ∧ SsAt TS w' b (cS (l ++ x)) ∧ Fr [b] w w' := by
  have := put_any h (cS_ok (by omega)) x (by omega) hM
  rw [(cPut hx).1, (cPut hx).2] at this
  exact this

theorem cline_some {w : World} {b : Nat} {l a : List UInt8} (h : SsAt TS w b (cS l)) (hl : l.length ≤ 3000) (hb : b ≠ 0) (hM : SomeMax w) (ha : (ask false l).1 = some a) :
    Calls Tryd.prog 9 #[.pointer (some ⟨b, 0, none⟩)] w fun e w' => e = .returned (.tuple #[.string ⟨a.toArray⟩, .bool true]) ∧ SsAt TS w' b (cS (ask false l).2) ∧ Fr [b] w w' := by
  have := line_any h (cS_ok (by omega)) hb hM
  have e1 : lineO (cS l) = some a := by unfold lineO; rw [show openB (cS l) = true from rfl]; exact ha
  have e2 : lineS (cS l) = cS (ask false l).2 := rfl
  unfold LineE at this
  rw [e1, e2] at this
  exact this
theorem cline_none {w : World} {b : Nat} {l : List UInt8} (h : SsAt TS w b (cS l)) (hl : l.length ≤ 3000) (hb : b ≠ 0) (hM : SomeMax w) (ha : (ask false l).1 = none) :
    Calls Tryd.prog 9 #[.pointer (some ⟨b, 0, none⟩)] w fun e w' => e = .returned (.tuple #[.string ⟨#[]⟩, .bool false]) ∧ SsAt TS w' b (cS (ask false l).2) ∧ Fr [b] w w' := by
  have := line_any h (cS_ok (by omega)) hb hM
  have e1 : lineO (cS l) = none := by unfold lineO; rw [show openB (cS l) = true from rfl]; exact ha
  have e2 : lineS (cS l) = cS (ask false l).2 := rfl
  unfold LineE at this
  rw [e1, e2] at this
  exact this

/-- Calling Line makes what waits shorter. -/
theorem ask_less {l a : List UInt8} (h : (ask false l).1 = some a) : (ask false l).2.length < l.length := by
  have key : ∀ (n : Nat) (l : List UInt8), l.length ≤ n → (ask false l).1 = some a → (ask false l).2.length < l.length := by
    intro n
    induction n with
    | zero =>
      intro l hl h
      have : l = [] := List.length_eq_zero_iff.1 (by omega)
      subst this
      rw [ask_none rfl] at h; cases h
    | succ n ih =>
      intro l hl h
      cases hc : cutN l with
      | none => rw [ask_none hc] at h; cases h
      | some p =>
        obtain ⟨x, r⟩ := p
        have h1 := cutN_len hc
        cases hb : blankB x
        · rw [ask_line hc hb rfl]; simp only; omega
        · rw [ask_blank hc hb] at h ⊢
          have := ih r (by omega) h
          omega
  exact key _ l (Nat.le_refl _) h

/-- Within the first loop: what was asked, what waits. -/
def CtA (w2 : World) (b1 b2 : Nat) (B : List UInt8) (a9 : Value) (wr : World) : Prop :=
  ∃ acc l, acc ++ asks l = asks B ∧ l.length ≤ 3000 ∧ SsAt TS wr b1 (cS l) ∧ SsAt TS wr b2 (cS []) ∧ wr.ownsRow w2.heap.size 9 1 a9 acc.length (strsL acc) ∧ Fr [b1] w2 wr
/-- Within the second. -/
def CtB (w3 : World) (b2 : Nat) (B : List UInt8) (a10 a13 : Value) (wr : World) : Prop :=
  ∃ c l rest, a13 = .string ⟨rest.toArray⟩ ∧ c ++ asks (l ++ rest) = asks B ∧ l.length + rest.length ≤ 3000 ∧ SsAt TS wr b2 (cS l) ∧ wr.ownsRow w3.heap.size 9 1 a10 c.length (strsL c) ∧ Fr [b2] w3 wr
/-- Within the third. -/
def CtC (w4 : World) (b2 : Nat) (B : List UInt8) (a10 : Value) (wr : World) : Prop :=
  ∃ c l, c ++ asks l = asks B ∧ l.length ≤ 3000 ∧ SsAt TS wr b2 (cS l) ∧ wr.ownsRow w4.heap.size 9 1 a10 c.length (strsL c) ∧ Fr [b2] w4 wr

set_option maxRecDepth 100000
set_option maxHeartbeats 3200000 in
theorem cuts_any {w : World} {v : Value} {cuts : List Int} (hc : IntsAt w v cuts) (hi : ∀ x ∈ cuts, -9223372036854775808 ≤ x ∧ x ≤ 9223372036854775807) (b : List UInt8) (hb : b.length ≤ 140737488351232) (hM : SomeMax w) :
    Calls Tryd.prog 3 #[.string ⟨b.toArray⟩, v] w fun e w' => e = .returned (.bool true) ∧ Fr [] w w' := by
  obtain ⟨i0, hi0, hz0, hz1, hz2⟩ := info_parts infoS
  obtain ⟨ad, cap, rfl, had, hcap⟩ := hc.shape
  have hn := fun wi => new_yes 100 wi (by decide) (by decide)
  have hlt := hM.lt
  have HM := Lib.hid hM
  have HC := Lib.hid hc
  have HI := Lib.hid hi
  have hsz := size_mk b
  have hB : (b.take 3000).length ≤ 3000 := by rw [List.length_take]; omega
  have HB := Lib.hid (fun h : b.length ≤ 3000 => List.take_of_length_le h)
  clear hM hc hi
  generalize hBe : b.take 3000 = B at *
  go_enter Tryd.func3, Tryd.ntmps3
  go_upto_if 24 with fail
  go_cut [0] (fun x wx => x = .string ⟨B.toArray⟩ ∧ wx = w)
  case first =>
    by_cases h3 : b.length ≤ 3000
    · have hle : ¬ 3000 < b.length := by omega
      go_wp2_with fail
      go_meet
      case rel => exact ⟨by rw [HB.out h3], rfl⟩
    · have h4 : 3000 < b.length := by omega
      have HX := Lib.hid (show (⟨b.toArray⟩ : ByteArray).extract 0 3000 = ⟨B.toArray⟩ by
        rw [← hBe]
        apply ByteArray.ext
        rw [ByteArray.data_extract]
        apply Array.toList_inj.1
        simp)
      go_wp2_with fail
      go_meet
      case rel => exact ⟨congrArg Value.string HX.out, rfl⟩
  case rest =>
  obtain ⟨rfl, hw⟩ := hcut
  have hw := hw.symm
  subst hw
  go_upto_region 7 with (first
    | (go_at_call 7; refine (hn w).mono ?_; rintro e w1 ⟨⟨b1, rfl, s1, g1⟩, f1⟩; have S1 := Lib.hid s1; have F1 := Lib.hid f1; have k1 := s1.lt; have k2 := f1.size; clear s1 f1)
    | (go_at_call 7; refine (hn _).mono ?_; rintro e w2 ⟨⟨b2, rfl, s2, g2⟩, f2⟩; have S2 := Lib.hid s2; have S1 := Lib.hid (S1.out.fr f2 (by simp)); have F2 := Lib.hid (F1.out.trans f2); have k3 := s2.lt; have k4 := f2.size; clear s2 f2)
    | (go_at_call 8; refine (cput_any (l := []) S1.out B (by simpa using hB) (HM.out.past F2.out (by simp))).mono ?_; rintro e w3 ⟨rfl, s3, f3⟩; have S3 := Lib.hid s3; have S4 := Lib.hid (S2.out.fr f3 (by simp; omega)); have F3 := Lib.hid (F2.out.past f3 (by simpa using g1)); have k5 := f3.size; clear s3 f3))
  have HBA := Lib.hid (asks_len B)
  have n1 : b1 ≠ 0 := by omega
  have n2 : b2 ≠ 0 := by omega
  have HN1 := Lib.hid n1
  have HN2 := Lib.hid n2
  clear n1 n2 hn hb hsz hBe HB S1 S2
  go_wp2_with fail
  go_loopw [9, 11, 12] (fun a9 _ _ wr => CtA w3 b1 b2 B a9 wr) (fun _ _ _ wr => inLen b1 wr)
  case atStart => exact ⟨[], B, rfl, hB, by simpa using S3.out, S4.out, World.ownsRow_nil _ _ _ _, Fr.refl _ _⟩
  case round =>
    obtain ⟨acc, l, ha, hl, h1, h2, ho, hf⟩ := hrel
    have FW := Lib.hid (F3.out.past hf (by simpa using g1))
    have HA := Lib.hid ha
    have H1 := Lib.hid h1
    have H2 := Lib.hid h2
    have HO := Lib.hid ho
    have HF := Lib.hid hf
    have q1 := hf.size
    have HLn := Lib.hid (show inLen b1 wr = l.length by simp [inLen, (blk5 h1).2.2.2.1, size_mk, cS])
    clear ha h1 h2 ho hf
    cases hk : (ask false l).1 with
    | some a =>
      have hc := cline_some H1.out hl HN1.out (HM.out.past FW.out (by simp)) hk
      have HL := Lib.hid (ask_less hk)
      have HS := Lib.hid (asks_some hk)
      have hla : acc.length + 1 ≤ 3000 := by
        have e1 := HA.out
        rw [HS.out] at e1
        have e2 := congrArg List.length e1
        have e3 := HBA.out.1
        simp at e2
        omega
      clear hk
      go_wp2_with (first
        | (go_at_call 9; refine hc.mono ?_; rintro e w4 ⟨rfl, s4, f4⟩
           have k6 := f4.size
           have HO4 := Lib.hid (ownsRow_fr HO.out f4 (by simp; omega))
           have S1' := Lib.hid s4
           have S2' := Lib.hid (H2.out.fr f4 (by simp; omega))
           have F4 := Lib.hid (HF.out.trans f4)
           clear s4 f4)
        | (at_builtin; refine wpList_append_own _ rfl (.tmp 62) (.tmp 64) 28 rfl w3.heap.size 9 i0 _ 1 16 Tryd.underlying28 hi0 hz0 hz1 hz2 rfl (by decide) _ _ _ rfl (HO4.out.alloc _) ⟨w4.heap.size, 0, none⟩ 1 1 [.string ⟨a.toArray⟩] rfl rfl (cell_one_new _ _ _) (by simp [Value.oneCell']) (by unfold maxLen; omega) (by omega) (by simp; omega) ?_; intro v5 w5 ho5 hg5 _
           have F5 := Lib.hid ((F4.out.alloc (.cells #[.string ⟨a.toArray⟩] 9)).fresh hg5 (fun r e => Or.inl (HO4.out.lt r e).1))
           have S1'' := Lib.hid (show SsAt TS w5 b1 _ from keep_own S1'.out HO4.out hg5 (by omega))
           have S2'' := Lib.hid (show SsAt TS w5 b2 _ from keep_own S2'.out HO4.out hg5 (by omega))
           have HO5 := Lib.hid ho5
           obtain ⟨va, vc, rfl⟩ := ownsRow_shape ho5
           clear ho5 hg5))
      go_roundw
      case rel => exact ⟨acc ++ [a], (ask false l).2, by rw [← HA.out, HS.out]; simp, by have := HL.out; omega, S1''.out, S2''.out, by rw [← strsL_snoc, List.length_append]; exact HO5.out, F5.out⟩
      case measure =>
        have e1 := (blk5 S1''.out).2.2.2.1
        have e2 := HL.out
        rw [HLn.out]
        simp only [inLen, e1, size_mk, cS]
        exact e2
    | none =>
      have hc := cline_none H1.out hl HN1.out (HM.out.past FW.out (by simp)) hk
      have HAc := Lib.hid (show acc = asks B by
        have e1 := HA.out
        rw [asks_done hk, List.append_nil] at e1
        exact e1)
      clear hk
      have HBg : Hid (b1 < w3.heap.size ∧ b2 < w3.heap.size ∧ b1 ≠ b2) := Lib.hid ⟨by omega, by omega, by omega⟩
      go_upto_region 13 with (go_at_call 9; refine hc.mono ?_; rintro e w4 ⟨rfl, s4, f4⟩)
      have k6 := f4.size
      have HO4 := Lib.hid (show w4.ownsRow w3.heap.size 9 1 _ (asks B).length (strsL (asks B)) from by rw [← HAc.out]; exact ownsRow_fr HO.out f4 (by simp; exact HBg.out.1))
      have S2' := Lib.hid (H2.out.fr f4 (by simp; exact fun h => HBg.out.2.2 h.symm))
      have F4 := Lib.hid (HF.out.trans f4)
      have FW4 := Lib.hid (F3.out.past F4.out (by simpa using g1))
      clear s4 f4
      clear hc HAc H1 H2 HO HF FW HLn HA S3 S4 F1 F2 hl
      have HBl := Lib.hid (size_mk B)
      go_upto_block 2 with fail
      go_cut [10, 13] (fun a10 a13 wx => CtB w4 b2 B a10 a13 wx)
      case first =>
        go_wp2_with fail
        go_loopw [10, 13, 72] (fun a10 a13 a72 wr => CtB w4 b2 B a10 a13 wr ∧ ∃ k : Nat, k ≤ cuts.length ∧ a72 = .int .i64 k) (fun _ _ a72 _ => cuts.length - (intOf a72).toNat)
        case atStart => exact ⟨⟨[], [], B, rfl, rfl, by simpa using hB, S2'.out, World.ownsRow_nil _ _ _ _, Fr.refl _ _⟩, 0, Nat.zero_le _, rfl⟩
        case round =>
          obtain ⟨⟨c, l, rest, rfl, ha, hl, h2, ho, hf⟩, k, hk, rfl⟩ := hrel
          have FW := Lib.hid (FW4.out.past hf (by simp; omega))
          have HA := Lib.hid ha
          have H2 := Lib.hid h2
          have HO := Lib.hid ho
          have HF := Lib.hid hf
          have q1 := hf.size
          have hrl := size_mk rest
          clear ha h2 ho hf
          by_cases hlt : k < cuts.length
          · obtain ⟨cb, co, rfl, y0⟩ := (HC.out.fr FW.out).at hlt
            have hin := HI.out _ (List.getElem_mem hlt)
            generalize cuts[k] = n at *
            by_cases h50 : 50 ≤ k
            · have h50' : (50 : Int) ≤ (k : Int) := by omega
              go_wp2_with fail
              go_meet
              case rel => exact ⟨c, l, rest, rfl, HA.out, hl, H2.out, HO.out, HF.out⟩
            · have h50' : (k : Int) < 50 := by omega
              clear h50
              by_cases hr : rest = []
              · subst hr
                go_wp2_with fail
                go_meet
                case rel => exact ⟨c, l, [], rfl, HA.out, hl, H2.out, HO.out, HF.out⟩
              · have hr0 : 0 < rest.length := List.length_pos_iff.2 hr
                have hr1 : ((rest.length : Int) == 0) = false := by simpa using hr
                clear hr
                go_upto_region 19 with fail
                have hKe : ∃ K : Nat, K ≤ rest.length ∧ min ((wrap64 (n.tmod 17 + 17)).tmod 17) (rest.length : Int) = (K : Int) := by
                  have e1 : -17 < n.tmod 17 ∧ n.tmod 17 < 17 := by
                    rcases Int.lt_or_le n 0 with h | h
                    · have := Int.tmod_eq_emod (a := n) (b := 17)
                      have h2 := Int.emod_nonneg n (show (17 : Int) ≠ 0 by decide)
                      have h3 := Int.emod_lt_of_pos n (show (0 : Int) < 17 by decide)
                      split at this <;> omega
                    · rw [Int.tmod_eq_emod_of_nonneg h]
                      have h2 := Int.emod_nonneg n (show (17 : Int) ≠ 0 by decide)
                      have h3 := Int.emod_lt_of_pos n (show (0 : Int) < 17 by decide)
                      omega
                  have e2 : wrap64 (n.tmod 17 + 17) = n.tmod 17 + 17 := by unfold wrap64; omega
                  rw [e2, Int.tmod_eq_emod_of_nonneg (by omega)]
                  generalize n.tmod 17 + 17 = m at *
                  have h2 := Int.emod_nonneg m (show (17 : Int) ≠ 0 by decide)
                  exact ⟨(min (m % 17) (rest.length : Int)).toNat, by omega, by omega⟩
                obtain ⟨K, hK, hKe⟩ := hKe
                rw [hKe]
                clear hKe
                have hx := fun wx => cut_head rest K hK wx
                have hy := fun wx => cut_tail rest K hK wx
                have hK0 : (0 : Int) ≤ (K : Int) := by omega
                have hK1 : (K : Int) ≤ (rest.length : Int) := by omega
                have hp := cput_any H2.out (rest.take K) (by rw [List.length_take]; omega) (HM.out.past FW.out (by simp))
                have hlK : (l ++ rest.take K).length ≤ 3000 := by rw [List.length_append, List.length_take]; omega
                have hlR : (rest.drop K).length = rest.length - K := List.length_drop
                have HAs := Lib.hid (show l ++ rest = (l ++ rest.take K) ++ rest.drop K by rw [List.append_assoc, List.take_append_drop])
                have hl3 : (l ++ rest.take K).length + (rest.drop K).length ≤ 3000 := by rw [List.length_append, List.length_take, hlR]; omega
                rw [HAs.out] at HA
                generalize l ++ rest.take K = l2 at *
                generalize rest.drop K = r2 at *
                go_upto_region 22 with (go_at_call 8; refine hp.mono ?_; rintro e w5 ⟨rfl, s5, f5⟩)
                have k7 := f5.size
                have HO5 := Lib.hid (ownsRow_fr HO.out f5 (by simp; omega))
                have H5 := Lib.hid s5
                have F5 := Lib.hid (HF.out.trans f5)
                have FW5 := Lib.hid (FW4.out.past F5.out (by simp; omega))
                clear s5 f5 hp hx hy
                have k9 : b2 < w4.heap.size := by omega
                by_cases h3 : n.tmod 3 = 0
                · have h3b : (n.tmod 3 == 0) = true := by simpa using h3
                  clear h3
                  cases hka : (ask false l2).1 with
                  | some a =>
                    have hc := cline_some H5.out hlK HN2.out (HM.out.past FW5.out (by simp)) hka
                    have HL := Lib.hid (ask_less hka)
                    have HS := Lib.hid (asks_more r2 hka)
                    have hla : c.length + 1 ≤ 3000 := by
                      have e1 := HA.out
                      rw [HS.out] at e1
                      have e2 := congrArg List.length e1
                      have e3 := HBA.out.1
                      simp at e2
                      omega
                    clear hka
                    go_wp2_with (first
                      | (go_at_call 9; refine hc.mono ?_; rintro e w6 ⟨rfl, s6, f6⟩
                         have k8 := f6.size
                         have HO6 := Lib.hid (ownsRow_fr HO5.out f6 (by simp; omega))
                         have H6 := Lib.hid s6
                         have F6 := Lib.hid (F5.out.trans f6)
                         clear s6 f6)
                      | (at_builtin; refine wpList_append_own _ rfl (.tmp 109) (.tmp 111) 28 rfl w4.heap.size 9 i0 _ 1 16 Tryd.underlying28 hi0 hz0 hz1 hz2 rfl (by decide) _ _ _ rfl (HO6.out.alloc _) ⟨w6.heap.size, 0, none⟩ 1 1 [.string ⟨a.toArray⟩] rfl rfl (cell_one_new _ _ _) (by simp [Value.oneCell']) (by unfold maxLen; omega) (by omega) (by simp; omega) ?_; intro v7 w7 ho7 hg7 _
                         have F7 := Lib.hid ((F6.out.alloc (.cells #[.string ⟨a.toArray⟩] 9)).fresh hg7 (fun r e => Or.inl (HO6.out.lt r e).1))
                         have H7 := Lib.hid (show SsAt TS w7 b2 _ from keep_own H6.out HO6.out hg7 (by omega))
                         have HO7 := Lib.hid ho7
                         obtain ⟨va, vc, rfl⟩ := ownsRow_shape ho7
                         clear ho7 hg7))
                    go_roundw
                    case rel => exact ⟨⟨c ++ [a], (ask false l2).2, r2, rfl, by rw [← HA.out, HS.out]; simp, by have := HL.out; omega, H7.out, by rw [← strsL_snoc, List.length_append]; exact HO7.out, F7.out⟩, k + 1, by omega, by go_num⟩
                    case measure => simp [intOf]; omega
                  | none =>
                    have hc := cline_none H5.out hlK HN2.out (HM.out.past FW5.out (by simp)) hka
                    have HL := Lib.hid (ask_len false l2)
                    have HS := Lib.hid (asks_left r2 hka)
                    clear hka
                    go_wp2_with (go_at_call 9; refine hc.mono ?_; rintro e w6 ⟨rfl, s6, f6⟩
                                 have k8 := f6.size
                                 have HO6 := Lib.hid (ownsRow_fr HO5.out f6 (by simp; omega))
                                 have H6 := Lib.hid s6
                                 have F6 := Lib.hid (F5.out.trans f6)
                                 clear s6 f6)
                    go_roundw
                    case rel => exact ⟨⟨c, (ask false l2).2, r2, rfl, by rw [HS.out]; exact HA.out, by have := HL.out; omega, H6.out, HO6.out, F6.out⟩, k + 1, by omega, by go_num⟩
                    case measure => simp [intOf]; omega
                · have h3b : (n.tmod 3 == 0) = false := by simpa using h3
                  clear h3
                  go_wp2_with fail
                  go_roundw
                  case rel => exact ⟨⟨c, l2, r2, rfl, HA.out, hl3, H5.out, HO5.out, F5.out⟩, k + 1, by omega, by go_num⟩
                  case measure => simp [intOf]; omega
          · go_wp2_with fail
            go_meet
            case rel => exact ⟨c, l, rest, rfl, HA.out, hl, H2.out, HO.out, HF.out⟩
      case rest =>
        obtain ⟨c, l, rest, rfl, ha, hl, h2, ho, hf⟩ := hcut
        generalize wc = w5 at *
        have k9 : b2 < w4.heap.size := by omega
        have q5 := hf.size
        have FW5 := Lib.hid (FW4.out.past hf (by simp; omega))
        have hp := cput_any h2 rest hl (HM.out.past FW5.out (by simp))
        have HA := Lib.hid ha
        have HO := Lib.hid ho
        have HF := Lib.hid hf
        have hll : (l ++ rest).length ≤ 3000 := by rw [List.length_append]; exact hl
        generalize l ++ rest = l3 at *
        clear ha h2 ho hf
        go_upto_block 4 with (go_at_call 8; refine hp.mono ?_; rintro e w6 ⟨rfl, s6, f6⟩)
        have q6 := f6.size
        have HO6 := Lib.hid (ownsRow_fr HO.out f6 (by simp; omega))
        have H6 := Lib.hid s6
        have F6 := Lib.hid (HF.out.trans f6)
        clear s6 f6 hp HO HF
        go_wp2_with fail
        go_loopw [10] (fun a10 wr => CtC w4 b2 B a10 wr) (fun _ wr => inLen b2 wr)
        case atStart => exact ⟨c, l3, HA.out, hll, H6.out, HO6.out, F6.out⟩
        case round =>
          clear HA hll HO6 H6 F6
          obtain ⟨c, l, ha, hl, h2, ho, hf⟩ := hrel
          have FW := Lib.hid (FW4.out.past hf (by simp; omega))
          have q7 := hf.size
          have HLn := Lib.hid (show inLen b2 wr = l.length by simp [inLen, (blk5 h2).2.2.2.1, size_mk, cS])
          have hcl : c.length ≤ 3000 := by
            have e2 := congrArg List.length ha
            have e3 := HBA.out.1
            simp at e2
            omega
          have HA := Lib.hid ha
          have H2 := Lib.hid h2
          have HO := Lib.hid ho
          have HF := Lib.hid hf
          clear ha h2 ho hf
          cases hk : (ask false l).1 with
          | some a =>
            have hc := cline_some H2.out hl HN2.out (HM.out.past FW.out (by simp)) hk
            have HL := Lib.hid (ask_less hk)
            have HS := Lib.hid (asks_some hk)
            clear hk
            obtain ⟨va0, vc0, rfl⟩ := ownsRow_shape HO.out
            go_wp2_with (first
              | (go_at_call 9; refine hc.mono ?_; rintro e w6 ⟨rfl, s6, f6⟩
                 have k8 := f6.size
                 have HO6 := Lib.hid (ownsRow_fr HO.out f6 (by simp; omega))
                 have H6 := Lib.hid s6
                 have F6 := Lib.hid (HF.out.trans f6)
                 clear s6 f6)
              | (at_builtin; refine wpList_append_own _ rfl (.tmp 128) (.tmp 130) 28 rfl w4.heap.size 9 i0 _ 1 16 Tryd.underlying28 hi0 hz0 hz1 hz2 rfl (by decide) _ _ _ rfl (HO6.out.alloc _) ⟨w6.heap.size, 0, none⟩ 1 1 [.string ⟨a.toArray⟩] rfl rfl (cell_one_new _ _ _) (by simp [Value.oneCell']) (by unfold maxLen; omega) (by omega) (by simp; omega) ?_; intro v7 w7 ho7 hg7 _
                 have F7 := Lib.hid ((F6.out.alloc (.cells #[.string ⟨a.toArray⟩] 9)).fresh hg7 (fun r e => Or.inl (HO6.out.lt r e).1))
                 have H7 := Lib.hid (show SsAt TS w7 b2 _ from keep_own H6.out HO6.out hg7 (by omega))
                 have HO7 := Lib.hid ho7
                 obtain ⟨va, vc, rfl⟩ := ownsRow_shape ho7
                 clear ho7 hg7))
            go_roundw
            case rel => exact ⟨c ++ [a], (ask false l).2, by rw [← HA.out, HS.out]; simp, by have := HL.out; omega, H7.out, by rw [← strsL_snoc, List.length_append]; exact HO7.out, F7.out⟩
            case measure =>
              have e1 := (blk5 H7.out).2.2.2.1
              have e2 := HL.out
              rw [HLn.out]
              simp only [inLen, e1, size_mk, cS]
              exact e2
          | none =>
            have hc := cline_none H2.out hl HN2.out (HM.out.past FW.out (by simp)) hk
            have HAc := Lib.hid (show c = asks B by
              have e1 := HA.out
              rw [asks_done hk, List.append_nil] at e1
              exact e1)
            clear hk
            obtain ⟨va0, vc0, rfl⟩ := ownsRow_shape HO.out
            go_upto_region 33 with (go_at_call 9; refine hc.mono ?_; rintro e w6 ⟨rfl, s6, f6⟩)
            have k8 := f6.size
            have OC := Lib.hid (show w6.ownsRow w4.heap.size 9 1 _ (asks B).length (strsL (asks B)) from by rw [← HAc.out]; exact ownsRow_fr HO.out f6 (by simp; omega))
            have F6 := Lib.hid (HF.out.trans f6)
            have OA := Lib.hid (show w6.ownsRow w3.heap.size 9 1 _ (asks B).length (strsL (asks B)) from ownsRow_fr HO4.out F6.out (by simp; exact HBg.out.2.1))
            have FW6 := Lib.hid (FW4.out.past F6.out (by simp; omega))
            obtain ⟨xa, xc, rfl⟩ := ownsRow_shape OA.out
            have hcn : c.length = (asks B).length := by rw [HAc.out]
            rw [hcn] at OC ⊢
            have HBl2 := HBA.out.1
            have HBn := Lib.hid HBA.out.2
            generalize asks B = A at *
            clear s6 f6 hc HAc HA H2 HO HF FW HLn hcn HBA HO4 F4
            go_wp2_with fail
            go_loopw [21, 139] (fun _ a139 wr => Fr [] w6 wr ∧ ∃ k : Nat, k ≤ A.length ∧ a139 = .int .i64 k) (fun _ a139 _ => A.length - (intOf a139).toNat)
            case atStart => exact ⟨Fr.refl _ _, 0, Nat.zero_le _, rfl⟩
            case round =>
              obtain ⟨hf, k, hk, rfl⟩ := hrel
              have HF := Lib.hid hf
              by_cases hlt2 : k < A.length
              · obtain ⟨ga, rfl, x1⟩ := strs_at (ownsRow_fr OA.out hf (by simp)) hlt2
                obtain ⟨gc, rfl, x2⟩ := strs_at (ownsRow_fr OC.out hf (by simp)) hlt2
                have hne := (HBn.out _ (List.getElem_mem hlt2)).1
                generalize A[k] = x at *
                have t1 : (⟨x.toArray⟩ : ByteArray).toList.isEmpty = false := by rw [ByteArray.toList_eq]; simpa using hne
                have t2 : ¬ (⟨x.toArray⟩ : ByteArray).toList = [] := by rw [ByteArray.toList_eq]; exact hne
                generalize (⟨x.toArray⟩ : ByteArray) = T at *
                have t3 : (T.toList != T.toList) = false := by simp
                have t4 : (T.toList == []) = false := by simpa using t2
                have i1 : (0 : Int) ≤ (k : Int) := by omega
                have i2 : (k : Int) < (A.length : Int) := by omega
                clear hf hne
                go_wp2_with fail
                go_quiet (fail)
                go_wp2_with fail
                go_roundw
                case rel => exact ⟨HF.out.drewN _, k + 1, by omega, by go_num⟩
                case measure => simp [intOf]; omega
              · have FWr := Lib.hid (FW6.out.trans hf)
                clear hf
                go_wp2_with (go_at_call 10; refine (known_any _ (HM.out.past FWr.out (by simp))).mono ?_; rintro e w8 ⟨rfl, f8⟩)
                go_ret
                exact ⟨rfl, FWr.out.trans f8⟩
end Go.Proofs.YtgdneoajmaeckaaDoor
