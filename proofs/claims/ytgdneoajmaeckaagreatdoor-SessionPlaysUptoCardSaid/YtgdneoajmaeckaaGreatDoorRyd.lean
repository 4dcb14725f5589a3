/- The reference's session: Line. No condition but its sizes. -/
import Derived.Test.YtgdneoajmaeckaaGreatDoorRyc
import Derived.Test.YtgdneoajmaeckaaGreatDoorSl
namespace Go.Proofs.YtgdneoajmaeckaaGreatDoor
open Go.RowKit

/-- The next line's end: what stands before it is a line of its own. -/
theorem drop_line {l : List UInt8} {f k : Nat} (hfk : f ≤ k) (hk : k < l.length) (h10 : l[k] = 10) : l.drop f = (l.take k).drop f ++ 10 :: l.drop (k + 1) := by
  have h1 : l = l.take k ++ l.drop k := (List.take_append_drop k l).symm
  have h2 : l.drop k = 10 :: l.drop (k + 1) := by rw [List.drop_eq_getElem_cons hk, h10]
  rw [← h2]
  conv => lhs; rw [h1]
  rw [List.drop_append_of_le_length (by rw [List.length_take]; omega)]
theorem seg_step {l : List UInt8} {f k : Nat} (hfk : f ≤ k) (hk : k < l.length) : (l.take (k + 1)).drop f = (l.take k).drop f ++ [l[k]] := by
  rw [List.take_add_one, List.getElem?_eq_getElem hk, List.drop_append_of_le_length (by rw [List.length_take]; omega)]
  rfl
theorem seg_all {l : List UInt8} {f k : Nat} (hk : l.length ≤ k) : (l.take k).drop f = l.drop f := by rw [List.take_of_length_le hk]
theorem cut_seg (l : List UInt8) (f k : Nat) (hfk : f ≤ k) (hk : k ≤ l.length) (wx : World) :
    (Instr.slice 9 (.string ⟨l.toArray⟩) (some (.int .i64 (f : Int))) (some (.int .i64 (k : Int))) none).run Tryz.prog wx = .ok (.string ⟨((l.take k).drop f).toArray⟩) wx := by
  have := run_slice_string (P := Tryz.prog) (w := wx) 9 ⟨l.toArray⟩ .i64 .i64 (f : Int) (k : Int) Tryz.underlying9 (by omega) (by omega) (by rw [size_mk]; omega)
  rw [this]
  have h2 : (⟨l.toArray⟩ : ByteArray).extract ((f : Int)).toNat ((k : Int)).toNat = ⟨((l.take k).drop f).toArray⟩ := by
    apply ByteArray.ext
    rw [ByteArray.data_extract]
    apply Array.toList_inj.1
    simp [List.drop_take]
  rw [h2]

def RlR (S : Ss) (fd : Bool) (w : World) (a3 a4 : Value) (wr : World) : Prop :=
  ∃ f k : Nat, f ≤ k ∧ k ≤ S.inp.length ∧ a3 = .int .i64 f ∧ a4 = .int .i64 k ∧ ask fd (S.inp.drop f) = ask fd S.inp ∧ (∀ c ∈ (S.inp.take k).drop f, c ≠ 10) ∧ Fr [] w wr

set_option maxRecDepth 100000
set_option maxHeartbeats 3200000 in
theorem rline_any {w : World} {b : Nat} {S : Ss} (h : SsAt TR w b S) (ho : S.Ok) :
    Calls Tryz.prog 10 #[.pointer (some ⟨b, 0, none⟩)] w fun e w' => LineE S e ∧ SsAt TR w' b (lineS S) ∧ Fr [b] w w' := by
  obtain ⟨c0, c1, c2, c3, c4, y0, y1, y2, y3, y4⟩ := blk5 h
  have hi := ho.ip
  have H := Lib.hid h
  clear h ho
  by_cases hop : openB S = false
  · have HO := Lib.hid (show lineO S = none by rw [lineO, hop]; rfl)
    have HS := Lib.hid (show lineS S = S by rw [lineS, hop]; rfl)
    simp only [openB, Bool.or_eq_false_iff, decide_eq_false_iff_not] at hop
    obtain ⟨n0, n2⟩ := hop
    have e0 : (S.st != 0) = true := by simpa using n0
    have e2 : (S.st != 2) = true := by simpa using n2
    clear n0 n2
    go_enter Tryz.func10, Tryz.ntmps10
    go_wp2_with fail
    go_ret2
    exact ⟨by unfold LineE; rw [HO.out]; rfl, by rw [HS.out]; exact H.out, Fr.refl _ _⟩
  · have hop1 : openB S = true := by simpa using hop
    have HO := Lib.hid (show lineO S = (ask (decide (S.st = 2)) S.inp).1 by rw [lineO, hop1]; rfl)
    have HS := Lib.hid (show lineS S = { S with inp := (ask (decide (S.st = 2)) S.inp).2 } by rw [lineS, hop1]; rfl)
    have hfd : ∃ fd, (S.st = 0 ∧ fd = false ∨ S.st = 2 ∧ fd = true) ∧ fd = decide (S.st = 2) := by
      simp only [openB, Bool.or_eq_true, decide_eq_true_eq] at hop1
      rcases hop1 with h | h
      · exact ⟨false, Or.inl ⟨h, rfl⟩, by rw [h]; rfl⟩
      · exact ⟨true, Or.inr ⟨h, rfl⟩, by rw [h]; rfl⟩
    obtain ⟨fd, hfd, hd⟩ := hfd
    have HO := Lib.hid (show lineO S = (ask fd S.inp).1 by rw [HO.out, hd])
    have HS := Lib.hid (show lineS S = { S with inp := (ask fd S.inp).2 } by rw [HS.out, hd])
    clear hop hop1 hd
    have HD := Lib.hid (fun wi (f : Fr [] w wi) => H.out.fr f (by simp : b ∉ ([] : List Nat)))
    /- what is answered, once the next line is known -/
    have HE : Hid (∀ wr w2 f o, ask fd (S.inp.drop f) = ask fd S.inp → ask fd (S.inp.drop f) = (o, (ask fd S.inp).2) → SsAt TR w2 b { S with inp := (ask fd S.inp).2 } → Fr [] w wr → Fr [b] wr w2 →
        LineE S (.returned (.tuple #[.string ⟨(o.getD []).toArray⟩, .bool o.isSome])) ∧ SsAt TR w2 b (lineS S) ∧ Fr [b] w w2) := Lib.hid fun wr w2 f o h1 h2 h3 h4 h5 => by
      refine ⟨?_, by rw [HS.out]; exact h3, (h4.mono (by simp)).trans h5⟩
      unfold LineE
      rw [HO.out, ← h1, h2]
    have hsz := size_mk S.inp
    rcases hfd with ⟨hst, rfl⟩ | ⟨hst, rfl⟩
    all_goals
      rw [hst] at c1
      have HSt := Lib.hid hst
      clear hst
      go_enter Tryz.func10, Tryz.ntmps10
      go_wp2_with fail
      go_loopw [4, 5, 6] (fun a3 a4 _ wr => RlR S _ w a3 a4 wr) (fun _ a4 _ _ => S.inp.length - (intOf a4).toNat)
      case atStart => exact ⟨0, 0, Nat.le_refl _, Nat.zero_le _, rfl, rfl, rfl, by simp, Fr.refl _ _⟩
      case round =>
        obtain ⟨f, k, hfk, hk, rfl, rfl, ha, hn, hf⟩ := hrel
        have hs := HD.out wr hf
        obtain ⟨d0, d1, d2, d3, d4, z0, z1, z2, z3, z4⟩ := blk5 hs
        simp only [HSt.out] at d1
        have HQ := Lib.hid hs
        have HA := Lib.hid ha
        have HF := Lib.hid hf
        clear hs ha hf
        by_cases hlt : k < S.inp.length
        · have hlt2 : k < (⟨S.inp.toArray⟩ : ByteArray).size := by rw [size_mk]; exact hlt
          have hbe : (⟨S.inp.toArray⟩ : ByteArray)[k] = S.inp[k] := rfl
          have i1 : (0 : Int) ≤ (k : Int) := by omega
          have i2 : (k : Int) < (S.inp.length : Int) := by omega
          have i3 : (k : Int) ≤ 16000 := by omega
          by_cases h10 : ((⟨S.inp.toArray⟩ : ByteArray)[k].toNat : Int) = 10
          · have z1' : (((⟨S.inp.toArray⟩ : ByteArray)[k].toNat : Int) != 10) = false := by simpa using h10
            have z2' : (((⟨S.inp.toArray⟩ : ByteArray)[k].toNat : Int) == 10) = true := by simpa using h10
            have hbn : (⟨S.inp.toArray⟩ : ByteArray)[k].toNat = 10 := by omega
            have hb10 : S.inp[k] = 10 := hbe ▸ UInt8.toNat_inj.1 hbn
            have hdl := drop_line hfk hlt hb10
            have hcut : cutN (S.inp.drop f) = some ((S.inp.take k).drop f, S.inp.drop (k + 1)) := by rw [hdl]; exact cutN_of _ _ hn
            have hxs : ∀ wx, (Instr.slice 9 (.string ⟨S.inp.toArray⟩) (some (.int .i64 (f : Int))) (some (.int .i64 (k : Int))) none).run Tryz.prog wx = .ok (.string ⟨((S.inp.take k).drop f).toArray⟩) wx := fun wx => cut_seg S.inp f k hfk hk wx
            have hxf : ∀ wx, (Instr.slice 9 (.string ⟨S.inp.toArray⟩) (some (.int .i64 (f : Int))) none none).run Tryz.prog wx = .ok (.string ⟨(S.inp.drop f).toArray⟩) wx := fun wx => cut_tail S.inp f (by omega) wx
            have hxk : ∀ wx, (Instr.slice 9 (.string ⟨S.inp.toArray⟩) (some (.int .i64 ((k : Int) + 1))) none none).run Tryz.prog wx = .ok (.string ⟨(S.inp.drop (k + 1)).toArray⟩) wx := fun wx => cut_tail S.inp (k + 1) (by omega) wx
            have hal : ((S.inp.take k).drop f).length ≤ 140737488351232 := by rw [List.length_drop, List.length_take]; omega
            have hemp := fun wi => rempty_any ((S.inp.take k).drop f) hal wi
            have HCut := Lib.hid hcut
            clear hcut hdl hbe hn hal hbn hb10 h10
            generalize (S.inp.take k).drop f = a at *
            cases hb : blankB a
            · have HB := Lib.hid hb
              rw [hb] at hemp
              clear hb
              first
              | as_aux_lemma =>
                have HR := Lib.hid (ask_line (fed := false) HCut.out HB.out rfl)
                go_wp2_with (go_at_call 28; refine (hemp _).mono ?_; rintro e w1 ⟨rfl, f1⟩; have hq1 := HQ.out.fr f1 (by simp); obtain ⟨d0', d1', d2', d3', d4', z0', z1', z2', z3', z4'⟩ := blk5 hq1; simp only [HSt.out] at d1'; have HQ1 := Lib.hid hq1; clear hq1)
                go_ret2
                exact HE.out wr _ f (some a) HA.out (by rw [← HA.out, HR.out]) (by rw [← HA.out, HR.out]; exact HQ1.out.set3 (S.inp.drop (k + 1))) HF.out ((f1.mono (by simp)).setCell (p := ⟨b, 3, none⟩) (by simp) _)
              | by_cases hst : a = [83, 84, 79, 80]
                · subst hst
                  have HR := Lib.hid (ask_line (fed := true) HCut.out HB.out (by rfl))
                  as_aux_lemma =>
                  go_wp2_with (go_at_call 28; refine (hemp _).mono ?_; rintro e w1 ⟨rfl, f1⟩; have hq1 := HQ.out.fr f1 (by simp); obtain ⟨d0', d1', d2', d3', d4', z0', z1', z2', z3', z4'⟩ := blk5 hq1; simp only [HSt.out] at d1'; have HQ1 := Lib.hid hq1; clear hq1)
                  go_ret2
                  exact HE.out wr _ f (some [83, 84, 79, 80]) HA.out (by rw [← HA.out, HR.out]) (by rw [← HA.out, HR.out]; exact HQ1.out.set3 (S.inp.drop (k + 1))) HF.out ((f1.mono (by simp)).setCell (p := ⟨b, 3, none⟩) (by simp) _)
                · have HR := Lib.hid (ask_stop (fed := true) HCut.out HB.out (by simp [STOP, hst]))
                  have q1 : ((⟨a.toArray⟩ : ByteArray).toList == [83, 84, 79, 80]) = false := by rw [ByteArray.toList_eq]; simpa using hst
                  have q2 : ((⟨a.toArray⟩ : ByteArray).toList != [83, 84, 79, 80]) = true := by rw [ByteArray.toList_eq]; simpa using hst
                  have q3 : (a == [83, 84, 79, 80]) = false := by simpa using hst
                  clear hst
                  as_aux_lemma =>
                  go_wp2_with (go_at_call 28; refine (hemp _).mono ?_; rintro e w1 ⟨rfl, f1⟩; have hq1 := HQ.out.fr f1 (by simp); obtain ⟨d0', d1', d2', d3', d4', z0', z1', z2', z3', z4'⟩ := blk5 hq1; simp only [HSt.out] at d1'; have HQ1 := Lib.hid hq1; clear hq1)
                  go_ret2
                  exact HE.out wr _ f none HA.out (by rw [← HA.out, HR.out]) (by rw [← HA.out, HR.out]; exact HQ1.out.set3 (S.inp.drop f)) HF.out ((f1.mono (by simp)).setCell (p := ⟨b, 3, none⟩) (by simp) _)
            · have HR := Lib.hid (fun fd => ask_blank (fed := fd) HCut.out hb)
              rw [hb] at hemp
              clear hb
              as_aux_lemma =>
              go_wp2_with (go_at_call 28; refine (hemp _).mono ?_; rintro e w1 ⟨rfl, f1⟩)
              go_roundw
              case rel => exact ⟨k + 1, k + 1, Nat.le_refl _, by omega, by go_num, by go_num, by rw [← HR.out]; exact HA.out, by simp, HF.out.trans f1⟩
              case measure => simp [intOf]; omega
          · have z1' : (((⟨S.inp.toArray⟩ : ByteArray)[k].toNat : Int) != 10) = true := by simpa using h10
            have z2' : (((⟨S.inp.toArray⟩ : ByteArray)[k].toNat : Int) == 10) = false := by simpa using h10
            have hbn : ¬ (⟨S.inp.toArray⟩ : ByteArray)[k].toNat = 10 := by omega
            have hb10 : ¬ S.inp[k] = 10 := fun e => hbn (by rw [hbe, e]; rfl)
            have HN := Lib.hid (show ∀ c ∈ (S.inp.take (k + 1)).drop f, c ≠ 10 by
              rw [seg_step hfk hlt]
              intro c hc
              rcases List.mem_append.1 hc with h | h
              · exact hn c h
              · rw [List.mem_singleton.1 h]; exact hb10)
            clear hbn hb10 h10 hn hbe
            as_aux_lemma =>
            go_wp2_with fail
            go_roundw
            case rel => exact ⟨f, k + 1, by omega, by omega, rfl, by go_num, HA.out, HN.out, HF.out⟩
            case measure => simp [intOf]; omega
        · rw [seg_all (by omega)] at hn
          have HR := Lib.hid (fun fd => ask_none (fed := fd) (cutN_no _ hn))
          have hxf : ∀ wx, (Instr.slice 9 (.string ⟨S.inp.toArray⟩) (some (.int .i64 (f : Int))) none none).run Tryz.prog wx = .ok (.string ⟨(S.inp.drop f).toArray⟩) wx := fun wx => cut_tail S.inp f (by omega) wx
          have hk2 : (S.inp.length : Int) ≤ (k : Int) := by omega
          clear hn
          as_aux_lemma =>
          go_wp2_with fail
          go_ret2
          exact HE.out wr _ f none HA.out (by rw [← HA.out, HR.out]) (by rw [← HA.out, HR.out]; exact HQ.out.set3 (S.inp.drop f)) HF.out ((Fr.refl [b] _).setCell (p := ⟨b, 3, none⟩) (by simp) _)
end Go.Proofs.YtgdneoajmaeckaaGreatDoor
