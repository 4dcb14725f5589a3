/- Line of a session. No condition but its sizes, and that the variable MaxLen lies. -/
import Derived.Test.YtgdneoajmaeckaaGreatDoorSp
namespace Go.Proofs.YtgdneoajmaeckaaGreatDoor
open Go.RowKit

theorem trim_yes {l : List UInt8} (h : blankB l = true) (w : World) (hs : l.length ≤ 16000) :
    Calls Tryz.prog 27 #[.string ⟨l.toArray⟩, .string ⟨#[32, 9, 13]⟩] w fun e w' => e = .returned (.string ⟨#[]⟩) ∧ Fr [] w w' :=
  (trim_any l w hs).mono fun e w' ⟨⟨t, h1, h2⟩, f⟩ => by
    rw [h, List.isEmpty_iff] at h2
    subst h2
    exact ⟨h1, f⟩
theorem trim_no {l : List UInt8} (h : blankB l = false) (w : World) (hs : l.length ≤ 16000) :
    Calls Tryz.prog 27 #[.string ⟨l.toArray⟩, .string ⟨#[32, 9, 13]⟩] w fun e w' => (∃ T : ByteArray, e = .returned (.string T) ∧ T.toList.isEmpty = false ∧ ¬ T.toList = []) ∧ Fr [] w w' :=
  (trim_any l w hs).mono fun e w' ⟨⟨t, h1, h2⟩, f⟩ => by
    rw [h] at h2
    refine ⟨⟨_, h1, ?_, ?_⟩, f⟩
    · rw [ByteArray.toList_eq]; exact h2
    · rw [ByteArray.toList_eq]
      intro e
      rw [show t = [] from e] at h2
      cases h2

def openB (S : Ss) : Bool := decide (S.st = 0) || decide (S.st = 2)
def lineO (S : Ss) : Option (List UInt8) := if openB S then (ask (decide (S.st = 2)) S.inp).1 else none
def lineS (S : Ss) : Ss := if openB S then { S with inp := (ask (decide (S.st = 2)) S.inp).2 } else S

def inLen (b : Nat) (W : World) : Nat :=
  match W.cell? ⟨b, 3, none⟩ with
  | some (.string s) => s.size
  | _ => 0

def LineR (S : Ss) (fd : Bool) (b : Nat) (w wr : World) : Prop :=
  ∃ l : List UInt8, l.length ≤ 16000 ∧ SsAt TS wr b { S with inp := l } ∧ ask fd l = ask fd S.inp ∧ Fr [b] w wr

def LineE (S : Ss) (e : Ending) : Prop := e = .returned (.tuple #[.string ⟨((lineO S).getD []).toArray⟩, .bool (lineO S).isSome])

set_option maxRecDepth 100000
set_option maxHeartbeats 1600000 in
theorem line_any {w : World} {b : Nat} {S : Ss} (h : SsAt TS w b S) (ho : S.Ok) (hb : b ≠ 0) (hM : SomeMax w) :
    Calls Tryz.prog 9 #[.pointer (some ⟨b, 0, none⟩)] w fun e w' => LineE S e ∧ SsAt TS w' b (lineS S) ∧ Fr [b] w w' := by
  obtain ⟨c0, c1, c2, c3, c4, y0, y1, y2, y3, y4⟩ := blk5 h
  have hi := ho.ip
  have H := Lib.hid h
  have HM : Hid (∀ wi, Fr [b] w wi → SomeMax wi) := Lib.hid fun wi f => by
    obtain ⟨m, hm⟩ := hM
    exact ⟨m, f.cell hm (by simp; exact fun e => hb e.symm)⟩
  clear h ho hM hb
  by_cases hop : openB S = false
  · have HO := Lib.hid (show lineO S = none by rw [lineO, hop]; rfl)
    have HS := Lib.hid (show lineS S = S by rw [lineS, hop]; rfl)
    simp only [openB, Bool.or_eq_false_iff, decide_eq_false_iff_not] at hop
    obtain ⟨n0, n2⟩ := hop
    have e0 : (S.st != 0) = true := by simpa using n0
    have e2 : (S.st != 2) = true := by simpa using n2
    clear n0 n2
    go_enter Tryz.func9, Tryz.ntmps9
    go_wp2_with fail
    go_ret2
    exact ⟨by unfold LineE; rw [HO.out]; rfl, by rw [HS.out]; exact H.out, Fr.refl _ _⟩
  · have hop1 : openB S = true := by simpa using hop
    have HO := Lib.hid (show lineO S = (ask (decide (S.st = 2)) S.inp).1 by rw [lineO, hop1]; rfl)
    have HS := Lib.hid (show lineS S = { S with inp := (ask (decide (S.st = 2)) S.inp).2 } by rw [lineS, hop1]; rfl)
    have hfd : ∃ fd, (S.st = 0 ∧ fd = false ∨ S.st = 2 ∧ fd = true) ∧ fd = decide (S.st = 2) := by
      simp only [openB, Bool.or_eq_true, decide_eq_true_eq] at hop1
      rcases hop1 with h | h
      · exact ⟨false, Or.inl ⟨h, rfl⟩, by rw [h]; rfl⟩
      · exact ⟨true, Or.inr ⟨h, rfl⟩, by rw [h]; rfl⟩
    obtain ⟨fd, hfd, hd⟩ := hfd
    have HO := Lib.hid (show lineO S = (ask fd S.inp).1 by rw [HO.out, hd])
    have HS := Lib.hid (show lineS S = { S with inp := (ask fd S.inp).2 } by rw [HS.out, hd])
    clear hop hop1 hd
    have HE : Hid (∀ wr l, SsAt TS wr b { S with inp := l } → ask fd l = ask fd S.inp → Fr [b] w wr → cutN l = none → LineE S (.returned (.tuple #[.string ⟨#[]⟩, .bool false])) ∧ SsAt TS wr b (lineS S) ∧ Fr [b] w wr) := Lib.hid fun wr l h1 h2 h3 h4 => by
      rw [ask_none h4] at h2
      refine ⟨by unfold LineE; rw [HO.out, ← h2]; rfl, by rw [HS.out, ← h2]; exact h1, h3⟩
    rcases hfd with ⟨hst, rfl⟩ | ⟨hst, rfl⟩
    all_goals
      rw [hst] at c1
      have HSt := Lib.hid hst
      clear hst
      go_enter Tryz.func9, Tryz.ntmps9
      go_wp2_with fail
      go_loopw [4, 5, 6] (fun _ _ _ wr => LineR S _ b w wr) (fun _ _ _ wr => inLen b wr)
      case atStart => exact ⟨S.inp, hi, H.out, rfl, Fr.refl _ _⟩
      case round =>
        obtain ⟨l, hl, hs, ha, hf⟩ := hrel
        obtain ⟨d0, d1, d2, d3, d4, z0, z1, z2, z3, z4⟩ := blk5 hs
        simp only [HSt.out] at d1
        have HL := Lib.hid (show inLen b wr = l.length by simp [inLen, d3, size_mk])
        have HQ := Lib.hid hs
        have HA := Lib.hid ha
        have HF := Lib.hid hf
        obtain ⟨hc1, hc2⟩ := cutc_any l wr hl (HM.out _ hf)
        clear hs ha hf
        cases hcut : cutN l with
        | none =>
          have hc := hc1 hcut
          have HC := Lib.hid hcut
          clear hc1 hc2 hcut
          go_wp2_with (go_at_call 26; refine hc.mono ?_; rintro e w1 ⟨rfl, n, rfl⟩)
          go_ret2
          exact HE.out _ l (HQ.out.fr ((Fr.refl [] _).drewN n) (by simp)) HA.out (HF.out.drewN n) HC.out
        | some p =>
          obtain ⟨a, r⟩ := p
          have hc := hc2 a r hcut
          have HC := Lib.hid hcut
          have hlen := cutN_len hcut
          clear hc1 hc2 hcut
          have hal : a.length ≤ 16000 := by omega
          cases hb : blankB a
          · have ht := fun wi => trim_no hb wi hal
            have HB := Lib.hid hb
            clear hb
            first
            | as_aux_lemma =>
              have HR := Lib.hid (ask_line (fed := false) HC.out HB.out rfl)
              go_wp2_with (first | (go_at_call 26; refine hc.mono ?_; rintro e w1 ⟨rfl, n, rfl⟩) | (go_at_call 27; refine (ht _).mono ?_; rintro e w1 ⟨⟨T, rfl, t1, t2⟩, f1⟩; have hq1 := HQ.out.fr (((Fr.refl [] _).drewN n).trans f1) (by simp); obtain ⟨d0', d1', d2', d3', d4', z0', z1', z2', z3', z4'⟩ := blk5 hq1; simp only [HSt.out] at d1'; have HQ1 := Lib.hid hq1; clear hq1))
              go_ret2
              refine ⟨?_, ?_, (HF.out.trans ((((Fr.refl [] _).drewN n).trans f1).mono (by simp))).setCell (p := ⟨b, 3, none⟩) (by simp) _⟩
              · unfold LineE; rw [HO.out, ← HA.out, HR.out]; rfl
              · rw [HS.out, ← HA.out, HR.out]; exact HQ1.out.set3 r
            | by_cases hst : a = [83, 84, 79, 80]
              · subst hst
                have HR := Lib.hid (ask_line (fed := true) HC.out HB.out (by rfl))
                as_aux_lemma =>
                go_wp2_with (first | (go_at_call 26; refine hc.mono ?_; rintro e w1 ⟨rfl, n, rfl⟩) | (go_at_call 27; refine (ht _).mono ?_; rintro e w1 ⟨⟨T, rfl, t1, t2⟩, f1⟩; have hq1 := HQ.out.fr (((Fr.refl [] _).drewN n).trans f1) (by simp); obtain ⟨d0', d1', d2', d3', d4', z0', z1', z2', z3', z4'⟩ := blk5 hq1; simp only [HSt.out] at d1'; have HQ1 := Lib.hid hq1; clear hq1))
                go_ret2
                refine ⟨?_, ?_, (HF.out.trans ((((Fr.refl [] _).drewN n).trans f1).mono (by simp))).setCell (p := ⟨b, 3, none⟩) (by simp) _⟩
                · unfold LineE; rw [HO.out, ← HA.out, HR.out]; rfl
                · rw [HS.out, ← HA.out, HR.out]; exact HQ1.out.set3 r
              · have HR := Lib.hid (ask_stop (fed := true) HC.out HB.out (by simp [STOP, hst]))
                have q1 : ((⟨a.toArray⟩ : ByteArray).toList == [83, 84, 79, 80]) = false := by rw [ByteArray.toList_eq]; simpa using hst
                have q2 : ((⟨a.toArray⟩ : ByteArray).toList != [83, 84, 79, 80]) = true := by rw [ByteArray.toList_eq]; simpa using hst
                have q3 : (a == [83, 84, 79, 80]) = false := by simpa using hst
                clear hst
                as_aux_lemma =>
                go_wp2_with (first | (go_at_call 26; refine hc.mono ?_; rintro e w1 ⟨rfl, n, rfl⟩) | (go_at_call 27; refine (ht _).mono ?_; rintro e w1 ⟨⟨T, rfl, t1, t2⟩, f1⟩; have hq1 := HQ.out.fr (((Fr.refl [] _).drewN n).trans f1) (by simp); obtain ⟨d0', d1', d2', d3', d4', z0', z1', z2', z3', z4'⟩ := blk5 hq1; simp only [HSt.out] at d1'; have HQ1 := Lib.hid hq1; clear hq1))
                go_ret2
                refine ⟨?_, ?_, HF.out.trans ((((Fr.refl [] _).drewN n).trans f1).mono (by simp))⟩
                · unfold LineE; rw [HO.out, ← HA.out, HR.out]; rfl
                · rw [HS.out, ← HA.out, HR.out]; exact HQ1.out
          · have ht := fun wi => trim_yes hb wi hal
            have HR := Lib.hid (fun fd => ask_blank (fed := fd) HC.out hb)
            clear hb
            as_aux_lemma =>
            go_wp2_with (first | (go_at_call 26; refine hc.mono ?_; rintro e w1 ⟨rfl, n, rfl⟩) | (go_at_call 27; refine (ht _).mono ?_; rintro e w1 ⟨rfl, f1⟩; have hq1 := HQ.out.fr (((Fr.refl [] _).drewN n).trans f1) (by simp); obtain ⟨d0', d1', d2', d3', d4', z0', z1', z2', z3', z4'⟩ := blk5 hq1; simp only [HSt.out] at d1'; have HQ1 := Lib.hid (hq1.set3 r); clear hq1))
            go_roundw
            case rel => exact ⟨r, by omega, HQ1.out, by rw [← HR.out]; exact HA.out, (HF.out.trans ((((Fr.refl [] _).drewN n).trans f1).mono (by simp))).setCell (p := ⟨b, 3, none⟩) (by simp) _⟩
            case measure =>
              have := (blk5 HQ1.out).2.2.2.1
              rw [HL.out]
              simp only [inLen, this, size_mk]
              omega
end Go.Proofs.YtgdneoajmaeckaaGreatDoor
