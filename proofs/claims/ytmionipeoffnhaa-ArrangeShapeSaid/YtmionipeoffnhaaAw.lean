/- The walk of ArrangeShape. No condition but the sizes. -/
import Derived.Test.YtmionipeoffnhaaMc
import Derived.Deep.CutBlock
namespace Go.Proofs.Ytmionipeoffnhaa
open Go.RowKit srt grp

theorem fl_sum (bs : List Bt) : (szs bs).sum = ((bs.map Bt.l).flatten).length := by
  induction bs with
  | nil => rfl
  | cons b bs ih =>
    unfold szs at *
    simp only [List.map_cons, List.sum_cons, List.flatten_cons, List.length_append, ih]
theorem Merged.fl {s s' : Spn} (h : Merged s s') : (szs s'.bs).sum ≤ (szs s.bs).sum := by
  obtain ⟨b1, b2, x, y, o, e1, e2, -, -, -, hl⟩ := h.lists
  rw [fl_sum, fl_sum, e1, e2]
  simp only [List.flatten_append, List.length_append, List.flatten_cons]
  rw [List.length_append] at hl
  split
  · omega
  · rw [List.flatten_cons, List.length_append]; omega
theorem Works.fl {s s' : Spn} (h : Works s s') : (szs s'.bs).sum ≤ (szs s.bs).sum := by
  induction h with
  | refl => exact Nat.le_refl _
  | step _ hm ih => exact Nat.le_trans hm.fl ih
/-- Where a pair is due and the fuel is enough, something is merged. -/
theorem Works.less {s s' : Spn} {i : Nat} (h : Works s s') (hd : dueI (szs s.bs) = some i) (hc : ((nbt s.bs i).l.length + (nbt s.bs (i + 1)).l.length : Int) ≤ s.credit)
    (he : dueI (szs s'.bs) = Option.none ∨ ∃ j, dueI (szs s'.bs) = some j ∧ s'.credit < ((nbt s'.bs j).l.length + (nbt s'.bs (j + 1)).l.length : Int)) : s'.bs.length + 1 ≤ s.bs.length := by
  cases h with
  | refl =>
    rcases he with he | ⟨j, hj, h9⟩
    · rw [hd] at he; cases he
    · rw [hd] at hj; cases hj; omega
  | step h1 hm =>
    have := h1.len
    have := hm.len
    omega
theorem szs_pos {bs : List Bt} (h : ∀ b ∈ bs, b.l ≠ []) : ∀ n ∈ szs bs, 1 ≤ n := by
  intro n hn
  obtain ⟨b, hb, rfl⟩ := List.mem_map.1 hn
  exact List.length_pos_iff.2 (h b hb)
theorem szs_le {bs : List Bt} : ∀ n ∈ szs bs, n ≤ ((bs.map Bt.l).flatten).length := by
  intro n hn
  obtain ⟨b, hb, rfl⟩ := List.mem_map.1 hn
  exact flatten_one hb

/-- A spine between two rounds of work. -/
def ShR (w : World) (p : Nat) (was : Nat) (x : Value) (wr : World) : Prop :=
  ∃ (i : Nat) (s : Spn) (wb : Option Nat), x = .int .i64 i ∧ SpAt wr p wb s ∧ SpOk s ∧ s.credit ≤ 1048576 * ((40 + i : Nat) : Int) ∧ i + s.bs.length ≤ 40 ∧ Hid ((szs s.bs).sum ≤ was) ∧ Fr [] w wr
/-- What a round of work does to a spine that is not halved. -/
def RoundPost (w : World) (p : Nat) (s : Spn) (e : Ending) (w' : World) : Prop :=
  ∃ (s' : Spn) (wb' : Option Nat) (lf : Int), e = .returned (.int .i64 lf) ∧ 0 ≤ lf ∧ SpAt w' p wb' s' ∧ SpOk s' ∧ s'.credit ≤ s.credit + 1048576 ∧ s'.bs.length + 1 ≤ s.bs.length ∧ Hid ((szs s'.bs).sum ≤ (szs s.bs).sum) ∧ Fr [p] w w'
theorem round_any {w : World} {p : Nat} {wb : Option Nat} {s : Spn} (h : SpAt w p wb s) (hk : SpOk s) (hc : s.credit ≤ 100000000) (hh : halvedB (szs s.bs) = false) :
    Calls Try.prog 43 #[.pointer (some ⟨p, 0, none⟩), .int .i64 ((szs s.bs).sum : Nat)] w (RoundPost w p s) := by
  have hsum := fl_sum s.bs
  have hl : ((s.bs.map Bt.l).flatten).length ≤ 8000 := hk.len
  have hfu : fuelE ((szs s.bs).sum : Nat) = ((szs s.bs).sum : Nat) := by unfold fuelE; omega
  have h0 := hk.c0
  have hdu : ∃ i, dueI (szs s.bs) = some i := by
    rcases hq : dueI (szs s.bs) with _ | i
    · rw [due_halved (szs_pos hk.ne)] at hq; rw [hq] at hh; cases hh
    · exact ⟨i, rfl⟩
  obtain ⟨i, hd⟩ := hdu
  refine (work_any h hk (by omega) _).mono fun e w' ⟨s', wb', lf, he, hf, _, hw, _, hx⟩ => ?_
  have hk0 : SpOk { s with credit := s.credit + fuelE ((szs s.bs).sum : Nat) } := ⟨hk.ne, hk.len, hk.mass, by show 0 ≤ s.credit + _; rw [hfu]; omega, by show s.credit + _ ≤ _; rw [hfu]; omega, hk.t, hk.key⟩
  have hk' := hw.ok hk0
  have hcr : s'.credit ≤ s.credit + fuelE ((szs s.bs).sum : Nat) := hw.credit
  have hpl := pair_len hd
  have hle := hw.less (i := i) hd (by show ((nbt s.bs i).l.length + (nbt s.bs (i + 1)).l.length : Int) ≤ s.credit + fuelE ((szs s.bs).sum : Nat); rw [hfu]; omega) (by
    rcases hx with ⟨h9, -⟩ | ⟨j, h9, h8, -⟩
    · exact Or.inl h9
    · exact Or.inr ⟨j, h9, h8⟩)
  have hfl : (szs s'.bs).sum ≤ (szs s.bs).sum := hw.fl
  rw [hfu] at hcr
  have hc0 := hk'.c0
  rcases hx with ⟨-, rfl, hs⟩ | ⟨j, -, -, rfl, hs⟩
  · exact ⟨{ s' with credit := 0 }, wb', _, he, hc0, hs, ⟨hk'.ne, hk'.len, hk'.mass, Int.le_refl _, by show (0 : Int) ≤ 1099511627776; decide, hk'.t, hk'.key⟩, by show (0 : Int) ≤ _; omega, hle, Lib.hid hfl, hf⟩
  · exact ⟨s', wb', 0, he, Int.le_refl _, hs, hk', by omega, hle, Lib.hid hfl, hf⟩

set_option maxRecDepth 100000
set_option maxHeartbeats 12800000 in
theorem shape_walk {w : World} {a0 a1 : Option Addr} {c0 c1 : Nat} {key : List Int} {ops : List OpE} (hk : Src w 1 (.slice a0 key.length c0) key.length (kiC key)) (hkl : key.length ≤ 17592186043904) (ho : OpsAt w (.slice a1 ops.length c1) ops) (hoc : ops.length ≤ c1) (hoa : a1 = none → c1 = 0) :
    Calls Try.prog 10 #[.slice a0 key.length c0, .slice a1 ops.length c1] w fun e w' => e = .returned (.bool true) ∧ Fr [] w w' := by
  have hri := right_any hk hkl
  have hpl := fun wi (f : Fr [] w wi) => played_any false (hk.fr f) hkl (ho.fr f) hoc hoa
  clear hk ho hoc hoa
  by_cases hko : keyOk key = true
  · have hpl2 : ∀ wi, Fr [] w wi → Calls Try.prog 39 #[.slice a0 key.length c0, .slice a1 ops.length c1, .bool false] wi (PlayedOk wi key ops false) := fun wi f => (hpl wi f).mono fun e w' h => h.ok hko
    rw [hko] at hri
    have HRi := Lib.hid hri
    have HPl := Lib.hid hpl2
    clear hri hpl hpl2 hko
    go_enter Try.func10, Try.ntmps10
    go_upto_region 3 with (go_at_call 37; refine HRi.out.mono ?_; rintro e w1 ⟨rfl, f1⟩; have F1 := Lib.hid f1; clear f1)
    go_upto_region 6 with (first
      | (go_at_call 39; refine (HPl.out _ F1.out).mono ?_; rintro e w2 ⟨p, wb, s, all, a9, c9, rfl, f2, hp, hs, hw, hg, -, -⟩; have F2 := Lib.hid (F1.out.trans f2); have HP := Lib.hid (Nat.le_trans F1.out.size hp); have HS := Lib.hid hs; have HG := Lib.hid hg; clear f2 hp hs hw hg)
      | (go_at_call 38; refine (known13_any _).mono ?_; rintro e w3 ⟨rfl, f3⟩; have F3 := Lib.hid (F2.out.trans f3); have HS3 := Lib.hid (HS.out.fr f3); clear f3))
    have hbl := HG.out.bl
    have hflen := HG.out.ok.len
    have hsl := fl_sum s.bs
    have hs8 : (szs s.bs).sum ≤ 8000 := by rw [hsl]; exact hflen
    have hln := szs_len s.bs
    have HLn := Lib.hid hln
    clear hsl hflen hln
    go_upto_region 8 with (first
      | (go_at_call 41; refine (sizes_any HS3.out (by omega)).mono ?_; rintro e w4 ⟨⟨za, zc, rfl, hz⟩, f4⟩; have F4 := Lib.hid (F3.out.trans f4); have HS4 := Lib.hid (HS3.out.fr f4); have HZ := Lib.hid hz; clear f4 hz)
      | (go_at_call 40; refine (sum_any HZ.out (by rw [HLn.out]; omega) (by omega)).mono ?_; rintro e w' ⟨rfl, rfl⟩))
    have hok := HG.out.ok
    have hc40 := HG.out.c1
    have HSt := Lib.hid (show ShR w p (szs s.bs).sum (.int .i64 0) w4 from ⟨0, s, wb, rfl, HS4.out, hok, by omega, by omega, Lib.hid (Nat.le_refl _), F4.out⟩)
    clear hok hc40 hbl HG F1 F2 F3 HS HS3 HS4 F4 HZ HLn HRi HPl
    generalize (szs s.bs).sum = was at *
    go_loopw [8] (fun x wr => ShR w p was x wr) (fun x _ => 100 - (intOf x).toNat)
    case atStart => exact HSt.out
    case round =>
      clear HSt
      obtain ⟨i, s1, wb1, rfl, hs1, hk1, hcr, hil, hwas, hf⟩ := hrel
      have HS1 := Lib.hid hs1
      have HK1 := Lib.hid hk1
      have HF := Lib.hid hf
      have hl1 := fl_sum s1.bs
      have hsm : (szs s1.bs).sum ≤ 8000 := by rw [hl1]; exact hk1.len
      have hle : ∀ n ∈ szs s1.bs, n ≤ 1000000000 := fun n hn => Nat.le_trans (szs_le n hn) (Nat.le_trans hk1.len (by decide))
      have HLe := Lib.hid hle
      have HLn := Lib.hid (szs_len s1.bs)
      have hpo := szs_pos hk1.ne
      have HPo := Lib.hid hpo
      clear hs1 hk1 hf hl1 hle hpo
      have i100 : (i : Int) < 100 := by omega
      by_cases hh : halvedB (szs s1.bs) = true
      · as_aux_lemma =>
        have HH := Lib.hid hh
        clear hh
        go_upto_region 14 with (first
          | (go_at_call 41; refine (sizes_any HS1.out (by omega)).mono ?_; rintro e w5 ⟨⟨za, zc, rfl, hz⟩, f5⟩; have F5 := Lib.hid f5; have HS5 := Lib.hid (HS1.out.fr f5); have HV := Lib.hid (halved_any hz (by rw [HLn.out]; omega) HLe.out); clear hz f5)
          | (go_at_call 42; refine HV.out.mono ?_; rw [HH.out]; rintro e w' ⟨rfl, rfl⟩))
        go_upto_region 15 with (go_at_call 41; refine (sizes_any HS5.out (by omega)).mono ?_; rintro e w6 ⟨⟨zb, zd, rfl, hz⟩, f6⟩; have F6 := Lib.hid (F5.out.trans f6); have HZ6 := Lib.hid hz; clear hz f6)
        have hpw := (halved_sum HH.out).1
        have hw9 := hwas.out
        have hl40 : (szs s1.bs).length ≤ 40 := by rw [HLn.out]; omega
        have HV6 := Lib.hid (fun q : FrBy w6 => (halved_any (HZ6.out.fr q.fr) (by omega) HLe.out).mono (R' := fun e w' => e = .returned (.bool true) ∧ Fr [] q.wn w') (fun e w' ⟨he, hx⟩ => ⟨by rw [he, HH.out], by rw [← hx]; exact Fr.refl _ _⟩))
        have HM6 := Lib.hid (fun q : FrBy w6 => (sum_any (HZ6.out.fr q.fr) (by omega) (by omega)).mono (R' := fun e w' => e = .returned (.int .i64 ((szs s1.bs).sum : Nat)) ∧ Fr [] q.wn w') (fun e w' ⟨he, hx⟩ => ⟨he, by rw [← hx]; exact Fr.refl _ _⟩))
        clear HV HZ6 HLn HLe HPo HK1 HS5 HS1 hwas
        generalize (szs s1.bs).sum = q1 at *
        generalize (szs s1.bs).length = nl at *
        have i1 : (q1 : Int) ≤ (was : Int) := by omega
        refine wp_region_fr (by kernel_rfl) (by kernel_rfl) ?_
        repeat (go_big_quiet_step ((first | (go_at_call 42; exact Calls.fr_of (HV6.out _)) | (go_at_call 40; exact Calls.fr_of (HM6.out _)))))
        have hp4 : wrap64 ((2 : Int) ^ nl) ≤ 2 * (q1 : Int) + 1 := by
          have hp2 : (2 : Int) ^ nl = ((2 ^ nl : Nat) : Int) := by simp
          rw [hp2]
          generalize (2 ^ nl : Nat) = P at hpw
          clear hp2 hcr hil hw9 i1 i100 hkl
          unfold wrap64
          omega
        have HP4 := Lib.hid hp4
        clear hp4
        refine wpQuiet_nil ?_
        intro wn hwn
        have fn : Fr [] w6 wn := by obtain ⟨p, rfl⟩ := hwn; exact p.fr
        clear hwn
        go_wp2_with fail
        go_ret
        exact ⟨by show Ending.returned (Value.bool (decide (wrap64 ((2 : Int) ^ nl) ≤ 2 * (q1 : Int) + 1))) = _; rw [decide_eq_true HP4.out], HF.out.trans (F6.out.trans fn)⟩
      · have HH : Hid (halvedB (szs s1.bs) = false) := Lib.hid (by simpa using hh)
        clear hh
        have hro := round_any HS1.out HK1.out (by omega) HH.out
        go_upto_region 10 with (first
          | (go_at_call 41; refine (sizes_any HS1.out (by omega)).mono ?_; rintro e w5 ⟨⟨za, zc, rfl, hz⟩, f5⟩; have F5 := Lib.hid f5; have HS5 := Lib.hid (HS1.out.fr f5); have HV := Lib.hid (halved_any hz (by rw [HLn.out]; omega) HLe.out); clear hz f5)
          | (go_at_call 42; refine HV.out.mono ?_; rw [HH.out]; rintro e w' ⟨rfl, rfl⟩))
        go_upto_region 11 with (first
          | (go_at_call 41; refine (sizes_any HS5.out (by omega)).mono ?_; rintro e w6 ⟨⟨zb, zd, rfl, hz⟩, f6⟩; have F6 := Lib.hid (F5.out.trans f6); have HS6 := Lib.hid (HS5.out.fr f6); have HM6 := Lib.hid (sum_any hz (by rw [HLn.out]; omega) (by omega)); clear hz f6)
          | (go_at_call 40; refine HM6.out.mono ?_; rintro e w' ⟨rfl, rfl⟩))
        clear hro
        go_upto_region 12 with (go_at_call 43; refine (round_any HS6.out HK1.out (by omega) HH.out).mono ?_; rintro e w7 ⟨s7, wb7, lf, rfl, hlf, hs7, hk7, hc7, hb7, hq7, f7⟩; have HS7 := Lib.hid hs7; have HK7 := Lib.hid hk7; have F7 := Lib.hid ((HF.out.trans F6.out).past f7 (fun x hx => Or.inl (by rw [List.mem_singleton.1 hx]; exact HP.out))); clear hs7 hk7 f7)
        have hl7 := fl_sum s7.bs
        have hsm7 : (szs s7.bs).sum ≤ 8000 := by rw [hl7]; exact HK7.out.len
        have HLn7 := Lib.hid (szs_len s7.bs)
        have hq8 := hq7.out
        have hlf2 : ¬ lf < 0 := by omega
        have HWas := Lib.hid (Nat.le_trans hq7.out hwas.out)
        clear hl7
        generalize (szs s1.bs).sum = q1 at *
        generalize hq9 : (szs s7.bs).sum = q7 at *
        have HQ9 := Lib.hid hq9
        have hq10 : ¬ (q1 : Int) < (q7 : Int) := by omega
        clear hq9
        go_wp2_with (first
          | (go_at_call 41; refine (sizes_any HS7.out (by omega)).mono ?_; rintro e w8 ⟨⟨zb2, zd2, rfl, hz⟩, f8⟩; have F8 := Lib.hid (F7.out.trans f8); have HS8 := Lib.hid (HS7.out.fr f8); have HM8 := Lib.hid (sum_any hz (by rw [HLn7.out]; omega) (by rw [HQ9.out]; omega)); clear hz f8)
          | (go_at_call 40; refine HM8.out.mono ?_; rw [HQ9.out]; rintro e w' ⟨rfl, rfl⟩))
        go_roundw
        case rel => exact ⟨i + 1, s7, wb7, by go_num, HS8.out, HK7.out, by omega, by omega, Lib.hid (by rw [HQ9.out]; exact HWas.out), F8.out⟩
        case measure => simp [intOf] <;> omega
  · have hk2 : keyOk key = false := by simpa using hko
    rw [hk2] at hri
    have HRi := Lib.hid hri
    clear hri hpl hko hk2
    go_enter Try.func10, Try.ntmps10
    go_wp2_with (first
      | (go_at_call 37; refine HRi.out.mono ?_; rintro e w1 ⟨rfl, f1⟩; have F1 := Lib.hid f1; clear f1)
      | (go_at_call 38; refine (known13_any _).mono ?_; rintro e w2 ⟨rfl, f2⟩; have F2 := Lib.hid f2; clear f2))
    go_ret
    exact ⟨rfl, F1.out.trans F2.out⟩
end Go.Proofs.Ytmionipeoffnhaa
