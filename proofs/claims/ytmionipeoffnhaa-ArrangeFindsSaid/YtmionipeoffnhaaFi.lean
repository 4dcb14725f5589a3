/- The walk of ArrangeFinds. No condition but the sizes. -/
import Derived.Test.YtmionipeoffnhaaFp
namespace Go.Proofs.Ytmionipeoffnhaa
open Go.RowKit srt grp

def zeroRow (n : Nat) : List Dt := List.replicate n ⟨0, 0, []⟩
theorem zero_len (n : Nat) : (zeroRow n).length = n := List.length_replicate
theorem made_row (n : Nat) : (madeCells (Value.agg #[.int .i64 0, .int .i64 0, .string ⟨#[]⟩]).cells (n * 3)).toList = dtsC (zeroRow n) := by
  have hz : (Value.agg #[.int .i64 0, .int .i64 0, .string ⟨#[]⟩]).cells = #[.int .i64 0, .int .i64 0, .string ⟨#[]⟩] := by simp [Value.cells]
  rw [hz]
  unfold madeCells
  rw [Array.toList_map, Array.toList_range]
  induction n with
  | zero => rfl
  | succ n ih =>
    have e1 : (n + 1) * 3 = n * 3 + 1 + 1 + 1 := by omega
    have e2 : zeroRow (n + 1) = zeroRow n ++ [⟨0, 0, []⟩] := by unfold zeroRow; rw [List.replicate_succ']
    have m0 : n * 3 % 3 = 0 := by omega
    have m1 : (n * 3 + 1) % 3 = 1 := by omega
    have m2 : (n * 3 + 1 + 1) % 3 = 2 := by omega
    rw [e1, List.range_succ, List.range_succ, List.range_succ, List.map_append, List.map_append, List.map_append, ih, e2]
    unfold dtsC
    rw [List.flatMap_append]
    simp [Dt.cells, m0, m1, m2]

theorem krOf_take {key : List Int} {row : List Dt} {i : Nat} (hi : i < key.length) : (krOf key row).take (i + 1) = (krOf key row).take i ++ [nd row (nki key i).toNat] := by
  rw [List.take_add_one]
  have h : (krOf key row)[i]? = some (nd row (nki key i).toNat) := by unfold krOf; rw [List.getElem?_map, nki_at hi]; rfl
  rw [h]; rfl
theorem fi_snoc (l : List Dt) (d : Dt) : dtsC (l ++ [d]) = dtsC l ++ [.int .i64 d.kind, .int .i64 d.i, .string ⟨d.s.toArray⟩] := by
  unfold dtsC; rw [List.flatMap_append]; simp [Dt.cells]
theorem nz_len {κ : Type} : ∀ {os : List (κ × Int)}, (∀ p ∈ os, p.2 ≠ 0) → os.length ≤ mass os
  | [], _ => Nat.zero_le _
  | p :: os, h => by
    have ih := nz_len (os := os) (fun x hx => h x (by simp [hx]))
    have := h p (by simp)
    rw [mass_cons, List.length_cons]
    omega
theorem find_len {key : List Int} {k : Nat} {s : Spn} {all : List upd.El} {P : upd.El → Bool} {t : Int} {o2 : List El} (g : Gd key k s all) (h : Canon cmpR (o2.map pr) (fun r => 1 * sumK ((atL (s.fl.filter P) t).map pr) r)) : o2.length ≤ 6597069766656000 := by
  have h1 := nz_len h.nz
  rw [List.length_map] at h1
  have h2 := h.mass_le cmpRS (l := (atL (s.fl.filter P) t).map pr) (fun r => by omega)
  have h3 := massU_atL (s.fl.filter P) t
  have h4 := massU_filter P s.fl
  have h5 := g.mass
  have h6 : massU s.fl ≤ massU all := g.inv.mass
  omega
theorem any_snoc {l : List El} {c : El} {j : Nat} (hj : j < l.length) : ((l.take (j + 1)).any fun f => likeB f c) = (((l.take j).any fun f => likeB f c) || likeB (nth l j) c) := by
  rw [List.take_add_one, nth_at hj, List.any_append]; simp
theorem one_cts {w : World} {b n : Nat} {e : El} (hb : w.heap[b]? = some (.cells #[.slice e.ra n e.rc, .int .i64 e.n] 31)) (hr : RowAt w (.slice e.ra n e.rc) e.rd) (ho : ElOk e) : Cts w (.slice (some ⟨b, 0, none⟩) 1 1) [{ e with rl := n }] :=
  ⟨Src.block hb rfl (by intro u hu; simp at hu; rcases hu with rfl | rfl <;> rfl), fun x hx => by rw [List.mem_singleton.1 hx]; exact ⟨hr, ⟨ho.len, ho.n⟩⟩⟩

set_option maxRecDepth 100000
set_option maxHeartbeats 12800000 in
theorem finds_walk {w : World} {a0 a1 : Option Addr} {c0 c1 : Nat} {key : List Int} {ops : List OpE} {t : Int} (hk : Src w 1 (.slice a0 key.length c0) key.length (kiC key)) (hkl : key.length ≤ 17592186043904) (ho : OpsAt w (.slice a1 ops.length c1) ops) (hoc : ops.length ≤ c1) (hoa : a1 = none → c1 = 0) :
    Calls Try.prog 13 #[.slice a0 key.length c0, .slice a1 ops.length c1, .int .i64 t] w fun e w' => e = .returned (.bool true) ∧ Fr [] w w' := by
  obtain ⟨i0, hi, hz0, hz1, hz2⟩ := info_parts infoD
  have hri := right_any hk hkl
  have hpl := fun wi (f : Fr [] w wi) => played_any false (hk.fr f) hkl (ho.fr f) hoc hoa
  have HKy := Lib.hid hk
  clear hk ho hoc hoa
  by_cases hko : keyOk key = true
  · have hpl2 : ∀ wi, Fr [] w wi → Calls Try.prog 39 #[.slice a0 key.length c0, .slice a1 ops.length c1, .bool false] wi (PlayedOk wi key ops false) := fun wi f => (hpl wi f).mono fun e w' h => h.ok hko
    have hk16 := (keyOk_of hko).1
    rw [hko] at hri
    have HRi := Lib.hid hri
    have HPl := Lib.hid hpl2
    clear hri hpl hpl2 hko
    go_enter Try.func13, Try.ntmps13
    go_upto_region 3 with (go_at_call 37; refine HRi.out.mono ?_; rintro e w1 ⟨rfl, f1⟩; have F1 := Lib.hid f1; clear f1)
    go_upto_region 6 with (first
      | (go_at_call 39; refine (HPl.out _ F1.out).mono ?_; rintro e w2 ⟨p, wb, s, all, a9, c9, rfl, f2, hp, hs, hw, hg, -, -⟩; have F2 := Lib.hid (F1.out.trans f2); have HS := Lib.hid hs; have HG := Lib.hid hg; clear f2 hp hs hw hg)
      | (go_at_call 38; refine (known13_any _).mono ?_; rintro e w3 ⟨rfl, f3⟩; have F3 := Lib.hid (F2.out.trans f3); have HS3 := Lib.hid (HS.out.fr f3); clear f3))
    clear F1 F2 HS HRi HPl
    go_upto_region 7 with (go_at_call 49; refine (atAns_any HS3.out HG.out.ok t).mono ?_; rintro e w4 ⟨o1, x1, y1, r1, rfl, f4, k4, A1⟩; have K4 := Lib.hid k4.cts; have F4 := Lib.hid (F3.out.trans f4); have HS4 := Lib.hid (HS3.out.fr f4); clear f4 k4)
    clear F3 HS3
    have hfind : ∀ wi (f : Fr [] w4 wi) (xa : Option Addr) (n xc : Nat) (kr : List Dt) (hr : RowAt wi (.slice xa n xc) kr) (hn : kr.length = n) (hl : n ≤ 1000), Calls Try.prog 54 #[.pointer (some ⟨p, 0, none⟩), .slice xa n xc, .int .i64 t] wi (SpFindPost wi s kr t) := fun wi f xa n xc kr hr hn hl => by
      subst hn
      exact spFind_any (HS4.out.fr f) HG.out.ok HG.out.wide hr hr.cap (by omega) t
    have HFi := Lib.hid hfind
    clear hfind
    rcases A1.out with ⟨a1, e1, e2⟩ | ⟨a1, e1, hc, hn⟩
    · as_aux_lemma =>
      subst e1
      subst e2
      clear A1 K4
      have hask : ∀ wi (f : Fr [] w4 wi) (xa : Option Addr) (xc : Nat) (kr : List Dt), RowAt wi (.slice xa key.length xc) kr → kr.length = key.length → Calls Try.prog 54 #[.pointer (some ⟨p, 0, none⟩), .slice xa key.length xc, .int .i64 t] wi fun e w' => e = .returned (.tuple #[.slice none 0 0, .int .i64 (askE s t)]) ∧ Fr [] wi w' := fun wi f xa xc kr hr hl => (HFi.out wi f xa key.length xc kr hr hl (by omega)).mono fun e w' ⟨fx, hx⟩ => by
        rw [HG.out.ke] at hx
        rcases hx with ⟨h, -⟩ | ⟨-, -, he⟩ | ⟨-, h, -⟩
        · exact absurd hl h
        · exact ⟨he, fx⟩
        · exact absurd h a1
      have HAsk := Lib.hid hask
      clear hask
      generalize askE s t = av at *
      have hav : (av != 0) = true := by simpa using a1
      have hav2 : (av == av) = true := by simp
      clear a1
      go_wp2_with (first
        | (at_make; refine wpList_make_full w4 rfl (.tmp 53) (.tmp 53) 29 rfl w4.heap.size 33 i0 (.agg #[.int .i64 0, .int .i64 0, .string ⟨#[]⟩]) 3 Try.underlying29 hi hz0 hz1 .i64 .i64 (key.length : Int) (key.length : Int) key.length rfl rfl rfl rfl (by rw [hz2]; omega) (by unfold maxLen; omega) (Nat.le_refl _) ?_; intro w5 hown5 hg5; rw [made_row] at hown5; have HR5 := Lib.hid (rowAt_own (ds := zeroRow key.length) (by rw [zero_len]; exact hown5)); have F5 := Lib.hid (Fr.grown hg5); clear hown5 hg5)
        | (go_at_call 54; refine ((HAsk.out _ F5.out _ _ (zeroRow key.length) HR5.out (zero_len _)).mono ?_); rintro e w6 ⟨rfl, f6⟩; have F6 := Lib.hid (F5.out.trans f6); clear f6))
      go_ret
      exact ⟨rfl, F4.out.trans F6.out⟩
    · as_aux_lemma =>
      subst e1
      have hpf := fun c (hm : c ∈ o1) => find_plain HG.out hc hm
      have HPf := Lib.hid hpf
      have hyes : ∀ wi (f : Fr [] w4 wi) (xa : Option Addr) (xc : Nat) (kr : List Dt), RowAt wi (.slice xa key.length xc) kr → kr.length = key.length → Calls Try.prog 54 #[.pointer (some ⟨p, 0, none⟩), .slice xa key.length xc, .int .i64 t] wi fun e w' => ∃ (outs : List El) (a : Option Addr) (c : Nat), e = .returned (.tuple #[.slice a outs.length c, .int .i64 0]) ∧ Fr [] wi w' ∧ Cts w' (.slice a outs.length c) outs ∧ Canon cmpR (outs.map pr) (fun r => 1 * sumK ((atL (s.fl.filter (findB key kr t)) t).map pr) r) := fun wi f xa xc kr hr hl => (HFi.out wi f xa key.length xc kr hr hl (by omega)).mono fun e w' ⟨fx, hx⟩ => by
        rw [HG.out.ke] at hx
        rcases hx with ⟨h, -⟩ | ⟨-, h, -⟩ | ⟨-, -, outs, a, c, he, hl9, hc9⟩
        · exact absurd hl h
        · exact absurd a1 h
        · exact ⟨outs, a, c, he, fx, hl9.cts, hc9⟩
      have hno : ∀ wi (f : Fr [] w4 wi) (xa : Option Addr) (xc : Nat) (kr : List Dt), RowAt wi (.slice xa (key.length + 1) xc) kr → kr.length = key.length + 1 → Calls Try.prog 54 #[.pointer (some ⟨p, 0, none⟩), .slice xa (key.length + 1) xc, .int .i64 t] wi fun e w' => e = .returned (.tuple #[.slice none 0 0, .int .i64 132]) ∧ Fr [] wi w' := fun wi f xa xc kr hr hl => (HFi.out wi f xa (key.length + 1) xc kr hr hl (by omega)).mono fun e w' ⟨fx, hx⟩ => by
        rw [HG.out.ke] at hx
        rcases hx with ⟨-, he⟩ | ⟨h, -⟩ | ⟨h, -⟩
        · exact ⟨he, fx⟩
        · omega
        · omega
      have HYes := Lib.hid hyes
      have HNo := Lib.hid hno
      have HK4 := Lib.hid (HKy.out.fr F4.out)
      clear hpf hyes hno HFi A1 a1 hc HKy
      go_wp2_with fail
      go_loopw [13, 64] (fun n x wr => ∃ k : Nat, n = .int .i64 (k : Int) ∧ x = .int .i64 (k : Int) ∧ k ≤ o1.length ∧ Fr [] w4 wr) (fun _ x _ => o1.length - (intOf x).toNat)
      case atStart => exact ⟨0, rfl, rfl, Nat.zero_le _, Fr.refl _ _⟩
      case round =>
        obtain ⟨k, rfl, rfl, hk, hf⟩ := hrel
        have HF := Lib.hid hf
        by_cases hlt : k < o1.length
        · as_aux_lemma =>
          obtain ⟨b, off, e1, z0, z1⟩ := (K4.out.fr hf).cell hlt
          subst e1
          have hmem := nth_mem hlt
          obtain ⟨hwc, hfd⟩ := HPf.out _ hmem
          obtain ⟨hrow, hel⟩ := K4.out.row _ hmem
          clear hf hmem
          generalize nth o1 k = c at *
          have hrl : c.rl = c.rd.length := by
            obtain ⟨a', c', hv, -⟩ := hrow.shape
            unfold El.rv at hv
            simp only [Value.slice.injEq] at hv
            exact hv.2.1
          have hcl := hel.len
          rw [hrl] at z0
          have hrow2 : RowAt w4 (.slice c.ra c.rd.length c.rc) c.rd := by rw [← hrl]; exact hrow
          have HRow := Lib.hid hrow2
          have HEl := Lib.hid hel
          have HWc := Lib.hid hwc
          have HFd := Lib.hid hfd
          have HRl := Lib.hid hrl
          clear hwc hfd hrow hel hrl hrow2
          go_upto_region 14 with fail
          have fa : Fr [] wr (wr.alloc (.cells #[.slice c.ra c.rd.length c.rc, .int .i64 c.n] 31)) := (Fr.refl [] wr).alloc _
          have hb := heap_alloc_new wr (.cells #[.slice c.ra c.rd.length c.rc, .int .i64 c.n] 31)
          have HFA := Lib.hid (HF.out.trans fa)
          have HB := Lib.hid hb
          clear fa hb z0 z1
          generalize wr.heap.size = cb at *
          generalize wr.alloc (.cells #[.slice c.ra c.rd.length c.rc, .int .i64 c.n] 31) = wa at *
          go_wp2_with fail
          go_loopw [16, 70] (fun v x wr => ∃ i : Nat, x = .int .i64 (i : Int) ∧ i ≤ key.length ∧ Fr [] wa wr ∧ wr.ownsRow wa.heap.size 33 3 v i (dtsC ((krOf key c.rd).take i))) (fun _ x _ => key.length - (intOf x).toNat)
          case atStart => exact ⟨0, rfl, Nat.zero_le _, Fr.refl _ _, World.ownsRow_nil _ _ _ _⟩
          case round =>
            obtain ⟨i, rfl, hik, hf, ho⟩ := hrel
            obtain ⟨va, vc, rfl⟩ := ownsRow_shape ho
            have HO := Lib.hid ho
            have HFr := Lib.hid hf
            have HBr := Lib.hid (hf.heap HB.out (by simp))
            by_cases hilt : i < key.length
            · as_aux_lemma =>
              obtain ⟨kb, ko, ek, v0⟩ := src_key ((HK4.out.fr HFA.out).fr hf) hilt
              subst ek
              obtain ⟨k0, k1⟩ := HWc.out _ (nki_mem hilt)
              have hts := krOf_take (row := c.rd) hilt
              generalize nki key i = kk at *
              obtain ⟨m, rfl⟩ := Int.eq_ofNat_of_zero_le k0
              have hm : m < c.rd.length := by omega
              rw [Int.toNat_natCast] at hts
              obtain ⟨b1, o9, e2, d0, d1, d2⟩ := ((HRow.out.fr HFA.out).fr hf).at hm
              have hd := nd_at hm
              rw [List.getElem?_eq_getElem hm] at hd
              rw [Option.some.inj hd] at d0 d1 d2
              have y0 := cell_blk HBr.out 0 (.slice c.ra c.rd.length c.rc) rfl
              rw [e2] at y0
              generalize nd c.rd m = d at *
              have HTs := Lib.hid hts
              have hszr := hf.size
              have hmm : ¬ (c.rd.length : Int) ≤ (m : Int) := by omega
              clear hts hd hf ho k0 HB HBr
              go_wp2_with (at_builtin; refine wpList_append_src _ rfl (.tmp 79) (.tmp 85) 29 rfl wa.heap.size 33 i0 _ 3 32 Try.underlying29 hi hz0 hz1 hz2 rfl (by decide) (.slice va i vc) i _ rfl (ownsRow_fr HO.out ((Fr.refl [] wr).alloc _) (by simp)) (.slice (some ⟨wr.heap.size, 0, none⟩) 1 1) 1 [.int .i64 d.kind, .int .i64 d.i, .string ⟨d.s.toArray⟩] rfl (Src.block (heap_alloc_new wr _) rfl (by intro u hu; simp at hu; rcases hu with rfl | rfl | rfl <;> rfl)) (by unfold maxLen; omega) (by omega) (by simp; omega) ?_; intro v5 w5 hown5 hgrow5 hblk5; have HOwn5 := Lib.hid hown5; have HG5 := Lib.hid hgrow5; clear hown5 hgrow5 hblk5)
              go_roundw
              case rel =>
                have fb := (Fr.refl [] wr).alloc (.cells #[.int .i64 d.kind, .int .i64 d.i, .string ⟨d.s.toArray⟩] 33)
                have hfin : w5.ownsRow wa.heap.size 33 3 v5 (i + 1) (dtsC ((krOf key c.rd).take (i + 1))) := by rw [HTs.out, fi_snoc]; exact HOwn5.out
                exact ⟨_, _, _, _, ⟨i + 1, by go_num, by omega, (HFr.out.trans fb).fresh HG5.out (fun r e => Or.inl (HO.out.lt r e).1), hfin⟩, rfl, rfl, rfl, rfl⟩
              case measure => simp [intOf] <;> omega
            · as_aux_lemma =>
              obtain rfl : i = key.length := by omega
              have hkr : RowAt wr (.slice va key.length vc) (krOf key c.rd) := rowAt_own (by
                have h9 := ho
                rw [List.take_of_length_le (by rw [krOf_len]; exact Nat.le_refl _)] at h9
                rw [krOf_len]; exact h9)
              have HKr := Lib.hid hkr
              have HFw := Lib.hid (HFA.out.trans hf)
              clear hf ho HO HFr hkr HB HFA
              go_upto_region 23 with (go_at_call 54; refine (HYes.out _ HFw.out _ _ _ HKr.out (krOf_len _ _)).mono ?_; rintro e w6 ⟨o2, x2, y2, rfl, f6, k6, c6⟩)
              obtain ⟨hkd, hex⟩ := HFd.out o2 c6
              have hn2 := find_len HG.out c6
              have HKd := Lib.hid hkd
              have HEx := Lib.hid hex
              have K6 := Lib.hid k6
              have F6 := Lib.hid (HFw.out.trans f6)
              have HKr6 := Lib.hid (HKr.out.fr f6)
              have HB6 := Lib.hid (f6.heap HBr.out (by simp))
              have HK6 := Lib.hid (HK4.out.fr F6.out)
              have HRow6 := Lib.hid (HRow.out.fr F6.out)
              clear hkd hex k6 f6 c6 HKr HBr HFw
              go_wp2_with fail
              go_loopw [21, 99] (fun v x wr => ∃ j : Nat, x = .int .i64 (j : Int) ∧ j ≤ o2.length ∧ Fr [] w6 wr ∧ v = .bool ((o2.take j).any fun f => likeB f c)) (fun _ x _ => o2.length - (intOf x).toNat)
              case atStart => exact ⟨0, rfl, Nat.zero_le _, Fr.refl _ _, rfl⟩
              case round =>
                obtain ⟨j, rfl, hj, hf, rfl⟩ := hrel
                have HF9 := Lib.hid hf
                by_cases hjlt : j < o2.length
                · as_aux_lemma =>
                  obtain ⟨b2, o9, e2, z0, z1⟩ := (K6.out.fr hf).cell hjlt
                  subst e2
                  have hmem := nth_mem hjlt
                  have hkd := HKd.out _ hmem
                  obtain ⟨hrow, hel⟩ := K6.out.row _ hmem
                  have hany := any_snoc (c := c) hjlt
                  clear hmem
                  generalize nth o2 j = f at *
                  have hrl : f.rl = f.rd.length := by
                    obtain ⟨a', c', hv, -⟩ := hrow.shape
                    unfold El.rv at hv
                    simp only [Value.slice.injEq] at hv
                    exact hv.2.1
                  have hfl := hel.len
                  rw [hrl] at z0
                  have hrow2 : RowAt w6 (.slice f.ra f.rd.length f.rc) f.rd := by rw [← hrl]; exact hrow
                  have HFRow := Lib.hid hrow2
                  have HFel := Lib.hid hel
                  have HKf := Lib.hid hkd
                  have HAny := Lib.hid hany
                  clear hrow hel hrl hrow2 hkd hany hf
                  go_upto_region 29 with fail
                  have fa : Fr [] wr (wr.alloc (.cells #[.slice f.ra f.rd.length f.rc, .int .i64 f.n] 31)) := (Fr.refl [] wr).alloc _
                  have hb := heap_alloc_new wr (.cells #[.slice f.ra f.rd.length f.rc, .int .i64 f.n] 31)
                  have HFB := Lib.hid (HF9.out.trans fa)
                  have HB := Lib.hid hb
                  clear fa hb z0 z1 HF9
                  generalize wr.heap.size = fb at *
                  generalize wr.alloc (.cells #[.slice f.ra f.rd.length f.rc, .int .i64 f.n] 31) = wb9 at *
                  have y0 := cell_blk HB.out 0 (.slice f.ra f.rd.length f.rc) rfl
                  have hky := keyed_any (HFRow.out.fr HFB.out) hfl (HK6.out.fr HFB.out) hkl (by rw [krOf_len]; exact HKr6.out.fr HFB.out) (krOf_len _ _) HKf.out
                  rw [krOf_len] at hky
                  have HKy := Lib.hid hky
                  clear hky
                  go_upto_region 31 with (go_at_call 55; refine HKy.out.mono ?_; rintro e w7 ⟨rfl, f7⟩)
                  have HFB7 := Lib.hid (HFB.out.trans f7)
                  have HB7 := Lib.hid (f7.heap HB.out (by simp))
                  have HC7 := Lib.hid (HFB7.out.heap HB6.out (by simp))
                  have HCr := Lib.hid (HRow6.out.fr HFB7.out)
                  have HFr7 := Lib.hid (HFRow.out.fr HFB7.out)
                  have u0 := cell_blk HB7.out 0 (.slice f.ra f.rd.length f.rc) rfl
                  have u1 := cell_blk HB7.out 1 (.int .i64 f.n) rfl
                  have v0 := cell_blk HC7.out 0 (.slice c.ra c.rd.length c.rc) rfl
                  have v1 := cell_blk HC7.out 1 (.int .i64 c.n) rfl
                  clear f7 HFB HB HKy y0 HB7 HC7
                  generalize hbv : ((o2.take j).any fun f => likeB f c) = hv at *
                  have HBv := Lib.hid hbv
                  clear hbv
                  cases hv with
                  | true =>
                    go_wp2_with fail
                    go_roundw
                    case rel => exact ⟨j + 1, by go_num, by omega, HFB7.out, by rw [HAny.out]; rfl⟩
                    case measure => simp [intOf] <;> omega
                  | false =>
                    have hlk : ∀ W, Fr [] w7 W → ∀ g1 g2, W.heap[g1]? = some (.cells #[.slice f.ra f.rd.length f.rc, .int .i64 f.n] 31) → W.heap[g2]? = some (.cells #[.slice c.ra c.rd.length c.rc, .int .i64 c.n] 31) → Calls Try.prog 17 #[.slice (some ⟨g1, 0, none⟩) 1 1, .slice (some ⟨g2, 0, none⟩) 1 1] W fun e w' => e = .returned (.bool (likeB f c)) ∧ Fr [] W w' := fun W fW g1 g2 h1 h2 => like1_any (x := { f with rl := f.rd.length }) (y := { c with rl := c.rd.length }) (one_cts (e := f) (n := f.rd.length) h1 (HFr7.out.fr fW) HFel.out) (one_cts (e := c) (n := c.rd.length) h2 (HCr.out.fr fW) HEl.out)
                    have HLk := Lib.hid hlk
                    have fx := (Fr.refl [] w7).alloc (.cells #[.slice f.ra f.rd.length f.rc, .int .i64 f.n] 31)
                    have v0x := fx.cell v0 (by simp)
                    have v1x := fx.cell v1 (by simp)
                    have ez : (w7.alloc (.cells #[.slice f.ra f.rd.length f.rc, .int .i64 f.n] 31)).heap.size = w7.heap.size + 1 := by simp
                    have h2x := heap_alloc_new (w7.alloc (.cells #[.slice f.ra f.rd.length f.rc, .int .i64 f.n] 31)) (.cells #[.slice c.ra c.rd.length c.rc, .int .i64 c.n] 31)
                    rw [ez] at h2x
                    have h1x := ((Fr.refl [] (w7.alloc (.cells #[.slice f.ra f.rd.length f.rc, .int .i64 f.n] 31))).alloc (.cells #[.slice c.ra c.rd.length c.rc, .int .i64 c.n] 31)).heap (heap_alloc_new w7 (.cells #[.slice f.ra f.rd.length f.rc, .int .i64 f.n] 31)) (by simp)
                    have fxx : Fr [] w7 ((w7.alloc (.cells #[.slice f.ra f.rd.length f.rc, .int .i64 f.n] 31)).alloc (.cells #[.slice c.ra c.rd.length c.rc, .int .i64 c.n] 31)) := fx.alloc _
                    have HL2 := Lib.hid (hlk _ fxx _ _ h1x h2x)
                    have HFx := Lib.hid fxx
                    clear hlk fx v0 v1 ez h2x h1x fxx HLk
                    go_wp2_with (go_at_call 17; refine HL2.out.mono ?_; rintro e w8 ⟨rfl, f8⟩; have F8 := Lib.hid (HFB7.out.trans (HFx.out.trans f8)); clear f8)
                    go_roundw
                    case rel => exact ⟨j + 1, by go_num, by omega, F8.out, by rw [HAny.out]; rfl⟩
                    case measure => simp [intOf] <;> omega
                · as_aux_lemma =>
                  obtain rfl : j = o2.length := by omega
                  have hany : (o2.take o2.length).any (fun f => likeB f c) = true := by
                    rw [List.take_length, List.any_eq_true]
                    obtain ⟨f, hf9, h1, h2⟩ := HEx.out
                    exact ⟨f, hf9, likeB_yes h1 h2⟩
                  rw [hany]
                  clear hany hf
                  go_wp2_with fail
                  go_roundw
                  case rel => exact ⟨k + 1, by go_num, by go_num, by omega, F6.out.trans HF9.out⟩
                  case measure => simp [intOf] <;> omega
        · as_aux_lemma =>
          obtain rfl : k = o1.length := by omega
          have h132 : ((132 : Int) == 132) = true := rfl
          have hkk : (((o1.length : Nat) : Int) == ((o1.length : Nat) : Int)) = true := by simp
          go_wp2_with (first
            | (at_make; refine wpList_make_full wr rfl (.tmp 127) (.tmp 127) 29 rfl wr.heap.size 33 i0 (.agg #[.int .i64 0, .int .i64 0, .string ⟨#[]⟩]) 3 Try.underlying29 hi hz0 hz1 .i64 .i64 ((key.length : Int) + 1) ((key.length : Int) + 1) (key.length + 1) rfl rfl (by simp) (by simp) (by rw [hz2]; omega) (by unfold maxLen; omega) (Nat.le_refl _) ?_; intro w5 hown5 hg5; rw [made_row] at hown5; have HR5 := Lib.hid (rowAt_own (ds := zeroRow (key.length + 1)) (by rw [zero_len]; exact hown5)); have F5 := Lib.hid (HF.out.trans (Fr.grown hg5)); clear hown5 hg5)
            | (go_at_call 54; refine ((HNo.out _ F5.out _ _ (zeroRow (key.length + 1)) HR5.out (zero_len _)).mono ?_); rintro e w6 ⟨rfl, f6⟩; have F6 := Lib.hid (F5.out.trans f6); clear f6))
          go_ret
          exact ⟨rfl, F4.out.trans F6.out⟩
  · have hk2 : keyOk key = false := by simpa using hko
    rw [hk2] at hri
    have HRi := Lib.hid hri
    clear hri hpl hko hk2
    go_enter Try.func13, Try.ntmps13
    go_wp2_with (first
      | (go_at_call 37; refine HRi.out.mono ?_; rintro e w1 ⟨rfl, f1⟩; have F1 := Lib.hid f1; clear f1)
      | (go_at_call 38; refine (known13_any _).mono ?_; rintro e w2 ⟨rfl, f2⟩; have F2 := Lib.hid f2; clear f2))
    go_ret
    exact ⟨rfl, F1.out.trans F2.out⟩
end Go.Proofs.Ytmionipeoffnhaa
