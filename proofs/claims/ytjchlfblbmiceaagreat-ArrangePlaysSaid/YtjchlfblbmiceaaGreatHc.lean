/- zset.groups at updates. No condition but the sizes. -/
import Derived.Test.YtjchlfblbmiceaaGreatQc
import Derived.Test.YtjchlfblbmiceaaGreatGc
namespace Go.Proofs.YtjchlfblbmiceaaGreat.upd
open Go.RowKit srt grp

instance keyDec : DecidableEq (Int × List Dt) := inferInstance
def pr (e : El) : (Int × List Dt) × Int := (key e, e.n)
theorem cmpUS : grp.Strict cmpU := ⟨fun a b => cmpU_swap a b, fun _ _ h => cmpU_eq h, fun _ _ _ h k => cmpU_trans h k⟩
/-- What groups leaves. -/
def GrpPost (w : World) (bo : Nat) (f : Nat → El) (N : Nat) (s : Int) (e : Ending) (w' : World) : Prop :=
  (e = .returned (.int .i64 0) ∧ (∀ r, fitB (s * sumK (firsts (fun k => pr (f k)) N) r) = true) ∧ ∃ outs, OutAt w w' bo outs ∧ Canon cmpU (outs.map pr) (fun r => s * sumK (firsts (fun k => pr (f k)) N) r) ∧ (∀ x ∈ outs, ElOk x) ∧ outs.length ≤ N) ∨
  (e = .returned (.int .i64 30) ∧ (∃ r, fitB (s * sumK (firsts (fun k => pr (f k)) N) r) = false) ∧ Fr [bo] w w')

/-- The head of the outer loop. -/
def GrpR (w : World) (g bo : Nat) (f : Nat → El) (N : Nat) (s : Int) (x : Value) (wr : World) : Prop :=
  ∃ (o M cp : Nat) (a : Option Addr) (outs : List El), x = .slice a M cp ∧ o + M = N ∧ M ≤ cp ∧ (0 < M → a = some ⟨g, o * 3, none⟩) ∧ OutAt w wr bo outs ∧ Grp cmpU (fun k => pr (f k)) N s o (outs.map pr) ∧ (∀ i, i < o → fitB (s * sumK (firsts (fun k => pr (f k)) N) (key (f i))) = true) ∧ (∀ x ∈ outs, ElOk x) ∧ outs.length ≤ o

/-- The head of the inner loop. -/
def InR (wa : World) (x : Nat) (f : Nat → El) (o M : Nat) (k0 : Value) (wr : World) : Prop :=
  ∃ k : Nat, k0 = .int .i64 k ∧ k ≤ M ∧ LongAt x (grp.part (fun k => pr (f k)) o k) wr ∧ Fr [x] wa wr ∧ ∀ j, j < k → key (f (o + j)) = key (f o)

/-- Behind it. -/
def InP (wa : World) (x : Nat) (f : Nat → El) (o M : Nat) (k0 : Value) (wr : World) : Prop :=
  ∃ k : Nat, k0 = .int .i64 k ∧ 0 < k ∧ k ≤ M ∧ LongAt x (grp.part (fun k => pr (f k)) o k) wr ∧ Fr [x] wa wr ∧ (∀ j, j < k → key (f (o + j)) = key (f o)) ∧ (k = M ∨ key (f (o + k)) ≠ key (f o))

theorem GrpR.next {w w7 : World} {g bo N o M cp k : Nat} {f : Nat → El} {s : Int} {outs : List El} (hoM : o + M = N) (hkM : k ≤ M) (hMc : M ≤ cp) (hout : OutAt w w7 bo outs) (hg : Grp cmpU (fun k => pr (f k)) N s (o + k) (outs.map pr))
    (hf : ∀ i, i < o + k → fitB (s * sumK (firsts (fun k => pr (f k)) N) (key (f i))) = true) (hok : ∀ x ∈ outs, ElOk x) (hol : outs.length ≤ o + k) : GrpR w g bo f N s (.slice (some ⟨g, o * 3 + k * 3, none⟩) (M - k) (cp - k)) w7 :=
  ⟨o + k, M - k, cp - k, _, outs, rfl, by omega, by omega, fun _ => by rw [Nat.add_mul], hout, hg, hf, hok, hol⟩
theorem GrpR.shut {w w7 : World} {g bo N o M cp k : Nat} {a : Option Addr} {f : Nat → El} {s : Int} {outs : List El} (hoM : o + M = N) (hkM : k ≤ M) (hck : cp = k) (hMc : M ≤ cp) (hout : OutAt w w7 bo outs) (hg : Grp cmpU (fun k => pr (f k)) N s (o + k) (outs.map pr))
    (hf : ∀ i, i < o + k → fitB (s * sumK (firsts (fun k => pr (f k)) N) (key (f i))) = true) (hok : ∀ x ∈ outs, ElOk x) (hol : outs.length ≤ o + k) : GrpR w g bo f N s (.slice a (M - k) 0) w7 :=
  ⟨o + k, M - k, 0, a, outs, rfl, by omega, by omega, fun h => by omega, hout, hg, hf, hok, hol⟩
theorem pr_snoc {e e' : El} {T : Int} {outs : List El} (h1 : e'.rd = e.rd) (h0 : e'.t = e.t) (h2 : e'.n = T) : outs.map pr ++ [((pr e).1, T)] = (outs ++ [e']).map pr := by
  simp [pr, key, h1, h0, h2]
theorem ok_snoc {e e' : El} {T : Int} {outs : List El} (h : ∀ x ∈ outs, ElOk x) (h1 : e'.rd = e.rd) (h0 : e'.t = e.t) (h2 : e'.n = T) (he : ElOk e) (hT : fitB T = true) : ∀ x ∈ outs ++ [e'], ElOk x := by
  intro x hx
  rcases List.mem_append.1 hx with hx | hx
  · exact h x hx
  · rw [List.mem_singleton.1 hx]
    exact ⟨by rw [h1]; exact he.len, by rw [h0]; exact he.t, by rw [h2]; exact (fitB_iff T).1 hT⟩

theorem part_bound {f : Nat → El} {N : Nat} (h : ∀ k, k < N → ElOk (f k)) (o : Nat) : ∀ k, o + k ≤ N → -(k * 9223372036854775808 : Int) ≤ grp.part (fun k => pr (f k)) o k ∧ grp.part (fun k => pr (f k)) o k ≤ (k * 9223372036854775808 : Int)
  | 0, _ => by rw [part_zero]; omega
  | k + 1, hk => by
    have := part_bound h o k (by omega)
    have h2 := (h (o + k) (by omega)).n
    rw [part_succ]
    have e : (pr (f (o + k))).2 = (f (o + k)).n := rfl
    rw [e]
    omega

theorem Srt.frS {S : List Nat} {g N : Nat} {w w' : World} {f : Nat → El} (h : Srt g N w f) (k : Fr S w w') (hS : g ∉ S) : Srt g N w' f := by
  obtain ⟨cur, hb, hc⟩ := h
  exact ⟨cur, k.heap hb hS, hc⟩

theorem OutAt.fr {w0 w w' : World} {bo : Nat} {outs : List El} (h : OutAt w0 w bo outs) (k : Fr [] w w') : OutAt w0 w' bo outs := by
  obtain ⟨hbo, hf, v, hcell, hown, hrows⟩ := h
  exact ⟨hbo, hf.trans k.nil, v, k.heap hcell (by simp), ownsRow_fr hown k (by simp), fun e he => (hrows e he).fr k (by simp)⟩

set_option maxRecDepth 100000
set_option maxHeartbeats 3200000 in
theorem groups_any {w : World} {g N cap bo bx : Nat} {f : Nat → El} {ms : Bool} (h : Srt g N w f) (hbx : w.cell? ⟨bx, 0, none⟩ = some (.func (.func 65) #[] #[])) (hbb : bx ≠ bo) (hgb : g ≠ bo) (hbo : OutAt w w bo []) (hrow : ∀ k, k < N → ElOk (f k) ∧ ∀ wi, Fr [bo] w wi → RowAt wi (f k).rv (f k).rd) (hs : Srtd ec f 0 N) (hN : N ≤ 3518437208882) (hcap : N ≤ cap) :
    Calls Tryz.prog 70 #[.slice (some ⟨g, 0, none⟩) N cap, .func (.func 71) #[] #[.pointer (some ⟨bx, 0, none⟩)], .func (.func 72) #[] #[], .bool ms, .func (.func 73) #[] #[.pointer (some ⟨bo, 0, none⟩)]] w (GrpPost w bo f N (sgn ms)) := by
  have H := Lib.hid h
  have HRow := Lib.hid hrow
  have HS := Lib.hid hs
  have HBo := Lib.hid hbo
  have HBx := Lib.hid hbx
  have hgl : g < w.heap.size := by obtain ⟨cur, hb, -⟩ := h; exact (Array.getElem?_eq_some_iff.1 hb).1
  clear h hrow hs hbo hbx
  go_enter Tryz.func70, Tryz.ntmps70
  go_wp2_with fail
  go_loopw [0] (fun x wr => GrpR w g bo f N (sgn ms) x wr) (fun x _ => lenOf x)
  case atStart => exact ⟨0, N, cap, _, [], rfl, by omega, hcap, fun _ => by simp, HBo.out, Grp.start _ _ _, fun i hi => by omega, by simp, by simp⟩
  case round =>
    obtain ⟨o, M, cp, a, outs, rfl, hoM, hMc, ha, hout, hgrp, hfit, hok, hol⟩ := hrel
    have HOut := Lib.hid hout
    have HGrp := Lib.hid hgrp
    have HFit := Lib.hid hfit
    have HOk := Lib.hid hok
    have hfr := hout.2.1
    have hsz := hfr.size
    have HFr := Lib.hid hfr
    clear hout hgrp hfit hok hfr
    by_cases hM : 0 < M
    · obtain rfl := ha hM
      have hw0 : wr.heap.size ≠ bo := by have := HOut.out.1; omega
      have hw1 : wr.heap.size ≠ g := by omega
      go_upto_block 2 with fail
      have hfx : Fr [] wr (wr.alloc (.cells #[.int .u64 0, .int .u64 0] 133)) := (Fr.refl [] wr).alloc _
      have hlx := LongAt.zero wr
      have HFx := Lib.hid hfx
      have HLx := Lib.hid hlx
      have hFR : ∀ wi, Fr [wr.heap.size] (wr.alloc (.cells #[.int .u64 0, .int .u64 0] 133)) wi → Fr [] wr wi := fun wi k => hfx.past k (by simp)
      have HFR := Lib.hid hFR
      clear hfx hlx hFR
      generalize wr.heap.size = x at *
      generalize wr.alloc (.cells #[.int .u64 0, .int .u64 0] 133) = wA at *
      have hFA : ∀ wi, Fr [x] wA wi → Fr [bo] w wi := fun wi k => (HFr.out.trans HFx.out.nil).past k (by simp; omega)
      have HFA := Lib.hid hFA
      clear hFA
      go_cut [12] (fun k0 wx => InP wA x f o M k0 wx)
      case first =>
        as_aux_lemma =>
        go_wp2_with fail
        go_loopw [12] (fun k0 wr => InR wA x f o M k0 wr) (fun k0 _ => M - (intOf k0).toNat)
        case atStart => exact ⟨0, rfl, Nat.zero_le _, HLx.out, Fr.refl _ _, fun j hj => by omega⟩
        case round =>
          obtain ⟨k, rfl, hkM, hl, hf, hkeys⟩ := hrel
          have HL := Lib.hid hl
          have HF := Lib.hid hf
          have HKeys := Lib.hid hkeys
          by_cases hlt : k < M
          · have hsr := H.out.frS (HFA.out _ hf) (by simpa using hgb)
            have hc0 := hsr.cell (k := o) (by omega)
            have hck := hsr.cell (k := o + k) (by omega)
            rw [Nat.add_mul] at hck
            obtain ⟨x0, x1, x2, x3, x4, x5⟩ := hc0
            obtain ⟨y0, y1, y2, y3, y4, y5⟩ := hck
            have r1 := HRow.out o (by omega)
            have r2 := HRow.out (o + k) (by omega)
            have hc2 : ∀ p : FrBy wr, Calls Tryz.prog 71 #[.agg #[.slice (f o).ra (f o).rl (f o).rc, .int .i64 (f o).t, .int .i64 (f o).n], .agg #[.slice (f (o + k)).ra (f (o + k)).rl (f (o + k)).rc, .int .i64 (f (o + k)).t, .int .i64 (f (o + k)).n], .pointer (some ⟨bx, 0, none⟩)] p.wn fun x w' => x = .returned (.bool (sameB (f o) (f (o + k)))) ∧ Fr [] p.wn w' := fun p => same_any (((HFA.out _ hf).trans p.fr.nil).cell HBx.out (by simpa using hbb)) (r1.2 _ ((HFA.out _ hf).trans p.fr.nil)) (r2.2 _ ((HFA.out _ hf).trans p.fr.nil)) (by have := r1.1.len; omega)
            have u0 : ∀ p : FrBy wr, p.wn.cell? ⟨g, o * 3, none⟩ = some (.slice (f o).ra (f o).rl (f o).rc) := fun p => p.fr.cell x0 (by simp)
            have u1 : ∀ p : FrBy wr, p.wn.cell? ⟨g, o * 3 + 1, none⟩ = some (.int .i64 (f o).t) := fun p => p.fr.cell x1 (by simp)
            have u1b : ∀ p : FrBy wr, p.wn.cell? ⟨g, o * 3 + 2, none⟩ = some (.int .i64 (f o).n) := fun p => p.fr.cell x2 (by simp)
            have v0 : ∀ p : FrBy wr, p.wn.cell? ⟨g, o * 3 + k * 3, none⟩ = some (.slice (f (o + k)).ra (f (o + k)).rl (f (o + k)).rc) := fun p => p.fr.cell y0 (by simp)
            have v1 : ∀ p : FrBy wr, p.wn.cell? ⟨g, o * 3 + k * 3 + 1, none⟩ = some (.int .i64 (f (o + k)).t) := fun p => p.fr.cell y1 (by simp)
            have v1b : ∀ p : FrBy wr, p.wn.cell? ⟨g, o * 3 + k * 3 + 2, none⟩ = some (.int .i64 (f (o + k)).n) := fun p => p.fr.cell y2 (by simp)
            have HC := Lib.hid hc2
            have HSr := Lib.hid hsr
            have hn2 := r2.1.n
            clear hl hf hkeys r1 r2 hc2 x0 x1 x2 x3 x4 x5 y0 y1 y2 y3 y4 y5 hsr
            generalize hcv : sameB (f o) (f (o + k)) = cv at HC
            have HCV := Lib.hid hcv
            clear hcv
            cases cv
            · go_upto_region 4 with fail
              refine wp_region_fr (by kernel_rfl) (by kernel_rfl) ?_
              repeat (go_big_quiet_step ((go_at_call 71; exact Calls.fr_of (HC.out _))))
              refine wpQuiet_nil ?_
              intro wn hwn
              have fn : Fr [] wr wn := by obtain ⟨p, rfl⟩ := hwn; exact p.fr
              have FN := Lib.hid fn
              clear hwn u0 u1 u1b v0 v1 v1b HC fn
              go_wp2_with fail
              go_meet
              refine ⟨k, rfl, ?_, hkM, HL.out.fr FN.out, HF.out.trans FN.out.nil, HKeys.out, Or.inr fun e => ?_⟩
              · by_cases h0 : k = 0
                · have := HCV.out; rw [h0] at this; simp [sameB] at this
                · omega
              · have := HCV.out; unfold sameB at this; rw [e] at this; simp at this
            · go_upto_region 4 with fail
              refine wp_region_fr (by kernel_rfl) (by kernel_rfl) ?_
              repeat (go_big_quiet_step ((go_at_call 71; exact Calls.fr_of (HC.out _))))
              refine wpQuiet_nil ?_
              intro wn hwn
              have fn : Fr [] wr wn := by obtain ⟨p, rfl⟩ := hwn; exact p.fr
              have FN := Lib.hid fn
              have hln := HL.out.fr fn
              obtain ⟨c0, c1, z0, z1⟩ := hln.cells
              have hck := (HSr.out.fr fn).cell (k := o + k) (by omega)
              rw [Nat.add_mul] at hck
              obtain ⟨y0, y1, y2, y3, y4, y5⟩ := hck
              have HLn := Lib.hid hln
              clear hwn u0 u1 u1b v0 v1 v1b HC fn hln y3 y4 y5
              generalize hS : grp.part (fun k => pr (f k)) o k = S at HLn c0 c1
              have HSS := Lib.hid hS
              clear hS
              go_upto_region 5 with fail
              go_region_with (first
                | (go_at_call 72; refine (nOf_any _ (f (o + k))).mono ?_; rintro e5 w5 ⟨rfl, f5⟩; have F5 : Fr [] wn w5 := (Fr.drew (Fr.refl [] wn)).trans f5; have hl5 := HLn.out.fr F5; obtain ⟨c5, d5, z5, t5⟩ := hl5.cells)
                | (go_at_call 96; refine (plus_ex S _ _ hn2).mono ?_; rintro e6 w6 ⟨rfl, f6⟩; have F6 := F5.trans f6; have hl6 := HLn.out.fr F6; obtain ⟨c6, d6, z6, t6⟩ := hl6.cells))
              all_goals
                have HL6 := Lib.hid hl6
                have HF6 := Lib.hid F6
                clear hl6 F6 c6 d6 z6 t6 f6
                go_wp2_with fail
                go_roundw
                case rel => exact ⟨k + 1, by go_num, by omega, by
                    rw [part_succ, HSS.out]
                    exact HL6.out.set (T := S + (f (o + k)).n), (HF.out.trans (FN.out.trans HF6.out).nil).set2 _ _ _ _, fun j hj => by
                    by_cases h0 : j = k
                    · have := HCV.out; unfold sameB at this; rw [decide_eq_true_iff] at this; rw [h0]; exact this.symm
                    · exact HKeys.out j (by omega)⟩
                case measure => simp [intOf] <;> omega
          · have hk2 := Lib.hid (show k = M by omega)
            have hd : decide ((k : Int) < (M : Int)) = false := decide_eq_false (by omega)
            clear hl hf hkeys
            go_upto_region 4 with fail
            go_quiet (fail)
            go_wp2_with fail
            go_meet
            exact ⟨k, rfl, by omega, hkM, HL.out, HF.out.drewN _, HKeys.out, Or.inl hk2.out⟩
      case rest =>
        as_aux_lemma =>
        obtain ⟨k, rfl, hk0, hkM, hl, hf, hkeys, hend⟩ := hcut
        have HL := Lib.hid hl
        have HF := Lib.hid hf
        have hwhole := HGrp.out.whole cmpUS (fun i j x y => HS.out i j (by omega) x y) hk0 (show o + k ≤ N by omega) hkeys (hend.imp (fun e => by omega) id)
        have hnext := HGrp.out.next cmpUS (fun i j x y => HS.out i j (by omega) x y) hk0 (show o + k ≤ N by omega) hkeys (hend.imp (fun e => by omega) id)
        have HWhole := Lib.hid hwhole
        have HKeys := Lib.hid hkeys
        have HNext := Lib.hid hnext
        have hbd := part_bound (fun k h => (HRow.out k h).1) o k (by omega)
        have hkN : (k : Int) ≤ 4398046511103 := by omega
        clear hl hf hkeys hend hwhole hnext HLx
        generalize wc = wx at *
        generalize hS : grp.part (fun k => pr (f k)) o k = S at *
        go_upto_if 47 with fail
        go_cut [] (fun wy => LongAt x (sgn ms * S) wy ∧ Fr [x] wx wy)
        case first =>
          cases ms
          · go_wp2_with fail
            go_meet
            exact ⟨by rw [sgn_false]; exact HL.out, Fr.refl _ _⟩
          · obtain ⟨c0, c1, z0, z1⟩ := HL.out.cells
            have h0 : ∀ w, (callFunc 97 #[.int .u64 0, .int .u64 ((lo S : Nat) : Int), .int .u64 0]).run Tryz.prog w = .ok (.value (.tuple #[.int .u64 ((lo (-S) : Nat) : Int), .int .u64 ((if 0 < lo S + 0 then 1 else 0 : Nat) : Int)])) w := fun w => by
              rw [← lo_neg]; exact sub64_run 0 (lo S) 0 (by omega) w
            have h1 : ∀ w, (callFunc 97 #[.int .u64 0, .int .u64 ((hi S : Nat) : Int), .int .u64 ((if 0 < lo S + 0 then 1 else 0 : Nat) : Int)]).run Tryz.prog w = .ok (.value (.tuple #[.int .u64 ((hi (-S) : Nat) : Int), .int .u64 ((if 0 < hi S + (if 0 < lo S + 0 then 1 else 0) then 1 else 0 : Nat) : Int)])) w := fun w => by
              rw [← hi_neg]; exact sub64_run 0 (hi S) _ (by split <;> omega) w
            generalize (if 0 < lo S + 0 then 1 else 0 : Nat) = b1 at h0 h1
            generalize (if 0 < hi S + b1 then 1 else 0 : Nat) = b2 at h1
            clear hbd
            go_wp2_with (first | simp only [h0] | simp only [h1])
            go_meet
            exact ⟨by rw [sgn_true]; exact HL.out.set, (Fr.refl _ _).set2 _ _ _ _⟩
        case rest =>
          obtain ⟨hl2, hf2⟩ := hcut
          obtain ⟨c0, c1, z0, z1⟩ := hl2.cells
          have hFW := HFA.out _ (HF.out.trans hf2)
          have hFR2 := HFR.out _ (HF.out.trans hf2)
          have HFW := Lib.hid hFW
          have HFR2 := Lib.hid hFR2
          clear hl2 hf2 hFW hFR2 HL HF HFx HFA HFR
          generalize wc = wz at *
          have hbT : -85070591730234615865843651857942052864 ≤ sgn ms * S ∧ sgn ms * S ≤ 85070591730234615865843651857942052864 := by
            cases ms
            · rw [sgn_false]; omega
            · rw [sgn_true]; omega
          generalize hTe : sgn ms * S = T at *
          have HTe := Lib.hid hTe
          clear hTe
          by_cases hT : fitB T = true
          · have hq : ∀ wi, Calls Tryz.prog 98 #[.agg #[.int .u64 (hi T : Nat), .int .u64 (lo T : Nat)]] wi fun e w' => e = .returned (.tuple #[.int .i64 T, .bool true]) ∧ Fr [] wi w' := fun wi => by
              have := fits_any T wi hbT.1 hbT.2
              rw [fits_lo hT, hT] at this
              exact this
            have HT := Lib.hid hT
            clear hbT hT hbd
            have hfit2 : ∀ i, i < o + k → fitB (sgn ms * sumK (firsts (fun k => pr (f k)) N) (key (f i))) = true := fun i hi => by
              by_cases h9 : i < o
              · exact HFit.out i h9
              · have e : key (f i) = (pr (f o)).1 := by
                  have := HKeys.out (i - o) (by omega)
                  rwa [show o + (i - o) = i by omega] at this
                rw [e, HWhole.out, HTe.out]
                exact HT.out
            have HFit2 := Lib.hid hfit2
            clear hfit2
            by_cases hT0 : T = 0
            · have hb : (T != 0) = false := by simp [hT0]
              have HG := Lib.hid (HNext.out.1 hT0)
              clear hT0
              by_cases hck : cp = k
              · have HCk := Lib.hid hck
                go_wp2_with (go_at_call 98; refine (hq _).mono ?_; rintro e7 w7 ⟨rfl, f7⟩)
                go_roundw
                case rel => exact GrpR.shut hoM hkM HCk.out hMc (HOut.out.fr (HFR2.out.trans f7)) HG.out HFit2.out HOk.out (by omega)
                case measure => simp [lenOf]; omega
              · go_wp2_with (go_at_call 98; refine (hq _).mono ?_; rintro e7 w7 ⟨rfl, f7⟩)
                go_roundw
                case rel => exact GrpR.next hoM hkM hMc (HOut.out.fr (HFR2.out.trans f7)) HG.out HFit2.out HOk.out (by omega)
                case measure => simp [lenOf]; omega
            · have hb : (T != 0) = true := by simp [hT0]
              have HG := Lib.hid (HNext.out.2 hT0)
              clear hT0
              have hput : ∀ wi, Fr [] wz wi → Calls Tryz.prog 73 #[.agg #[.slice (f o).ra (f o).rl (f o).rc, .int .i64 (f o).t, .int .i64 (f o).n], .int .i64 T, .pointer (some ⟨bo, 0, none⟩)] wi fun x w' => x = .returned (.tuple #[]) ∧ ∃ e' : El, e'.rd = (f o).rd ∧ e'.t = (f o).t ∧ e'.n = T ∧ OutAt w w' bo (outs ++ [e']) := fun wi fi =>
                put_any (HOut.out.fr (HFR2.out.trans fi)) ((HRow.out o (by omega)).2 _ (HFW.out.trans fi.nil)) (HRow.out o (by omega)).1.len (by omega)
              have hsr := H.out.frS HFW.out (by simpa using hgb)
              have HSr := Lib.hid hsr
              have HPut := Lib.hid hput
              clear hsr hput
              by_cases hck : cp = k
              · have HCk := Lib.hid hck
                go_wp2_with (first
                  | (go_at_call 98; refine (hq _).mono ?_; rintro e7 w7 ⟨rfl, f7⟩; obtain ⟨y0, y1, y2, y3, y4, y5⟩ := (HSr.out.fr f7).cell (k := o) (by omega))
                  | (go_at_call 73; refine (HPut.out _ f7).mono ?_; rintro e8 w8 ⟨rfl, e', he1, he0, he2, ho8⟩))
                go_roundw
                case rel => exact GrpR.shut hoM hkM HCk.out hMc ho8 (pr_snoc he1 he0 he2 ▸ HG.out) HFit2.out (ok_snoc HOk.out he1 he0 he2 (HRow.out o (by omega)).1 HT.out) (by simp; omega)
                case measure => simp [lenOf]; omega
              · go_wp2_with (first
                  | (go_at_call 98; refine (hq _).mono ?_; rintro e7 w7 ⟨rfl, f7⟩; obtain ⟨y0, y1, y2, y3, y4, y5⟩ := (HSr.out.fr f7).cell (k := o) (by omega))
                  | (go_at_call 73; refine (HPut.out _ f7).mono ?_; rintro e8 w8 ⟨rfl, e', he1, he0, he2, ho8⟩))
                go_roundw
                case rel => exact GrpR.next hoM hkM hMc ho8 (pr_snoc he1 he0 he2 ▸ HG.out) HFit2.out (ok_snoc HOk.out he1 he0 he2 (HRow.out o (by omega)).1 HT.out) (by simp; omega)
                case measure => simp [lenOf]; omega
          · have hT2 : fitB T = false := by simpa using hT
            have hq : ∀ wi, ∃ y, Calls Tryz.prog 98 #[.agg #[.int .u64 (hi T : Nat), .int .u64 (lo T : Nat)]] wi fun e w' => e = .returned (.tuple #[.int .i64 y, .bool false]) ∧ Fr [] wi w' := fun wi => by
              have := fits_any T wi hbT.1 hbT.2
              rw [hT2] at this
              exact ⟨_, this⟩
            have hbad : ∃ r, fitB (sgn ms * sumK (firsts (fun k => pr (f k)) N) r) = false := ⟨(pr (f o)).1, by rw [HWhole.out, HTe.out]; exact hT2⟩
            have HBad := Lib.hid hbad
            clear hbT hT hT2 hbd hbad
            go_wp2_with (go_at_call 98; obtain ⟨y, hy⟩ := hq _; refine hy.mono ?_; rintro e7 w7 ⟨rfl, f7⟩)
            go_ret
            exact Or.inr ⟨rfl, HBad.out, HFW.out.trans f7.nil⟩
    · as_aux_lemma =>
      obtain rfl : M = 0 := by omega
      have hoN := Lib.hid (show o = N by omega)
      clear ha
      go_wp2_with fail
      go_ret
      refine Or.inl ⟨rfl, fun r => ?_, outs, HOut.out, by have := HGrp.out.can; rwa [hoN.out] at this, HOk.out, by have := hoN.out; omega⟩
      by_cases hz : ∃ i, i < N ∧ key (f i) = r
      · obtain ⟨i, hi, rfl⟩ := hz
        exact HFit.out i (by have := hoN.out; omega)
      · have : sumK (firsts (fun k => pr (f k)) N) r = 0 := sumK_none fun p hp e => by
          obtain ⟨i, hi, rfl⟩ := List.mem_map.1 hp
          exact hz ⟨i, List.mem_range.1 hi, e⟩
        rw [this]; simp [fitB]
end Go.Proofs.YtjchlfblbmiceaaGreat.upd
