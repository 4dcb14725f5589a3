/- The walk of OracleHolds. -/
import Derived.Test.YtdmhiefjmejfpaaHoldsPlain
import Derived.Test.YtdmhiefjmejfpaaKnown
import Derived.Maps.AppendAt
import Derived.OwnWalk
namespace Go.Proofs.Ytdmhiefjmejfpaa
open Go.RowKit Go.Maps

theorem tmod_place (n m : Int) (h : 0 < m) : (0 ≤ n.tmod m → n.tmod m = n % m) ∧ (n.tmod m < 0 → n.tmod m + m = n % m) ∧ -m < n.tmod m ∧ n.tmod m < m := by
  have e := Int.mul_tdiv_add_tmod n m
  have h1 : n % m = n.tmod m % m := by
    conv => lhs; rw [← e]
    rw [Int.add_comm, Int.add_mul_emod_self_left]
  have l1 := Int.tmod_lt_of_pos n h
  have l2 : -m < n.tmod m := by
    have h3 := Int.natAbs_tmod n m
    have h4 : n.natAbs % m.natAbs < m.natAbs := Nat.mod_lt _ (by omega)
    omega
  refine ⟨fun h0 => ?_, fun h0 => ?_, l2, l1⟩
  · rw [h1, Int.emod_eq_of_lt h0 l1]
  · rw [h1, ← Int.add_emod_right, Int.emod_eq_of_lt (by omega) (by omega)]

theorem place_any (n m : Int) (w : World) (h : 0 < m) (hm : m ≤ 1099511627776) :
    Calls Try.prog 17 #[.int .i64 n, .int .i64 m] w fun e w' => e = .returned (.int .i64 (n % m)) ∧ w = w' := by
  obtain ⟨p1, p2, p3, p4⟩ := tmod_place n m h
  by_cases h0 : 0 ≤ n.tmod m
  · have HE := Lib.hid (p1 h0)
    clear p1 p2
    go_enter Try.func17, Try.ntmps17
    go_wp2
    go_ret
    exact ⟨ret_int HE.out, rfl⟩
  · have HE := Lib.hid (p2 (by omega))
    clear p1 p2
    go_enter Try.func17, Try.ntmps17
    go_wp2
    go_ret
    exact ⟨ret_int HE.out, rfl⟩

theorem info3 : (Try.prog.info? 3).map (fun i => (i.zero, i.size, i.bytes)) = some (some (.int .i64 0), 1, 8) := by kernel_rfl

theorem ownsRow_fr {w w' : World} {S : List Nat} {base e size n : Nat} {v : Value} {xs : List Value} (h : w.ownsRow base e size v n xs) (f : Fr S w w') (hS : ∀ x ∈ S, x < base) : w'.ownsRow base e size v n xs := by
  obtain ⟨h1, h2⟩ := h
  refine ⟨h1, ?_⟩
  rcases h2 with h2 | ⟨g, cap, cur, hv, hg, hh, r⟩
  · exact Or.inl h2
  · exact Or.inr ⟨g, cap, cur, hv, hg, f.heap hh (fun hx => by have := hS g hx; omega), r⟩

def nosF (n : Nat) : List Value := (List.range n).map fun (j : Nat) => .int .i64 ((j : Int) + 1)

/-- The numbers of the holds: the slice that the first loop makes. -/
theorem nosF_succ (n : Nat) : nosF (n + 1) = nosF n ++ [.int .i64 ((n : Int) + 1)] := by simp [nosF, List.range_succ]
theorem nosF_len (n : Nat) : (nosF n).length = n := by simp [nosF]

theorem hold_round {w : World} {bx bm k : Nat} {F : Int} (o : Own w bx bm (hsF F k)) (h0 : 0 ≤ F) (h1 : F ≤ 1099511627576) (hk : k < 64) :
    Calls Try.prog 14 #[.pointer (some ⟨bx, 0, none⟩), .int .i64 (F + (k : Int))] w fun e w' => e = .returned (.tuple #[.int .i64 ((k : Int) + 1), .int .i64 0]) ∧ Own w' bx bm ⟨F + (k : Int), F + (k : Int), LF F (k + 1), (k : Int) + 1⟩ ∧ Fr [bx, bm] w w' := by
  have hm : min k 64 = k := by omega
  have e1 : (hsF F k).made = (k : Int) := by simp [hsF, hm]
  refine (hold_yes o (hsF_good h0 h1 (by omega)) (F + k) ?_ ?_ ?_ ?_).mono ?_
  · show leastOf (F + k) (LF F (min k 64)) ≤ _
    rw [least_hsF]; omega
  · exact Int.le_refl _
  · simp only [hsF, LF_len]; omega
  · rw [e1]; omega
  · rintro e w' ⟨rfl, o', f'⟩
    refine ⟨by rw [e1], ?_, f'⟩
    rw [e1] at o'
    have e2 : (hsF F k).L ++ [((k : Int) + 1, F + (k : Int))] = LF F (k + 1) := by simp only [hsF, hm]; rw [LF_succ]
    rw [e2] at o'
    exact o'

theorem hold_full {w : World} {bx bm k : Nat} {F : Int} (o : Own w bx bm (hsF F k)) (h0 : 0 ≤ F) (h1 : F ≤ 1099511627576) (hk : 64 ≤ k) (hk2 : k ≤ 70) :
    Calls Try.prog 14 #[.pointer (some ⟨bx, 0, none⟩), .int .i64 (F + (k : Int))] w fun e w' => e = .returned (.tuple #[.int .i64 0, .int .i64 2]) ∧ Own w' bx bm ⟨F + (k : Int), F + (k : Int), LF F 64, 64⟩ ∧ Fr [] w w' := by
  have hm : min k 64 = 64 := by omega
  refine (hold_long o (hsF_good h0 h1 (by omega)) (F + k) ?_ ?_ ?_).mono ?_
  · show leastOf (F + k) (LF F (min k 64)) ≤ _
    rw [least_hsF]; omega
  · exact Int.le_refl _
  · simp only [hsF, LF_len]; omega
  · rintro e w' ⟨rfl, f'⟩
    refine ⟨rfl, ?_, f'⟩
    have o' := o.fr f' (by simp) (by simp)
    unfold hsF at o'
    rw [hm] at o'
    exact o'

theorem least_round {w : World} {bx bm k : Nat} {F : Int} (o : Own w bx bm (hsF F k)) (h0 : 0 ≤ F) (h1 : F ≤ 1099511627576) (hk : k ≤ 70) :
    Calls Try.prog 9 #[.pointer (some ⟨bx, 0, none⟩)] w fun e w' => e = .returned (.int .i64 F) ∧ Own w' bx bm (hsF F k) ∧ Fr [] w w' := by
  refine (least_any o (hsF_good h0 h1 hk)).mono ?_
  rintro e w' ⟨rfl, f'⟩
  exact ⟨ret_int least_hsF, o.fr f' (by simp) (by simp), f'⟩

theorem append_step {w0 w w' : World} {S : List Nat} {base e size n : Nat} {v : Value} {xs : List Value} {o : Obj} (hrow : w.ownsRow base e size v n xs) (hg : (w.alloc o).grownBy w' v.ownBlock) (hf : Fr S w0 w) (hb : w0.heap.size ≤ base) :
    Fr S w0 w' ∧ w.heap.size ≤ w'.heap.size ∧ ∀ {bx bm : Nat} {s : Orc}, Own w bx bm s → bx < base → bm < base → Own w' bx bm s := by
  have hl := hrow.lt
  have f1 : Fr S w0 (w.alloc o) := hf.alloc o
  have hr : ∀ r, v.ownBlock = some r → w0.heap.size ≤ r ∨ r ∈ S := fun r e => Or.inl (by have := hl r e; omega)
  refine ⟨f1.fresh hg hr, by have := hg.size; simp at this; omega, ?_⟩
  intro bx bm s ho h1 h2
  have f2 : Fr v.ownBlock.toList w w' := ((Fr.refl _ w).alloc o).trans (Fr.grown hg)
  refine ho.fr f2 ?_ ?_
  · intro hx
    have := hl bx (by simpa using hx); omega
  · intro hx
    have := hl bm (by simpa using hx); omega

/-- A row that is not empty: its value written out, its cells as they read. -/
theorem row_shape {w : World} {base e size n : Nat} {v : Value} {xs : List Value} (h : w.ownsRow base e size v n xs) (hn : 0 < n) :
    ∃ g cap, v = .slice (some ⟨g, 0, none⟩) n cap ∧ n ≤ cap ∧ base ≤ g ∧ g < w.heap.size ∧ (∀ j, j < n * size → w.cell? ⟨g, j, none⟩ = xs[j]?) ∧ ∀ j, w.frozen? ⟨g, j, none⟩ = false := by
  obtain ⟨h1, h2⟩ := h
  rcases h2 with ⟨-, h0⟩ | ⟨g, cap, cur, rfl, hg, hh, hc, hc2, hsz, htk⟩
  · omega
  · refine ⟨g, cap, rfl, hc, hg, (Array.getElem?_eq_some_iff.1 hh).1, ?_, ?_⟩
    · intro j hj
      rw [← htk, List.getElem?_take_of_lt hj]
      simp [World.cell?, hh]
    · intro j; simp [World.frozen?, hh]

theorem row_cells {w : World} {base e size n g c : Nat} {xs : List Value} (h : w.ownsRow base e size (.slice (some ⟨g, 0, none⟩) n c) n xs) :
    (∀ j, j < n * size → w.cell? ⟨g, j, none⟩ = xs[j]?) ∧ ∀ j, w.frozen? ⟨g, j, none⟩ = false := by
  obtain ⟨h1, h2⟩ := h
  rcases h2 with ⟨h2, -⟩ | ⟨g', cap, cur, hv, hg, hh, hc, hc2, hsz, htk⟩
  · simp at h2
  · simp at hv
    obtain ⟨rfl, rfl⟩ := hv
    refine ⟨?_, ?_⟩
    · intro j hj
      rw [← htk, List.getElem?_take_of_lt hj]
      simp [World.cell?, hh]
    · intro j; simp [World.frozen?, hh]

theorem nosF_get {n j : Nat} (h : j < n) : (nosF n)[j]? = some (.int .i64 ((j : Int) + 1)) := by simp [nosF, h]

theorem holds_bad (F a b : Int) (w : World) (hF : F < 0 ∨ 1099511627576 < F) :
    Calls Try.prog 4 #[.int .i64 F, .int .i64 a, .int .i64 b] w fun e w' => e = .returned (.bool true) ∧ Below w.heap.size w w' := by
  by_cases h1 : F < 0
  · clear hF
    go_enter Try.func4, Try.ntmps4
    go_wp2_with (go_at_call 6; refine (known_any _).mono ?_; rintro e w1 ⟨rfl, f1⟩)
    go_ret
    exact ⟨rfl, f1.below (Nat.le_refl _) (by simp)⟩
  · have h2 : 1099511627576 < F := by omega
    clear hF
    go_enter Try.func4, Try.ntmps4
    go_wp2_with (go_at_call 6; refine (known_any _).mono ?_; rintro e w1 ⟨rfl, f1⟩)
    go_ret
    exact ⟨rfl, f1.below (Nat.le_refl _) (by simp)⟩

set_option maxHeartbeats 1600000 in
set_option maxRecDepth 100000 in
theorem holds_good (F a b : Int) (w : World) (h0 : 0 ≤ F) (h1 : F ≤ 1099511627576) :
    Calls Try.prog 4 #[.int .i64 F, .int .i64 a, .int .i64 b] w fun e w' => e = .returned (.bool true) ∧ Below w.heap.size w w' := by
  obtain ⟨i0, hi, hz0, hz1, hz2⟩ := info_parts info3
  obtain ⟨M, hM⟩ : ∃ M : Nat, a % 70 = M := ⟨(a % 70).toNat, by omega⟩
  have hM70 : M < 70 := by omega
  have HM := Lib.hid hM
  clear hM
  go_enter Try.func4, Try.ntmps4
  go_wp2_with fail
  refine (place_any a 70 _ (by decide) (by decide)).mono ?_
  rintro e w' ⟨rfl, rfl⟩
  rw [HM.out]
  go_wp2_with fail
  refine (new_yes F h0 (by omega)).mono ?_
  rintro e w1 ⟨bx, bm, rfl, hbx, hbm, o1, f1⟩
  go_wp2_with fail
  refine (known_any _).mono ?_
  rintro e w2 ⟨rfl, f2⟩
  have o2 := o1.fr f2 (by simp) (by simp)
  have f12 := f1.trans f2
  clear f1 f2 o1
  have hB1 : bx < w2.heap.size := (Array.getElem?_eq_some_iff.1 o2.blk).1
  have hB2 : bm < w2.heap.size := o2.map.lt
  go_wp2_with fail
  go_loopw [9, 10] (fun l i wr => ∃ k : Nat, k ≤ 1 + M ∧ i = .int .i64 k ∧ wr.ownsRow w2.heap.size 3 1 l (min k 64) (nosF (min k 64)) ∧ Own wr bx bm (hsF F k) ∧ Fr [] w wr ∧ w2.heap.size ≤ wr.heap.size)
    (fun _ i _ => 1 + M - (intOf i).toNat)
  case atStart => exact ⟨0, by omega, rfl, World.ownsRow_nil _ _ _ _, by simpa [hsF, LF] using o2, f12, Nat.le_refl _⟩
  case round =>
    obtain ⟨k, hk, rfl, hrow, hox, hfr, hsz⟩ := hrel
    have hS1 : ∀ x ∈ [bx], w.heap.size ≤ x ∨ x ∈ ([] : List Nat) := by simp; omega
    have hS3 : ∀ x ∈ [bx, bm], w.heap.size ≤ x ∨ x ∈ ([] : List Nat) := by simp; omega
    have hR1 : ∀ x ∈ [bx], x < w2.heap.size := by simp; omega
    have hR3 : ∀ x ∈ [bx, bm], x < w2.heap.size := by simp; omega
    by_cases hlt : k < 1 + M
    · by_cases h64 : k < 64
      · have hm : min k 64 = k := by omega
        have hm1 : min (k + 1) 64 = k + 1 := by omega
        rw [hm] at hrow
        have HM1 := Lib.hid hm1
        clear hm hm1
        have hd64 : decide ((k : Int) < 64) = true := by simp; omega
        go_wp2_with fail
        refine (hold_round hox h0 h1 h64).mono ?_
        rintro e w3 ⟨rfl, o3, f3⟩
        have hrow3 := ownsRow_fr hrow f3 hR3
        have fr3 := hfr.past f3 hS3
        have hsz3 := f3.size
        clear hox hrow hfr f3
        go_wp2_with (at_builtin; refine wpList_append_own _ rfl _ _ 45 rfl w2.heap.size 3 i0 (.int .i64 0) 1 8 Try.underlying45 hi hz0 hz1 hz2 rfl (by decide) _ _ _ rfl (hrow3.alloc _) ⟨w3.heap.size, 0, none⟩ 1 1 [.int .i64 ((k : Int) + 1)] rfl rfl (cell_one_new _ _ _) (ints_oneCell .i64 [(k : Int) + 1]) (by unfold maxLen; omega) (by omega) (by simp; omega) ?_; intro v' w4 hrow4 hgrow4 _)
        obtain ⟨fr4, hsz4, ho4⟩ := append_step hrow3 hgrow4 fr3 f12.size
        have o4 := ho4 o3 hB1 hB2
        clear hgrow4 hrow3 ho4 o3 fr3
        go_wp2_with fail
        refine (write_some o4 (by simp only; omega) (by simp only; omega)).mono ?_
        rintro e w5 ⟨rfl, o5, f5⟩
        have hrow5 := ownsRow_fr hrow4 f5 hR1
        have fr5 := fr4.past f5 hS1
        have hsz5 := f5.size
        simp only at o5
        clear f5 hrow4 o4 fr4
        go_wp2_with fail
        refine (settle_yes o5 _ (by simp only; omega) (by simp only; omega)).mono ?_
        rintro e w6 ⟨rfl, o6, f6⟩
        have hrow6 := ownsRow_fr hrow5 f6 hR1
        have fr6 := fr5.past f6 hS1
        have hsz6 := f6.size
        replace o6 : Own w6 bx bm (hsF F (k + 1)) := by
          unfold hsF
          rw [HM1.out]
          simpa [Int.add_assoc] using o6
        clear f6 hrow5 o5 fr5
        go_wp2_with fail
        refine (least_round o6 h0 h1 (by omega)).mono ?_
        rintro e w7 ⟨rfl, o7, f7⟩
        have hrow7 := ownsRow_fr hrow6 f7 (by simp)
        have fr7 := fr6.past f7 (by simp)
        have hsz7 := f7.size
        clear f7 hrow6 o6 fr6
        go_wp2
        go_roundw
        case rel => exact ⟨k + 1, by omega, by go_num, by rw [HM1.out, nosF_succ]; exact hrow7, o7, fr7, by omega⟩
        case measure => simp [intOf]; omega
      · have hm : min k 64 = 64 := by omega
        have hm1 : min (k + 1) 64 = 64 := by omega
        rw [hm] at hrow
        have HM1 := Lib.hid hm1
        clear hm hm1
        have hd64 : decide ((k : Int) < 64) = false := by simp; omega
        go_wp2_with fail
        refine (hold_full hox h0 h1 (by omega) (by omega)).mono ?_
        rintro e w4 ⟨rfl, o4, f4⟩
        have hrow4 := ownsRow_fr hrow f4 (by simp)
        have fr4 := hfr.past f4 (by simp)
        have hsz4 := f4.size
        clear hox hrow hfr f4
        go_wp2_with fail
        refine (write_some o4 (by simp only; omega) (by simp only; omega)).mono ?_
        rintro e w5 ⟨rfl, o5, f5⟩
        have hrow5 := ownsRow_fr hrow4 f5 hR1
        have fr5 := fr4.past f5 hS1
        have hsz5 := f5.size
        simp only at o5
        clear f5 hrow4 o4 fr4
        go_wp2_with fail
        refine (settle_yes o5 _ (by simp only; omega) (by simp only; omega)).mono ?_
        rintro e w6 ⟨rfl, o6, f6⟩
        have hrow6 := ownsRow_fr hrow5 f6 hR1
        have fr6 := fr5.past f6 hS1
        have hsz6 := f6.size
        replace o6 : Own w6 bx bm (hsF F (k + 1)) := by
          unfold hsF
          rw [HM1.out]
          simpa [Int.add_assoc] using o6
        clear f6 hrow5 o5 fr5
        go_wp2_with fail
        refine (least_round o6 h0 h1 (by omega)).mono ?_
        rintro e w7 ⟨rfl, o7, f7⟩
        have hrow7 := ownsRow_fr hrow6 f7 (by simp)
        have fr7 := fr6.past f7 (by simp)
        have hsz7 := f7.size
        clear f7 hrow6 o6 fr6
        go_wp2
        go_roundw
        case rel => exact ⟨k + 1, by omega, by go_num, by rw [HM1.out]; exact hrow7, o7, fr7, by omega⟩
        case measure => simp [intOf]; omega
    · obtain rfl : k = 1 + M := by omega
      obtain ⟨N, hN⟩ : ∃ N : Nat, min (1 + M) 64 = N := ⟨_, rfl⟩
      have hN1 : 1 ≤ N := by omega
      have hN2 : N ≤ 64 := by omega
      have hN3 : N ≤ 1 + M := by omega
      have hox2 : Own wr bx bm ⟨F + ((1 + M : Nat) : Int), F + ((1 + M : Nat) : Int), LF F N, (N : Int)⟩ := by
        simpa [hsF, hN] using hox
      rw [hN] at hrow
      clear hox hN
      obtain ⟨g, cap, rfl, hcap, hg, hgs, hcells, -⟩ := row_shape hrow (by omega)
      obtain ⟨k, hk⟩ : ∃ k : Nat, b % (N : Int) = k := ⟨(b % (N : Int)).toNat, by have := Int.emod_nonneg b (b := N) (by omega); omega⟩
      have hkN : k < N := by have := Int.emod_lt_of_pos b (b := N) (by omega); omega
      have HK := Lib.hid hk
      clear hk hcells
      go_wp2_with fail
      refine (place_any b N _ (by omega) (by omega)).mono ?_
      rintro e w' ⟨rfl, rfl⟩
      rw [HK.out]
      go_wp2_with fail
      obtain ⟨wo, rfl⟩ : ∃ wo : World, wo = wr := ⟨_, rfl⟩
      go_loopw [91] (fun i wr => ∃ q : Nat, q ≤ N ∧ i = .int .i64 q ∧ Own wr bx bm ⟨F + ((1 + M : Nat) : Int), F + ((1 + M : Nat) : Int), LK F q k N, (N : Int)⟩ ∧ wr.ownsRow w2.heap.size 3 1 (.slice (some ⟨g, 0, none⟩) N cap) N (nosF N) ∧ Fr [] w wr ∧ w2.heap.size ≤ wr.heap.size)
        (fun i _ => N - (intOf i).toNat)
      case atStart => exact ⟨0, by omega, rfl, by rw [LK_zero]; exact hox2, hrow, hfr, hsz⟩
      case round =>
        obtain ⟨q, hq, rfl, hox, hrow, hfr, hsz⟩ := hrel
        have hS3 : ∀ x ∈ [bm], w.heap.size ≤ x ∨ x ∈ ([] : List Nat) := by simp; omega
        have hR3 : ∀ x ∈ [bm], x < w2.heap.size := by simp; omega
        have hcells := (row_cells hrow).1
        clear hox2
        by_cases hlt : q < N
        · have hc : wr.cell? ⟨g, q, none⟩ = some (.int .i64 ((q : Int) + 1)) := by rw [hcells q (by omega)]; exact nosF_get hlt
          clear hcells
          by_cases hqk : q = k
          · subst hqk
            have hb : ((q : Int) != (q : Int)) = false := by simp
            go_wp2_with fail
            go_roundw
            case rel => exact ⟨q + 1, by omega, by go_num, by rw [LK_stay]; exact hox, hrow, hfr, hsz⟩
            case measure => simp [intOf]; omega
          · have hb1 : ((q : Int) == (k : Int)) = false := by simp; omega
            have hb : ((q : Int) != (k : Int)) = true := by simp; omega
            have HL := Lib.hid (LK_step (F := F) (n := N) hqk)
            have HT := Lib.hid (LK_time (F := F) (k := k) hlt (Or.inl (Nat.le_refl q)))
            go_wp2_with fail
            refine (free_yes hox ((q : Int) + 1) _ (WalkArith.wf_i64 (by omega)) HT.out).mono ?_
            rintro e w3 ⟨rfl, o3, f3⟩
            have hrow3 := ownsRow_fr hrow f3 hR3
            have fr3 := hfr.past f3 hS3
            have hsz3 := f3.size
            simp only [HL.out] at o3
            clear f3 hrow hox hfr
            go_wp2_with fail
            go_roundw
            case rel => exact ⟨q + 1, by omega, by go_num, o3, hrow3, fr3, by omega⟩
            case measure => simp [intOf]; omega
        · obtain rfl : q = N := by omega
          have hc : wr.cell? ⟨g, k, none⟩ = some (.int .i64 ((k : Int) + 1)) := by rw [hcells k (by omega)]; exact nosF_get hkN
          rw [LK_end hkN] at hox
          have hgood : Good ⟨F + ((1 + M : Nat) : Int), F + ((1 + M : Nat) : Int), [((k : Int) + 1, F + (k : Int))], (q : Int)⟩ :=
            ⟨by simp only; omega, by simp only; omega, by simp only; omega, by simp only; omega, by simp only; omega, by simp, by simp only [List.mem_singleton]; rintro p rfl; simp only; omega, by simp⟩
          have HLe : Hid (leastOf (F + ((1 + M : Nat) : Int)) [((k : Int) + 1, F + (k : Int))] = F + (k : Int)) := by
            show min _ _ = _
            simp only; omega
          clear hcells
          go_wp2_with fail
          refine (least_any hox hgood).mono ?_
          rintro e w3 ⟨rfl, f3⟩
          rw [HLe.out]
          have o3 := hox.fr f3 (by simp) (by simp)
          have hrow3 := ownsRow_fr hrow f3 (by simp)
          have hc3 : w3.cell? ⟨g, k, none⟩ = some (.int .i64 ((k : Int) + 1)) := by rw [(row_cells hrow3).1 k (by omega)]; exact nosF_get hkN
          have fr3 := hfr.past f3 (by simp)
          have HT : Hid (timeOf [((k : Int) + 1, F + (k : Int))] ((k : Int) + 1) = some (F + (k : Int))) := by
            show timeOf _ _ = _
            simp [timeOf]
          clear hox hrow hfr f3 hc
          go_wp2_with fail
          refine (move_upper o3 ((k : Int) + 1) _ _ (WalkArith.wf_i64 (by omega)) HT.out (by omega) (by simp only; omega)).mono ?_
          rintro e w' ⟨rfl, rfl⟩
          go_wp2_with fail
          refine (free_yes o3 ((k : Int) + 1) _ (WalkArith.wf_i64 (by omega)) HT.out).mono ?_
          rintro e w4 ⟨rfl, o4, f4⟩
          have hrow4 := ownsRow_fr hrow3 f4 hR3
          have hc4 : w4.cell? ⟨g, k, none⟩ = some (.int .i64 ((k : Int) + 1)) := by rw [(row_cells hrow4).1 k (by omega)]; exact nosF_get hkN
          have fr4 := fr3.past f4 hS3
          replace o4 : Own w4 bx bm ⟨F + ((1 + M : Nat) : Int), F + ((1 + M : Nat) : Int), [], (q : Int)⟩ := by
            simpa [without] using o4
          have hgood4 : Good ⟨F + ((1 + M : Nat) : Int), F + ((1 + M : Nat) : Int), [], (q : Int)⟩ :=
            ⟨by simp only; omega, by simp only; omega, by simp only; omega, by simp only; omega, by simp only; omega, by simp, by simp, by simp⟩
          clear f4 hrow3 hc3 fr3 o3
          go_wp2_with fail
          refine (least_any o4 hgood4).mono ?_
          rintro e w5 ⟨rfl, f5⟩
          have o5 := o4.fr f5 (by simp) (by simp)
          have hrow5 := ownsRow_fr hrow4 f5 (by simp)
          have hc5 : w5.cell? ⟨g, k, none⟩ = some (.int .i64 ((k : Int) + 1)) := by rw [(row_cells hrow5).1 k (by omega)]; exact nosF_get hkN
          have fr5 := fr4.past f5 (by simp)
          clear o4 hrow4 hc4 fr4 f5
          have hz1 : (F + (1 + (M : Int)) == F + (1 + (M : Int))) = true := by simp
          simp only [leastOf, List.foldl_nil]
          go_wp2_with fail
          refine (free_no o5 ((k : Int) + 1) (WalkArith.wf_i64 (by omega)) rfl).mono ?_
          rintro e w6 ⟨rfl, f6⟩
          go_wp2
          go_ret
          exact ⟨rfl, (fr5.trans f6).below (Nat.le_refl _) (by simp)⟩

end Go.Proofs.Ytdmhiefjmejfpaa
