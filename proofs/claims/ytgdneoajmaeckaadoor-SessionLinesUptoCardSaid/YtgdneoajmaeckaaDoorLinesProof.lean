/- SessionLines: a reply has as many lines as it must, and rows that are not the same are not told the same. The law answers true and its arguments read as before. Condition: the bound of the narrowed statement. The card ties the listed tables to the program's text. -/
import Derived.Test.YtgdneoajmaeckaaDoorCards
import Derived.Test.YtgdneoajmaeckaaDoorTie
import Derived.Test.YtgdneoajmaeckaaDoorLc
import Derived.Test.YtgdneoajmaeckaaDoorSnl
import Derived.SevenTiedAt
namespace Go.Proofs.YtgdneoajmaeckaaDoor.sessionLines
open Go.ChangeShapes Go.WideShapes Go.ChangeAt Go.RowKit Go.Deep
open Go.ChangeMaps (open_string shut_string)
set_option linter.unusedVariables false

theorem laidOut : laidOutB Tryd.prog = true := by kernel_rfl

set_option maxRecDepth 100000 in
theorem witness_row (os : Os) {H : Type} (enc : TypeId × Value → H) :
    (Rows.OpenSpec.upto Rows.sessionLinesSpec).preRow enc Tryd.prog Tryd.f5 Rows.sessionLinesUptoRow.domain false Rows.sessionLinesUptoRow.laid ((laidC.laidWorld os).forCall (fun _ _ => 0) ⟨#[], #[.slice none 0 0, .slice none 0 0, .int .i64 0, .int .i64 0], []⟩).memory #[.slice none 0 0, .slice none 0 0, .int .i64 0, .int .i64 0] := by
  have hw : (DataW.whole enc Tryd.prog ((laidC.laidWorld os).forCall (fun _ _ => 0) ⟨#[], #[.slice none 0 0, .slice none 0 0, .int .i64 0, .int .i64 0], []⟩).memory Tryd.f5.params.toList Rows.sessionLinesSpec.vars false #[Value.slice none 0 0, Value.slice none 0 0, Value.int .i64 0, Value.int .i64 0].toList 8).map (fun x => (x.1, x.2.1)) =
      some ([.nil, .nil, .lit (.int .i64 0), .lit (.int .i64 0)], []) := by kernel_rfl
  obtain ⟨⟨x1, x2, x3⟩, hx, hx1⟩ := Option.map_eq_some_iff.1 hw
  simp only [Prod.mk.injEq] at hx1
  obtain ⟨rfl, rfl⟩ := hx1
  exact OpenSpec.preRow_of_cond 8 hx (by kernel_rfl) (fun k hk => by cases hk; kernel_rfl) (by kernel_rfl) (laidC.laid_met os _)

set_option maxRecDepth 100000 in
set_option maxHeartbeats 2000000 in
theorem lifted (os : Os) (started : os.Started) (H : Type) (enc : TypeId × Value → H) (F : Stop.Interp) :
    ReturnsInHanded {} Tryd.checked os 5 .any ((Rows.OpenSpec.upto Rows.sessionLinesSpec).preRow enc Tryd.prog Tryd.f5 Rows.sessionLinesUptoRow.domain false Rows.sessionLinesUptoRow.laid) (((Rows.OpenSpec.upto Rows.sessionLinesSpec).at F).post enc Tryd.prog Tryd.f5 false true false false) := by
  refine returnsInHanded_of_row (C := Tryd.checked) (s := Rows.OpenSpec.upto Rows.sessionLinesSpec) own started (by kernel_rfl) Tryd.func5
    (witness_row_atRef (enc := enc) (C := Tryd.checked) false (laidC.laidWorld os) #[.slice none 0 0, .slice none 0 0, .int .i64 0, .int .i64 0] rfl (by kernel_rfl) (by kernel_rfl) (by kernel_rfl) (witness_row os enc)) ?_
  intro W base args ds gs before hval0 hW _ hcond hsz0 hL hSh _
  have hval : ∀ (j : Nat) t v, Tryd.f5.params[j]? = some t → args[j]? = some v → Value.okWide Tryd.prog W .any base t v := hval0
  have hW' := hW
  obtain ⟨p, q, hA0, hV0, rfl, _, _⟩ := hW
  have hA : DataW.TrodAll enc Tryd.prog W 0 (fun _ => true) true Tryd.f5.params.toList args.toList ds p := hA0
  have hsz : (DataW.weightsEach Tryd.prog (Tryd.f5.params.toList ++ (Rows.OpenSpec.upto Rows.sessionLinesSpec).bare.plain.varTypes Tryd.prog) (ds ++ gs)).all (· ≤ reachBytes) = true := hsz0
  rw [Tryd.params5] at hA hval hsz
  obtain ⟨v0, vs0, d0, ds0, p0, q0, hargs, rfl, rfl, e0, r0⟩ := trodAll_cons hA
  obtain ⟨v1, vs1, d1, ds1, p1, q1, rfl, rfl, rfl, e1, r1⟩ := trodAll_cons r0
  obtain ⟨v2, vs2, d2, ds2, p2, q2, rfl, rfl, rfl, e2, r2⟩ := trodAll_cons r1
  obtain ⟨v3, vs3, d3, ds3, p3, q3, rfl, rfl, rfl, e3, r3⟩ := trodAll_cons r2
  obtain ⟨rfl, rfl, rfl⟩ := trodAll_nil r3
  obtain rfl : args = #[v0, v1, v2, v3] := by cases args; simp_all
  obtain ⟨rfl, rfl⟩ := trodVars_none hV0
  have hsz1 : ∀ (j : Nat) t d, (#[38, 38, 2, 2] : Array TypeId).toList[j]? = some t → [d0, d1, d2, d3][j]? = some d → ∀ n ∈ d.weights Tryd.prog t, n ≤ reachBytes := fun j t d ht hd n hn => of_decide_eq_true (List.all_eq_true.1 hsz _ (DataW.weights_mem_each (j := j) (by first | exact ht | simpa using ht) (by first | exact hd | simpa using hd) n hn))
  have hB := YtgdneoajmaeckaaDoor.bulk_le (hcond _ rfl)
  obtain ⟨a0, len0, cap0, rfl⟩ := okWide_slice Tryd.underlying38 (hval 0 38 v0 rfl rfl)
  have k0 := e0
  have lt0 : ∀ x ∈ p0, x.block < W.heap.size := by obtain ⟨m, hm⟩ := k0; exact DataW.trod_lt m _ _ _ hm
  obtain ⟨fuel0, f0⟩ := e0
  have f0' : DataW.trod enc Tryd.prog W 0 (fun _ => true) true fuel0 38 [.slice a0 len0 cap0] = some (d0, p0) := by simpa [Value.cells] using f0
  obtain ⟨l0, h0, o0, b0⟩ := row_of_trod f0' (bulk_part hB (by simp))
  obtain ⟨a1, len1, cap1, rfl⟩ := okWide_slice Tryd.underlying38 (hval 1 38 v1 rfl rfl)
  have k1 := e1
  have lt1 : ∀ x ∈ p1, x.block < W.heap.size := by obtain ⟨m, hm⟩ := k1; exact DataW.trod_lt m _ _ _ hm
  obtain ⟨fuel1, f1⟩ := e1
  have f1' : DataW.trod enc Tryd.prog W 0 (fun _ => true) true fuel1 38 [.slice a1 len1 cap1] = some (d1, p1) := by simpa [Value.cells] using f1
  obtain ⟨l1, h1, o1, b1⟩ := row_of_trod f1' (bulk_part hB (by simp))
  obtain ⟨i2, rfl, rfl, rfl, w2⟩ := open_int Tryd.underlying2 (hval 2 2 v2 rfl rfl) e2
  obtain ⟨i3, rfl, rfl, rfl, w3⟩ := open_int Tryd.underlying2 (hval 3 2 v3 rfl rfl) e3
  have hM : SomeMax W := Tryd.laysM143.s1_3 W hSh
  have hT := laidC.tabs_of_laid hL hM
  clear hA0 hV0 hval0 hsz0
  refine (lines_any h0 h1 o0 o1 b0 b1 i2 i3 (wf_i64 w2) (wf_i64 w3) hT).mono ?_
  rintro e W' ⟨rfl, f⟩
  have bel : Below W.heap.size W W' := f.below (Nat.le_refl _) (by simp)
  exact ⟨_, rfl, _, _, _, [], _, [], hW', trodAll_mk1 (shut_bool Tryd.underlying4 _), (trodAll_cons_mk (Below.trod laidOut (by kernel_rfl) (of_decide_eq_true (by kernel_rfl)) k0 bel lt0) (trodAll_cons_mk (Below.trod laidOut (by kernel_rfl) (of_decide_eq_true (by kernel_rfl)) k1 bel lt1) (trodAll_cons_mk (shut_int Tryd.underlying2 w2) (trodAll_cons_mk (shut_int Tryd.underlying2 w3) trodAll_mk0)))), rfl, bel.frame _, fun h => by cases h⟩

theorem said : Rows.SessionLinesUptoSaid :=
  OpenClaim.holds_of_cond 5 Tryd.f5 rfl rfl rfl rfl rfl rfl rfl ⟨rfl, rfl, rfl, rfl, rfl⟩ rfl rfl rfl rfl rfl (by kernel_rfl) Tryd.func5 (by kernel_rfl)
    (of_decide_eq_true (by kernel_rfl)) (by unfold Func.isWrapper; first | (rw [if_pos (by decide +kernel)]; kernel_rfl) | (rw [if_neg (by decide +kernel)]; exact ⟨rfl, rfl⟩))
    (fun os started H enc _ F => by rw [OpenClaim.pre_eq_preRow]; exact lifted os started H enc F)

theorem plain (f : FuncId) (fn : Func) (hf : Tryd.pinned.checked.prog.funcNamed "freshet/freshetlaw21.SessionLines" = some f) (hfn : Tryd.pinned.checked.prog.funcs[f]? = some fn) :
    true = Tryd.pinned.checked.prog.looks [] ∧ ∀ (j : Nat) t, fn.params[j]? = some t → Tryd.pinned.checked.prog.wantsStandIn t = false := by
  obtain rfl : f = 5 := Option.some.inj ((show Tryd.prog.funcNamed "freshet/freshetlaw21.SessionLines" = some 5 by kernel_rfl).symm.trans hf) |>.symm
  obtain rfl : fn = Tryd.f5 := (Option.some.inj (Tryd.func5.symm.trans hfn)).symm
  refine ⟨by kernel_rfl, fun j t ht => ?_⟩
  rw [Tryd.params5] at ht
  have h2 : t = 38 ∨ t = 38 ∨ t = 2 ∨ t = 2 := by simpa using Array.mem_of_getElem? ht
  rcases h2 with rfl | rfl | rfl | rfl
  · exact (show Tryd.prog.wantsStandIn 38 = false by kernel_rfl)
  · exact (show Tryd.prog.wantsStandIn 38 = false by kernel_rfl)
  · exact (show Tryd.prog.wantsStandIn 2 = false by kernel_rfl)
  · exact (show Tryd.prog.wantsStandIn 2 = false by kernel_rfl)

theorem proved : Rows.SessionLinesUptoCardSaid :=
  Claim7.holds_tied_plain_at .later [] _ _ _ _ said (fun _ h => by cases h) (by kernel_rfl) (fun _ h => by cases h) sessionLinesUpto_row_tie rfl ⟨rfl, rfl⟩ (by kernel_rfl) rfl plain (by kernel_rfl)
#print axioms proved
end Go.Proofs.YtgdneoajmaeckaaDoor.sessionLines
