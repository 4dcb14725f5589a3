/- OraclePlays: for every floor and script the law answers true and its arguments read as before. No condition. -/
import Derived.Test.YtdmhiefjmejfpaaPlays
import Derived.Test.YtdmhiefjmejfpaaOps
import Derived.WalkKit
import Derived.ProofKit
import Derived.OpenShut
import Derived.ShutString
namespace Go.Proofs.Ytdmhiefjmejfpaa.oraclePlays
open Go.ChangeShapes Go.WideShapes Go.ChangeAt Go.RowKit Go.Deep

theorem own : ownKnob Try.prog.godebug = none := by kernel_rfl
theorem laidOut : laidOutB Try.prog = true := by kernel_rfl

section
variable {H : Type} {enc : TypeId × Value → H} {w : World} {base : Nat} {spare : Nat → Bool} {held : Bool}

/-- The script's elements, from its reading. -/
theorem ops_of {fuel len cap : Nat} {ad : Option Addr} {x : DataW H × List MemPlace} (h : DataW.trod enc Try.prog w base spare held fuel 22 [.slice ad len cap] = some x) (i : Nat) (hi : i < len) :
    ∃ (o : OpV), o.wf ∧ ∃ b off, ad = some ⟨b, off, none⟩ ∧ ∀ j, j < 5 → w.cell? ⟨b, off + i * 5 + j, none⟩ = o.cells[j]? := by
  obtain ⟨b, off, hb, hf⟩ := structs_at Try.underlying22 Try.underlying32 (by kernel_rfl) (by kernel_rfl) (by decide) h i hi
  obtain ⟨v0, y0, n0, c0, t0⟩ := hf 0 _ rfl
  obtain ⟨v1, y1, n1, c1, t1⟩ := hf 1 _ rfl
  obtain ⟨v2, y2, n2, c2, t2⟩ := hf 2 _ rfl
  obtain ⟨v3, y3, n3, c3, t3⟩ := hf 3 _ rfl
  obtain ⟨v4, y4, n4, c4, t4⟩ := hf 4 _ rfl
  obtain ⟨x0, e0, -, g0⟩ := DataW.trod_int Try.underlying3 t0
  obtain ⟨x1, e1, -, g1⟩ := DataW.trod_int Try.underlying3 t1
  obtain ⟨x2, e2, -, g2⟩ := DataW.trod_int Try.underlying3 t2
  obtain ⟨x3, e3, -, g3⟩ := DataW.trod_int Try.underlying2 t3
  obtain ⟨x4, e4, -⟩ := DataW.trod_bool Try.underlying4 t4
  simp only [List.cons.injEq, and_true] at e0 e1 e2 e3 e4
  subst e0 e1 e2 e3 e4
  refine ⟨⟨x0, x1, x2, x3, x4⟩, ⟨g0, g1, g2, g3⟩, b, off, hb, ?_⟩
  intro j hj
  match j, hj with
  | 0, _ => exact c0
  | 1, _ => exact c1
  | 2, _ => exact c2
  | 3, _ => exact c3
  | 4, _ => exact c4
end

theorem walk (F : Int) (ad : Option Addr) (len cap : Nat) (w : World) (hb : len ≤ cap ∧ cap ≤ maxLen ∧ (0 < len → ∃ a, ad = some a))
    (hlt : 0 < len → ∀ a, ad = some a → a.block < w.heap.size)
    (hops : ∀ i, i < len → ∃ (o : OpV), o.wf ∧ ∃ b off, ad = some ⟨b, off, none⟩ ∧ ∀ j, j < 5 → w.cell? ⟨b, off + i * 5 + j, none⟩ = o.cells[j]?) :
    Calls Try.prog 5 #[.int .i64 F, .slice ad len cap] w fun e w' => e = .returned (.bool true) ∧ Below w.heap.size w w' := by
  by_cases h : F < 0 ∨ 1099511627776 < F
  · exact plays_bad F _ w h
  · have hcut : ∀ w0 : World, Calls Try.prog 10 #[.slice ad len cap, .int .i64 400] w0 fun e w' => e = .returned (.slice ad (min len 400) cap) ∧ w0 = w' := by
      intro w0
      by_cases hl : len ≤ 400
      · rw [Nat.min_eq_left hl]; exact cut_le ad len cap w0 hl
      · obtain ⟨a, rfl⟩ := hb.2.2 (by omega)
        rw [Nat.min_eq_right (by omega)]
        exact cut_gt a len cap w0 (by omega) hb.1 hb.2.1
    have hch : ∀ i, ∃ o : OpV, i < len → (o.wf ∧ ∃ b off, ad = some ⟨b, off, none⟩ ∧ ∀ j, j < 5 → w.cell? ⟨b, off + i * 5 + j, none⟩ = o.cells[j]?) := by
      intro i
      by_cases hi : i < len
      · obtain ⟨o, ho⟩ := hops i hi
        exact ⟨o, fun _ => ho⟩
      · exact ⟨⟨0, 0, 0, 0, false⟩, fun h => absurd h hi⟩
    obtain ⟨ops, hops'⟩ := Classical.axiomOfChoice hch
    refine plays_good F ad len cap ops w (by omega) (by omega) hcut ?_
    intro i hi
    obtain ⟨h1, b, off, h2, h3⟩ := hops' i (by omega)
    exact ⟨h1, b, off, h2, by have := hlt (by omega) _ h2; exact this, h3⟩

set_option maxRecDepth 100000 in
theorem lifted (os : Os) (started : os.Started) (H : Type) (enc : TypeId × Value → H) :
    ReturnsInHanded {} Try.checked os 5 .any (Rows.oraclePlaysSpec.pre6 enc Try.prog Try.f5 Rows.oraclePlaysRow.domain false) (Rows.oraclePlaysSpec.post enc Try.prog Try.f5 false true false false) := by
  refine returnsInHanded_of_change (C := Try.checked) own started (by kernel_rfl) Try.func5
    (ChangeSpec.witness6 (enc := enc) (C := Try.checked) false ⟨#[], #[.int .i64 0, .slice none 0 0], []⟩ 8 (by kernel_rfl) (by kernel_rfl) (by kernel_rfl) (by kernel_rfl)) ?_
  intro W base args ds gs before hval0 hW hcnd _
  have hval : ∀ (j : Nat) t v, Try.f5.params[j]? = some t → args[j]? = some v → Value.okWide Try.prog W .any base t v := hval0
  have hW' := hW
  obtain ⟨p, q, hA0, hV, rfl, hfz, hnd⟩ := hW
  have hA : DataW.TrodAll enc Try.prog W 0 (fun _ => true) true Try.f5.params.toList args.toList ds p := hA0
  rw [Try.params5] at hA hval
  obtain ⟨v0, vs0, d0, ds0, p0, q0, hargs, rfl, rfl, h0, r0⟩ := trodAll_cons hA
  obtain ⟨v1, vs1, d1, ds1, p1, q1, rfl, rfl, rfl, h1, r1⟩ := trodAll_cons r0
  obtain ⟨rfl, rfl, rfl⟩ := trodAll_nil r1
  obtain rfl : args = #[v0, v1] := by cases args; simp_all
  obtain ⟨rfl, rfl⟩ := trodVars_none hV
  obtain ⟨a0, rfl, rfl, rfl, w0⟩ := open_int Try.underlying2 (hval 0 2 v0 rfl rfl) h0
  obtain ⟨a1, len, cap, rfl⟩ := okWide_slice Try.underlying22 (hval 1 22 v1 rfl rfl)
  have k1 := h1
  have lt1 : ∀ x ∈ p1, x.block < W.heap.size := by obtain ⟨m, hm⟩ := k1; exact DataW.trod_lt m _ _ _ hm
  clear hA0 hval0
  obtain ⟨fuel, hf⟩ := h1
  have hf' : DataW.trod enc Try.prog W 0 (fun _ => true) true fuel 22 [.slice a1 len cap] = some (d1, p1) := by simpa [Value.cells] using hf
  have hb := slice_bounds Try.underlying22 hf'
  have hops := fun i hi => ops_of hf' i hi
  have hlt : 0 < len → ∀ a, a1 = some a → a.block < W.heap.size := by
    intro hl a ha
    obtain ⟨o, -, b, off, hb2, hc⟩ := hops 0 hl
    rw [ha] at hb2
    cases hb2
    exact World.block_lt_of_cell? W _ (hc 0 (by omega))
  refine (walk a0 a1 len cap W hb hlt hops).mono fun e W' ⟨he, bel⟩ => ?_
  subst he
  exact ⟨_, rfl, _, _, _, [], _, [], hW', trodAll_mk1 (shut_bool Try.underlying4 _), (trodAll_cons_mk (shut_int Try.underlying2 w0) (trodAll_cons_mk (Below.trod laidOut (by kernel_rfl) (of_decide_eq_true (by kernel_rfl)) k1 bel lt1) trodAll_mk0)), rfl, bel.frame _, fun h => by cases h⟩

theorem over : Rows.oraclePlaysRow.holds Try.pinned (OpenSpec.ofChange Rows.oraclePlaysSpec) :=
  OpenClaim.holds_of_wide 5 Try.f5 rfl rfl rfl rfl rfl rfl rfl ⟨rfl, rfl, rfl, rfl, rfl⟩ rfl rfl rfl rfl rfl (by kernel_rfl) Try.func5 (by kernel_rfl)
    (of_decide_eq_true (by kernel_rfl)) (by unfold Func.isWrapper; first | (rw [if_pos (by decide +kernel)]; kernel_rfl) | (rw [if_neg (by decide +kernel)]; exact ⟨rfl, rfl⟩))
    (fun os started H enc _ => lifted os started H enc)

theorem proved : Rows.OraclePlaysSaid := over
#print axioms proved
end Go.Proofs.Ytdmhiefjmejfpaa.oraclePlays
