/- Sums of 128 bits: one count more, the negative, whether it fits. No condition. -/
import Derived.Test.YtjchlfblbmiceaaGreatSc
import Derived.Test.YtjchlfblbmiceaaGreatGp
import Derived.Shelf.Spec.BitsCarry
import Derived.BigQuiet
namespace Go.Proofs.YtjchlfblbmiceaaGreat
open Go.RowKit grp

theorem add64_run (x y c : Nat) (hc : c ≤ 1) (w : World) : (callFunc 116 #[.int .u64 x, .int .u64 y, .int .u64 c]).run Tryz.prog w =
      .ok (.value (.tuple #[.int .u64 (((x + y + c) % 18446744073709551616 : Nat) : Int), .int .u64 (((x + y + c) / 18446744073709551616 : Nat) : Int)])) w := by
  rw [run_callFunc_extern Tryz.func116 (by kernel_rfl) (by kernel_rfl) (by kernel_rfl) (e := add64Entry) (by kernel_rfl), run_add64 x y c (by omega) (by omega) (by omega) (by omega)]
  simp only [Result.andThen]
  congr 5 <;> omega

theorem sub64_run (x y b : Nat) (hb : b ≤ 1) (w : World) : (callFunc 97 #[.int .u64 x, .int .u64 y, .int .u64 b]).run Tryz.prog w =
      .ok (.value (.tuple #[.int .u64 (((x + 18446744073709551616 - y - b) % 18446744073709551616 : Nat) : Int), .int .u64 ((if x < y + b then 1 else 0 : Nat) : Int)])) w := by
  rw [run_callFunc_extern Tryz.func97 (by kernel_rfl) (by kernel_rfl) (by kernel_rfl) (e := sub64Entry) (by kernel_rfl), run_sub64 x y b hb]
  rfl

def long (S : Int) : Value := .agg #[.int .u64 (hi S : Nat), .int .u64 (lo S : Nat)]

set_option maxRecDepth 100000
set_option maxHeartbeats 1600000 in
theorem plus_any (S n : Int) (w : World) (hn : fits64 n) :
    Calls Tryz.prog 96 #[.agg #[.int .u64 (hi S : Nat), .int .u64 (lo S : Nat)], .int .i64 n] w fun e w' => e = .returned (long (S + n)) ∧ Fr [] w w' := by
  have e1 : IntKind.u64.wrap n = ((lo n : Nat) : Int) := by
    have h1 : IntKind.u64.wrap n = n % 18446744073709551616 := rfl
    rw [h1]; unfold lo; omega
  have h0 : ∀ w, (callFunc 116 #[.int .u64 ((lo S : Nat) : Int), .int .u64 ((lo n : Nat) : Int), .int .u64 0]).run Tryz.prog w = .ok (.value (.tuple #[.int .u64 ((lo (S + n) : Nat) : Int), .int .u64 (((lo S + lo n + 0) / 18446744073709551616 : Nat) : Int)])) w := fun w => by
    rw [← lo_add]; exact add64_run (lo S) (lo n) 0 (by omega) w
  have h1 : ∀ w, (callFunc 116 #[.int .u64 ((hi S : Nat) : Int), .int .u64 ((hi n : Nat) : Int), .int .u64 (((lo S + lo n + 0) / 18446744073709551616 : Nat) : Int)]).run Tryz.prog w = .ok (.value (.tuple #[.int .u64 ((hi (S + n) : Nat) : Int), .int .u64 (((hi S + hi n + (lo S + lo n + 0) / 18446744073709551616) / 18446744073709551616 : Nat) : Int)])) w := fun w => by
    rw [← hi_add]; exact add64_run (hi S) (hi n) _ (carry_le S n) w
  have e2 : IntKind.u64.wrap (n / 9223372036854775808) = ((hi n : Nat) : Int) := by
    have h1 : IntKind.u64.wrap (n / 9223372036854775808) = (n / 9223372036854775808) % 18446744073709551616 := rfl
    rw [h1]; unfold hi; unfold fits64 at hn; omega
  unfold long
  generalize lo S = ls at *
  generalize hi S = hs at *
  generalize lo n = ln at *
  generalize hi n = hn at *
  generalize lo (S + n) = lt at *
  generalize hi (S + n) = ht at *
  generalize (ls + ln + 0) / 18446744073709551616 = cy at *
  generalize (hs + hn + cy) / 18446744073709551616 = cz at *
  go_enter Tryz.func96, Tryz.ntmps96
  go_wp2_with (first | simp only [h0] | simp only [h1])
  refine bodyPost_ret (v := .agg #[.int .u64 ht, .int .u64 lt]) (by simp [results, Tryz.results96, go_sem]) rfl ⟨rfl, ?_⟩
  exact (((Fr.refl [] w).alloc _).alloc _)

/-- Whether a sum has room. -/
def fitB (S : Int) : Bool := decide (-9223372036854775808 ≤ S ∧ S ≤ 9223372036854775807)
theorem fitB_iff (S : Int) : fitB S = true ↔ (-9223372036854775808 ≤ S ∧ S ≤ 9223372036854775807) := by unfold fitB; exact decide_eq_true_iff

theorem fits_lo {S : Int} (h : fitB S = true) : IntKind.i64.wrap ((lo S : Nat) : Int) = S := by
  rw [fitB_iff] at h
  rw [IntKind.wrap_i64]; unfold lo; omega

set_option maxHeartbeats 1600000 in
theorem fits_any (S : Int) (w : World) (h1 : -85070591730234615865843651857942052864 ≤ S) (h2 : S ≤ 85070591730234615865843651857942052864) :
    Calls Tryz.prog 98 #[.agg #[.int .u64 (hi S : Nat), .int .u64 (lo S : Nat)]] w fun e w' => e = .returned (.tuple #[.int .i64 (IntKind.i64.wrap ((lo S : Nat) : Int)), .bool (fitB S)]) ∧ Fr [] w w' := by
  generalize hy : IntKind.i64.wrap ((lo S : Nat) : Int) = y
  have hb : (((hi S : Nat) : Int) == IntKind.u64.wrap (y / 9223372036854775808)) = fitB S := by
    have e1 : IntKind.u64.wrap (y / 9223372036854775808) = (y / 9223372036854775808) % 18446744073709551616 := rfl
    rw [IntKind.wrap_i64] at hy
    rw [e1, Bool.eq_iff_iff, beq_iff_eq, fitB_iff]
    unfold hi
    unfold lo at hy
    have q1 := Int.emod_add_mul_ediv S 18446744073709551616
    have q2 := Int.emod_nonneg S (show (18446744073709551616 : Int) ≠ 0 by decide)
    have q3 := Int.emod_lt_of_pos S (show (0 : Int) < 18446744073709551616 by decide)
    generalize S % 18446744073709551616 = r at *
    generalize S / 18446744073709551616 = q at *
    rw [Int.toNat_of_nonneg q2] at hy
    have q4 : 0 ≤ q % 18446744073709551616 := Int.emod_nonneg q (by decide)
    rw [Int.toNat_of_nonneg q4]
    by_cases hr : r < 9223372036854775808
    · have e3 : y / 9223372036854775808 % 18446744073709551616 = 0 := by omega
      rw [e3]; clear e1 e3 hy; omega
    · have e3 : y / 9223372036854775808 % 18446744073709551616 = 18446744073709551615 := by
        have : y = r - 18446744073709551616 := by omega
        subst this
        have : (r - 18446744073709551616) / 9223372036854775808 = -1 := by omega
        rw [this]; rfl
      rw [e3]; clear e1 e3 hy; omega
  generalize fitB S = d at hb
  generalize lo S = ls at *
  generalize hi S = hs at *
  clear h1 h2
  go_enter Tryz.func98, Tryz.ntmps98
  go_wp2_with fail
  go_quiet (fail)
  go_wp2_with fail
  go_ret2
  exact ⟨rfl, ((Fr.refl [] w).alloc _).drewN _⟩
end Go.Proofs.YtjchlfblbmiceaaGreat
