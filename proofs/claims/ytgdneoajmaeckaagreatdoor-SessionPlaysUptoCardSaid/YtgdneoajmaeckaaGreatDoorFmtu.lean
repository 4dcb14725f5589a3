/- strconv.FormatUint at base 10, datum.amount, freshetref01.hex. No condition but that the table of powers lies as its text lays it. -/
import Derived.Test.YtgdneoajmaeckaaGreatDoorShelf
import Derived.Test.YtgdneoajmaeckaaGreatDoorFr
import Derived.Lib.ItoaWalk
import Derived.Lib.ItoaMem
import Derived.Lib.AppendIntMem
import Derived.Lib.SmallJoins
import Derived.Lib.ItoaLen
import Derived.Lib.Hide
import Derived.BigCall
import Derived.BigGuard
namespace Go.Proofs.YtgdneoajmaeckaaGreatDoor
open Go.Shelf Go.RowKit Go.Sort Go.Lib

def Pows (w : World) : Prop := Lib.TabIs Tryz.prog w "internal/strconv.uint64pow10" .u64 Lib.pow10Tab

theorem fr_grow (w : World) (k : Nat) (os : Array Obj) : Fr [] w (grow (w.drewN k) os) := Fr.ofBelow (Lib.below_grow w.heap.size w (Nat.le_refl _) k os)

theorem Pows.fr {w w' : World} (h : Pows w) (f : Fr [] w w') : Pows w' := Go.Joins.tab_stays (g := 3) (B := w.heap.size) (by kernel_rfl) h (f.below (Nat.le_refl _) (by simp)) (Nat.le_refl _)

set_option maxHeartbeats 6400000 in
set_option maxRecDepth 100000 in
theorem fmtu_in (u : Nat) (hu64 : u < 18446744073709551616) (w : World) (htab : Pows w) :
    Calls Tryz.prog 103 #[.int .u64 u, .int .i64 10] w fun e w' => e = .returned (.string ⟨(Lib.decDigits u).toArray⟩) ∧ Fr [] w w' := by
  by_cases hs : u < 100
  · have hs' : (u : Int) < 100 := by omega
    go_enter Tryz.func103, Tryz.ntmps103
    go_wp2_with (go_at_call 84; refine (Tryz.internal_strconv_small u hs _).mono ?_; rintro e w' ⟨rfl, rfl⟩)
    go_ret
    exact ⟨rfl, Fr.refl _ _⟩
  · have hu1 : 1 ≤ u := by omega
    have hs' : (100 : Int) ≤ u := by omega
    clear hs
    have hnd20 : Lib.nDigits u ≤ 20 := Lib.nDigits_le20 u hu64
    have hal : Tryz.prog.arrayLen 116 = 24 := by kernel_rfl
    have hsl1 : ∀ W, (Instr.sliceAt 116 (.pointer (some ⟨w.heap.size, 0, none⟩)) none (some (.int .i64 (Lib.nDigits u : Int))) none).run Tryz.prog W = .ok (.slice (some ⟨w.heap.size, 0, none⟩) (Lib.nDigits u) 24) W := fun W => by
      rw [run_sliceAt_array_h W 116 ⟨w.heap.size, 0, none⟩ (by kernel_rfl) .i64 (Lib.nDigits u : Int) (by omega) (by rw [hal]; omega)]
      go_simp
    have hH0 := Lib.holds_zero0 w 116 (Lib.nDigits u) (by omega)
    have hfmt := Tryz.internal_strconv_formatBase10 w.heap.size 0 24 u (Array.replicate (Lib.nDigits u) 0) (w.alloc (.cells Lib.zeros24 116)) hH0 (by rw [Array.size_replicate]; exact Lib.lt_pow_nDigits u) hu64 (by rw [Array.size_replicate]; omega)
    rw [Array.size_replicate] at hfmt
    have HH0 := Lib.hid hH0
    clear hH0 hal
    go_enter Tryz.func103, Tryz.ntmps103
    go_wp2_with (first
      | (go_at_call 85; refine (Tryz.internal_strconv_numDigits u hu1 hu64 _ (Lib.tabIs_alloc htab _)).mono ?_; rintro e w' ⟨rfl, rfl⟩))
    go_at_call 86
    refine hfmt.mono ?_
    rintro e w' ⟨rfl, k, v', dk, rfl, hF⟩
    have hcv : (convert 73 9 (.slice (some ⟨w.heap.size, 0, none⟩) (Lib.nDigits u) 24)).run Tryz.prog ((putRow (fun (b : UInt8) => Value.int .u8 (b.toNat : Int)) (w.alloc (.cells Lib.zeros24 116)) w.heap.size 0 dk).drewN k) = .ok (.string ⟨(Lib.decDigits u).toArray⟩) ((putRow (fun (b : UInt8) => Value.int .u8 (b.toNat : Int)) (w.alloc (.cells Lib.zeros24 116)) w.heap.size 0 dk).drewN k) := by
      have h := run_convert_bytes_back (P := Tryz.prog) ((putRow (fun (b : UInt8) => Value.int .u8 (b.toNat : Int)) (w.alloc (.cells Lib.zeros24 116)) w.heap.size 0 dk).drewN k) 73 9 5 ⟨w.heap.size, 0, none⟩ 24 (Lib.decDigits u) Tryz.underlying73 Tryz.underlying5 Tryz.underlying9 (fun j hj => by
        rw [Lib.row_is_numeral hF j hj, Lib.add_plain, World.cell?_drewN]
        exact cell?_putRow (fun (b : UInt8) => Value.int .u8 (b.toNat : Int)) _ w.heap.size 0 _ dk HH0.out (by rw [hF.size, Array.size_replicate]) j (by rw [hF.size]; rw [Lib.decDigits_length] at hj; exact hj))
      rw [Lib.decDigits_length] at h
      exact h
    go_wp2
    go_ret
    obtain ⟨os, eo⟩ := Lib.fin_at w (.cells Lib.zeros24 116) dk k 0
    refine ⟨rfl, ?_⟩
    rw [eo]
    exact fr_grow _ _ _

set_option maxRecDepth 100000 in
theorem fmtu_any (u : Nat) (hu64 : u < 18446744073709551616) (w : World) (htab : Pows w) :
    Calls Tryz.prog 91 #[.int .u64 u, .int .i64 10] w fun e w' => e = .returned (.string ⟨(Lib.decDigits u).toArray⟩) ∧ Fr [] w w' := by
  go_enter Tryz.func91, Tryz.ntmps91
  go_wp2_with (go_at_call 103; refine (fmtu_in u hu64 _ htab).mono ?_; rintro e w' ⟨rfl, f⟩)
  go_ret
  exact ⟨rfl, f⟩

theorem fmti_any (n : Int) (h0 : -9223372036854775808 ≤ n) (h1 : n ≤ 9223372036854775807) (w : World) (htab : Pows w) :
    Calls Tryz.prog 58 #[.int .i64 n, .int .i64 10] w fun e w' => e = .returned (.string ⟨(Lib.itoa n).toArray⟩) ∧ Fr [] w w' :=
  (Tryz.strconv_FormatInt_10 n h0 h1 w htab).mono fun _ _ ⟨he, _, _, hw⟩ => ⟨he, hw ▸ fr_grow _ _ _⟩

theorem itoa_any (n : Int) (h0 : -9223372036854775808 ≤ n) (h1 : n ≤ 9223372036854775807) (w : World) (htab : Pows w) :
    Calls Tryz.prog 57 #[.int .i64 n] w fun e w' => e = .returned (.string ⟨(Lib.itoa n).toArray⟩) ∧ Fr [] w w' :=
  (Tryz.strconv_Itoa n h0 h1 w htab).mono fun _ _ ⟨he, _, _, hw⟩ => ⟨he, hw ▸ fr_grow _ _ _⟩

set_option maxRecDepth 100000 in
theorem amount_any (n : Int) (h0 : -9223372036854775808 ≤ n) (h1 : n ≤ 9223372036854775807) (w : World) :
    Calls Tryz.prog 90 #[.int .i64 n] w fun e w' => e = .returned (.int .u64 (n.natAbs : Int)) ∧ w' = w := by
  by_cases h : n < 0
  · go_enter Tryz.func90, Tryz.ntmps90
    go_wp2
    go_ret
    exact ⟨congrArg (fun z => Ending.returned (Value.int .u64 z)) (show IntKind.u64.wrap (-IntKind.u64.wrap n) = (n.natAbs : Int) by rw [IntKind.wrap_u64, IntKind.wrap_u64]; omega), rfl⟩
  · go_enter Tryz.func90, Tryz.ntmps90
    go_wp2
    go_ret
    exact ⟨congrArg (fun z => Ending.returned (Value.int .u64 z)) (show n = (n.natAbs : Int) by omega), rfl⟩

/-- A digit of a byte. -/
def hexC (n : Nat) : UInt8 := if n < 10 then UInt8.ofNat (48 + n) else UInt8.ofNat (87 + n)

set_option maxRecDepth 100000 in
theorem hex_any (n : Nat) (h : n < 16) (w : World) : Calls Tryz.prog 95 #[.int .i64 (n : Int)] w fun e w' => e = .returned (.string ⟨#[hexC n]⟩) ∧ w' = w := by
  have hn : n = 0 ∨ n = 1 ∨ n = 2 ∨ n = 3 ∨ n = 4 ∨ n = 5 ∨ n = 6 ∨ n = 7 ∨ n = 8 ∨ n = 9 ∨ n = 10 ∨ n = 11 ∨ n = 12 ∨ n = 13 ∨ n = 14 ∨ n = 15 := by omega
  rcases hn with rfl | rfl | rfl | rfl | rfl | rfl | rfl | rfl | rfl | rfl | rfl | rfl | rfl | rfl | rfl | rfl <;>
  · go_enter Tryz.func95, Tryz.ntmps95
    go_wp2
    go_ret
    exact ⟨rfl, rfl⟩
end Go.Proofs.YtgdneoajmaeckaaGreatDoor
