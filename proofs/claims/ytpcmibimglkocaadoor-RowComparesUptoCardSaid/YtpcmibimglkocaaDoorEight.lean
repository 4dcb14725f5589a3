/- row.eight: a number's eight bytes. No condition but that it is one of 64 bits. -/
import Derived.Test.YtpcmibimglkocaaDoorRencode
namespace Go.Proofs.YtpcmibimglkocaaDoor
open Go.RowKit

theorem xor_flip (m : Nat) (h : m < 18446744073709551616) : m ^^^ 9223372036854775808 = if m < 9223372036854775808 then m + 9223372036854775808 else m - 9223372036854775808 := by
  have h1 : (m ^^^ 9223372036854775808) / 9223372036854775808 = m / 9223372036854775808 ^^^ 1 := by
    have := Nat.xor_div_two_pow (a := m) (b := 9223372036854775808) (n := 63)
    simpa using this
  have h2 : (m ^^^ 9223372036854775808) % 9223372036854775808 = m % 9223372036854775808 := by
    have := Nat.xor_mod_two_pow (a := m) (b := 9223372036854775808) (n := 63)
    simpa using this
  have h3 : m / 9223372036854775808 = 0 ∨ m / 9223372036854775808 = 1 := by omega
  generalize m ^^^ 9223372036854775808 = X at *
  rcases h3 with h3 | h3
  · rw [h3] at h1
    have h4 : X / 9223372036854775808 = 1 := h1
    rw [if_pos (by omega)]; omega
  · rw [h3] at h1
    have h4 : X / 9223372036854775808 = 0 := h1
    rw [if_neg (by omega)]; omega

theorem xor_num (i : Int) (h : fits64 i) : bits .xor .u64 (IntKind.u64.wrap i) 9223372036854775808 = (((i + 9223372036854775808).toNat : Nat) : Int) := by
  obtain ⟨h1, h2⟩ := h
  obtain ⟨m, hm⟩ : ∃ m : Nat, IntKind.u64.wrap i = (m : Int) := ⟨(IntKind.u64.wrap i).toNat, by rw [IntKind.wrap_u64]; omega⟩
  have hm2 : m < 18446744073709551616 := by rw [IntKind.wrap_u64] at hm; omega
  have h3 := u64_xor_nat m 9223372036854775808 hm2 (by omega)
  have h4 : bits .xor .u64 (m : Int) 9223372036854775808 = ((m ^^^ 9223372036854775808 : Nat) : Int) := h3
  rw [hm, h4, xor_flip m hm2]
  rw [IntKind.wrap_u64] at hm
  split <;> omega

def EightR (i : Int) (w : World) (a12 : Value) (wr : World) : Prop :=
  ∃ (k : Nat) (cur : Array Value), k ≤ 8 ∧ a12 = .int .i64 k ∧ wr.heap[w.heap.size]? = some (.cells cur 5) ∧ cur.size = 8 ∧ (∀ j, j < k → cur[j]? = (bytesC (eightB i))[j]?) ∧ Fr [] w wr

set_option maxRecDepth 100000
set_option maxHeartbeats 800000 in
theorem eight_any (i : Int) (w : World) (h64 : fits64 i) :
    Calls Tryd.prog 26 #[.int .i64 i] w fun e w' => (∃ v, e = .returned v ∧ w'.ownsRow w.heap.size 5 1 v 8 (bytesC (eightB i))) ∧ Fr [] w w' := by
  have hx := xor_num i h64
  obtain ⟨h1, h2⟩ := h64
  obtain ⟨n, HN⟩ : ∃ n : Nat, Hid ((i + 9223372036854775808).toNat = n) := ⟨_, Lib.hid rfl⟩
  have hn1 : n < 18446744073709551616 := by have := HN.out; omega
  rw [HN.out] at hx
  have hmk : ∀ w, (Instr.makeSlice 42 (.int .i64 8) (.int .i64 8)).run Tryd.prog w = .ok (.slice (some ⟨w.heap.size, 0, none⟩) 8 8) (w.alloc (.cells #[.int .u8 0, .int .u8 0, .int .u8 0, .int .u8 0, .int .u8 0, .int .u8 0, .int .u8 0, .int .u8 0] 5)) := fun _ => by kernel_rfl
  go_enter Tryd.func26, Tryd.ntmps26
  go_wp2_with fail
  go_loopw [12] (fun a12 wr => EightR i w a12 wr) (fun a12 _ => 8 - (intOf a12).toNat)
  case atStart => exact ⟨0, _, by omega, rfl, heap_alloc_new w _, rfl, by simp, (Fr.refl _ _).alloc _⟩
  case round =>
    obtain ⟨k, cur, hk, rfl, hb, hsz, hcur, hf⟩ := hrel
    have HB := Lib.hid hb
    have HF := Lib.hid hf
    have HC := Lib.hid hcur
    clear hb hf hcur
    by_cases hlt : k < 8
    · obtain ⟨u0, hu0⟩ : ∃ u, cur[k]? = some u := ⟨_, Array.getElem?_eq_getElem (by omega)⟩
      have c0 : wr.cell? ⟨w.heap.size, k, none⟩ = some u0 := cell_blk HB.out k _ hu0
      clear hu0
      have z0 : wr.frozen? ⟨w.heap.size, k, none⟩ = false := by simp [World.frozen?, HB.out]
      have HSz := Lib.hid hsz
      clear hsz
      go_wp2_with fail
      go_roundw
      case rel =>
        refine ⟨k + 1, cur.setIfInBounds k _, by omega, by go_num, heap_setCell_same wr _ _ _ _ _ HB.out, by simpa using HSz.out, ?_, HF.out.setNew (by simp) _⟩
        intro j hj
        have hs8 := HSz.out
        by_cases hjk : j = k
        · subst hjk
          rw [Array.getElem?_setIfInBounds_self_of_lt (by omega)]
          have h7 := bytesN_get 8 n j hlt
          have h8 : (eightB i)[j]? = some (UInt8.ofNat (n / 256 ^ (7 - j))) := by unfold eightB; rw [HN.out]; exact h7
          have h9 := eight_byte n j
          have h10 : 56 - 8 * j = 8 * (7 - j) := by omega
          rw [h10, h9]
          simp [bytesC, h8]
        · rw [Array.getElem?_setIfInBounds_ne (fun e => hjk e.symm)]
          exact HC.out j (by omega)
      case measure => simp [intOf]; omega
    · have hk8 : k = 8 := by omega
      subst hk8
      go_wp2_with fail
      go_ret
      refine ⟨⟨_, rfl, ?_⟩, HF.out⟩
      have hl : (bytesC (eightB i)).length = 8 := by simp [bytesC, eightB, bytesN_len]
      refine ⟨by rw [hl], Or.inr ⟨w.heap.size, 8, cur, rfl, Nat.le_refl _, HB.out, Nat.le_refl _, by decide, hsz, ?_⟩⟩
      apply List.ext_getElem?
      intro j
      by_cases hj : j < 8
      · rw [List.getElem?_take, if_pos (by omega), ← HC.out j hj]; simp
      · rw [List.getElem?_eq_none (by simp; omega), List.getElem?_eq_none (by omega)]
end Go.Proofs.YtpcmibimglkocaaDoor
