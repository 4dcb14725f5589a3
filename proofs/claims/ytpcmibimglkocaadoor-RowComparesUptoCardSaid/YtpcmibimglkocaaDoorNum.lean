/- row.number: eight bytes as a number. No condition but that there are eight bytes at most. -/
import Derived.Test.YtpcmibimglkocaaDoorRight
namespace Go.Proofs.YtpcmibimglkocaaDoor
open Go.RowKit

theorem or_low (n c : Nat) (hc : c < 256) : n * 256 ||| c = n * 256 + c := by
  have := Nat.shiftLeft_add_eq_or_of_lt (i := 8) (b := c) (by omega) n
  rw [Nat.shiftLeft_eq] at this
  exact this.symm

theorem xor_top (n : Nat) (h : n < 18446744073709551616) : wrap64 ((n ^^^ 9223372036854775808 : Nat) : Int) = (n : Int) - 9223372036854775808 := by
  have h1 : (n ^^^ 9223372036854775808) / 9223372036854775808 = n / 9223372036854775808 ^^^ 1 := by
    have := Nat.xor_div_two_pow (a := n) (b := 9223372036854775808) (n := 63)
    simpa using this
  have h2 : (n ^^^ 9223372036854775808) % 9223372036854775808 = n % 9223372036854775808 := by
    have := Nat.xor_mod_two_pow (a := n) (b := 9223372036854775808) (n := 63)
    simpa using this
  have h3 : n / 9223372036854775808 = 0 ∨ n / 9223372036854775808 = 1 := by omega
  generalize n ^^^ 9223372036854775808 = X at *
  unfold wrap64
  rcases h3 with h3 | h3
  · rw [h3] at h1
    have h4 : X / 9223372036854775808 = 1 := h1
    omega
  · rw [h3] at h1
    have h4 : X / 9223372036854775808 = 0 := h1
    omega

theorem natB_step (l : List UInt8) (c : UInt8) : natB (l ++ [c]) = natB l * 256 + c.toNat := by
  unfold natB; rw [List.foldl_append]; rfl

theorem natB_foldl_lt (l : List UInt8) : ∀ n m : Nat, n < m → l.foldl (fun n (c : UInt8) => n * 256 + c.toNat) n < m * 256 ^ l.length := by
  induction l with
  | nil => intro n m h; simpa using h
  | cons c r ih =>
    intro n m h
    have hc := c.toNat_lt
    have := ih (n * 256 + c.toNat) (m * 256) (by omega)
    rw [List.foldl_cons, List.length_cons, Nat.pow_succ', ← Nat.mul_assoc]
    exact this

theorem natB_lt (l : List UInt8) : natB l < 256 ^ l.length := by
  have := natB_foldl_lt l 0 1 (by omega)
  rwa [Nat.one_mul] at this

theorem natB_lt_of (l : List UInt8) (n : Nat) (h : l.length ≤ n) : natB l < 256 ^ n :=
  Nat.lt_of_lt_of_le (natB_lt l) (Nat.pow_le_pow_right (by omega) h)

theorem or_round (s : ByteArray) (k : Nat) (hk : k < s.size) (hs : s.size ≤ 8) (c : UInt8) (hc : s.data.toList[k]? = some c) :
    bits .or .u64 (IntKind.u64.wrap ((natB (s.data.toList.take k) : Int) * 256)) (IntKind.u64.wrap (c.toNat : Int)) = ((natB (s.data.toList.take (k + 1)) : Nat) : Int) := by
  have h1 : natB (s.data.toList.take k) < 256 ^ 7 := natB_lt_of _ 7 (by rw [List.length_take]; omega)
  have hcb := c.toNat_lt
  have e1 : IntKind.u64.wrap ((natB (s.data.toList.take k) : Int) * 256) = ((natB (s.data.toList.take k) * 256 : Nat) : Int) := by
    rw [IntKind.wrap_u64]; omega
  have e2 : IntKind.u64.wrap (c.toNat : Int) = (c.toNat : Int) := by
    rw [IntKind.wrap_u64]; omega
  rw [e1, e2, u64_or_nat _ _ (by omega) (by omega), or_low _ _ (by omega), List.take_add_one, hc]
  simp only [Option.toList_some]
  rw [natB_step]

theorem xor_end (l : List UInt8) (h : l.length ≤ 8) : wrap64 (bits .xor .u64 (natB l : Int) 9223372036854775808) = numB l := by
  have h1 : natB l < 256 ^ 8 := natB_lt_of _ 8 h
  have := u64_xor_nat (natB l) 9223372036854775808 (by omega) (by omega)
  have h2 : bits .xor .u64 (natB l : Int) 9223372036854775808 = ((natB l ^^^ 9223372036854775808 : Nat) : Int) := this
  rw [h2, xor_top _ (by omega)]
  rfl

set_option maxHeartbeats 800000 in
theorem number_any (s : ByteArray) (w : World) (hs : s.size = 8) :
    Calls Tryd.prog 34 #[.string s] w fun e w' => e = .returned (.int .i64 (numB s.data.toList)) ∧ w = w' := by
  have hs8 : s.size ≤ 8 := by omega
  have hs9 : 8 ≤ s.size := by omega
  clear hs
  go_enter Tryd.func34, Tryd.ntmps34
  go_wp2
  go_loop [3, 7] (fun n i => ∃ k : Nat, k ≤ s.size ∧ i = .int .i64 k ∧ n = .int .u64 (natB (s.data.toList.take k))) (fun _ i => s.size - (intOf i).toNat)
  case atStart => exact ⟨0, Nat.zero_le _, rfl, rfl⟩
  case round =>
    obtain ⟨k, hk, rfl, rfl⟩ := hrel
    by_cases hlt : k < s.size
    · go_wp2
      refine ⟨⟨k + 1, by omega, by simp, ?_⟩, ?_⟩
      · have hd : s.data.toList.length = s.size := by rw [Array.length_toList]; rfl
        have := or_round s k hlt hs8 s[k] (by rw [List.getElem?_eq_getElem (by omega)]; rfl)
        rw [this]
      · simp only [intOf]; omega
    · have hk8 : k = s.size := by omega
      have hd : s.data.toList.length = s.size := by rw [Array.length_toList]; rfl
      have hx := xor_end (s.data.toList.take k) (by rw [List.length_take]; omega)
      have ht : s.data.toList.take k = s.data.toList := List.take_of_length_le (by omega)
      rw [ht] at hx
      rw [ht]
      go_wp2
      go_ret
      all_goals first | exact ⟨rfl, rfl⟩ | rfl

end Go.Proofs.YtpcmibimglkocaaDoor
