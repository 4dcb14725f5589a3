/- freshetref02.Encode and what it calls: a row's bytes. No condition but the size that can be read. -/
import Derived.Test.YtpcmibimglkocaaDoorEnc
import Derived.Test.YtpcmibimglkocaaDoorReads
namespace Go.Proofs.YtpcmibimglkocaaDoor
open Go.RowKit

theorem bytesN_get : ∀ (k n j : Nat), j < k → (bytesN k n)[j]? = some (UInt8.ofNat (n / 256 ^ (k - 1 - j)))
  | 0, _, _, h => by omega
  | k + 1, n, 0, _ => by simp [bytesN]
  | k + 1, n, j + 1, h => by
    have hj : j < k := by omega
    have := bytesN_get k (n % 256 ^ k) j hj
    simp only [bytesN, List.getElem?_cons_succ, this]
    have e1 : k + 1 - 1 - (j + 1) = k - 1 - j := by omega
    rw [e1]
    have e2 : k = (k - 1 - j) + (j + 1) := by omega
    have e3 : n % 256 ^ k / 256 ^ (k - 1 - j) = n / 256 ^ (k - 1 - j) % 256 ^ (j + 1) := by
      conv => lhs; rw [e2, Nat.pow_add]
      rw [show k - 1 - j + (j + 1) - 1 - j = k - 1 - j by omega]
      exact Nat.mod_mul_right_div_self _ _ _
    rw [e3]
    congr 1
    apply UInt8.toNat_inj.1
    rw [UInt8.toNat_ofNat', UInt8.toNat_ofNat']
    rw [Nat.pow_succ', show (2 ^ 8 : Nat) = 256 from rfl, Nat.mod_mul_right_mod]

theorem eight_take (i : Int) (j : Nat) (h : j < 8) : (eightB i).take (j + 1) = (eightB i).take j ++ [UInt8.ofNat ((i + 9223372036854775808).toNat / 256 ^ (7 - j))] := by
  rw [List.take_add_one]
  have := bytesN_get 8 (i + 9223372036854775808).toNat j h
  have e : (eightB i)[j]? = _ := this
  rw [e]
  rfl

theorem eight_byte (n j : Nat) : (n : Int) / 2 ^ (8 * (7 - j)) % 256 = ((UInt8.ofNat (n / 256 ^ (7 - j))).toNat : Int) := by
  have e : (2 : Nat) ^ (8 * (7 - j)) = 256 ^ (7 - j) := by rw [Nat.pow_mul]
  have e2 : ((2 : Int) ^ (8 * (7 - j))) = ((256 ^ (7 - j) : Nat) : Int) := by rw [← e]; simp
  rw [e2, UInt8.toNat_ofNat']
  simp

set_option maxRecDepth 100000
set_option maxHeartbeats 800000 in
theorem reight_any (i : Int) (w : World) (h64 : fits64 i) :
    Calls Tryd.prog 38 #[.int .i64 i] w fun e w' => (∃ v, e = .returned v ∧ w'.ownsRow w.heap.size 5 1 v 8 (bytesC (eightB i))) ∧ Fr [] w w' := by
  obtain ⟨i0, hi, hz0, hz1, hz2⟩ := info_parts info5
  obtain ⟨h1, h2⟩ := h64
  obtain ⟨n, HN⟩ : ∃ n : Nat, Hid ((i + 9223372036854775808).toNat = n) := ⟨_, Lib.hid rfl⟩
  have hn1 : n < 18446744073709551616 := by have := HN.out; omega
  have hn : IntKind.u64.wrap (IntKind.u64.wrap i + 9223372036854775808) = (n : Int) := by
    have := HN.out
    rw [IntKind.wrap_u64, IntKind.wrap_u64]; omega
  go_enter Tryd.func38, Tryd.ntmps38
  go_wp2_with fail
  go_loopw [4, 5] (fun a4 a5 wr => ∃ j : Nat, j ≤ 8 ∧ a5 = .int .i64 (7 - (j : Int)) ∧ wr.ownsRow w.heap.size 5 1 a4 j (bytesC ((eightB i).take j)) ∧ Fr [] w wr) (fun _ a5 _ => (intOf a5 + 1).toNat)
  case atStart => exact ⟨0, by omega, rfl, World.ownsRow_made w #[] 0 (Nat.le_refl _) (by decide) rfl, (Fr.refl _ _).alloc _⟩
  case round =>
    obtain ⟨j, hj, rfl, hown, hf⟩ := hrel
    have HO := Lib.hid hown
    have HF := Lib.hid hf
    have k3 := hf.size
    clear hown hf
    by_cases hlt : j < 8
    · have HT := Lib.hid (eight_take i j hlt)
      have HB := Lib.hid (eight_byte n j)
      go_wp2_with (at_builtin; refine wpList_append_own _ rfl (.tmp 14) (.tmp 21) 42 rfl w.heap.size 5 i0 (.int .u8 0) 1 1 Tryd.underlying42 hi hz0 hz1 hz2 rfl (by decide) _ _ _ rfl (HO.out.alloc _) ⟨wr.heap.size, 0, none⟩ 1 1 [.int .u8 ((n : Int) / 2 ^ (8 * (7 - j)) % 256)] rfl rfl (cell_one_new _ _ _) (ints_oneCell .u8 [(n : Int) / 2 ^ (8 * (7 - j)) % 256]) (by unfold maxLen; omega) (by omega) (by simp; omega) ?_; intro v'' w3 hown3 hgrow3 _)
      have hf3 := (HF.out.alloc _).fresh hgrow3 (fun r e => Or.inl (HO.out.lt r e).1)
      rw [HB.out] at hown3
      go_wp2_with fail
      go_roundw
      case rel => exact ⟨j + 1, by omega, by go_num, by rw [HT.out, HN.out]; simpa [bytesC] using hown3, hf3⟩
      case measure => simp [intOf]; omega
    · have hj8 : j = 8 := by omega
      subst hj8
      have HE := Lib.hid (show (eightB i).take 8 = eightB i from List.take_of_length_le (by rw [eightB, bytesN_len]; exact Nat.le_refl _))
      go_wp2_with fail
      go_ret
      exact ⟨⟨_, rfl, by have := HO.out; rw [HE.out] at this; exact this⟩, HF.out⟩
end Go.Proofs.YtpcmibimglkocaaDoor
