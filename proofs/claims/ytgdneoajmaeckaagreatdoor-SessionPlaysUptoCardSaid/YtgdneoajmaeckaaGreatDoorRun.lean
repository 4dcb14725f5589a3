/- freshetref01.Runes: does a text hold runes alone? No condition but the size that can be read. -/
import Derived.Test.YtgdneoajmaeckaaGreatDoorRight
import Derived.Test.YtgdneoajmaeckaaGreatDoorRunp
namespace Go.Proofs.YtgdneoajmaeckaaGreatDoor
open Go.RowKit

def RunR (s : ByteArray) (w : World) (n : Value) (wr : World) : Prop :=
  ∃ pos cnt : Nat, wr = w.iter s pos ∧ n = .int .i64 cnt ∧ cnt ≤ pos ∧ Lib.validD s.data.toList = Lib.validD (s.data.toList.drop pos)

def RunIs (l : List UInt8) (e : Ending) : Prop := ∃ n : Int, e = .returned (.tuple #[.int .i64 n, .bool (Lib.validD l)])

theorem slice3 (s : ByteArray) (pos : Nat) (h : pos + 3 ≤ s.size) (wx : World) :
    (Instr.slice 9 (.string s) (some (.int .i64 (pos : Int))) (some (.int .i64 ((pos : Int) + 3))) none).run Tryz.prog wx = .ok (.string (s.extract pos (pos + 3))) wx := by
  have := run_slice_string (P := Tryz.prog) (w := wx) 9 s .i64 .i64 (pos : Int) ((pos : Int) + 3) Tryz.underlying9 (by omega) (by omega) (by omega)
  rw [show ((pos : Int) + 3).toNat = pos + 3 by omega, show ((pos : Int)).toNat = pos by omega] at this
  exact this

set_option maxRecDepth 100000
set_option maxHeartbeats 800000 in
theorem runes_any (s : ByteArray) (w : World) (hs : s.size ≤ 140737488351232) :
    Calls Tryz.prog 106 #[.string s] w fun e w' => RunIs s.data.toList e ∧ Fr [] w w' := by
  go_enter Tryz.func106, Tryz.ntmps106
  go_wp2_with fail
  go_loopw [4] (fun n wr => RunR s w n wr) (fun _ w' => s.size - w'.iterPos w.heap.size)
  case atStart => exact ⟨0, 0, rfl, rfl, Nat.le_refl _, by simp⟩
  case round =>
    obtain ⟨pos, cnt, rfl, rfl, hc, hV⟩ := hrel
    have HV := Lib.hid hV
    clear hV
    by_cases hp : pos < s.size
    · have hnx : ∀ ty, (Instr.next (.pointer (some ⟨w.heap.size, 0, none⟩)) true ty).run Tryz.prog (w.iter s pos) = _ := fun ty => run_next_any w s pos ty hp
      have hwd := Lib.hid (Lib.width_pos s pos)
      have HS := Lib.hid (validD_at s pos hp)
      by_cases hd : (Utf8.decode s pos).1 = 65533
      · have hdI : (((Utf8.decode s pos).1 : Nat) : Int) = 65533 := by omega
        rcases runes_at s pos hp hd with ⟨h1, h2⟩ | ⟨h1, h2, h3⟩
        · have HF := Lib.hid (show Lib.validD s.data.toList = false by rw [HV.out, HS.out, if_pos ⟨hd, h1⟩])
          clear h1
          by_cases h3 : s.size < pos + 3
          · clear h2 hd
            go_wp2
            go_ret2
            exact ⟨⟨_, by rw [HF.out]; rfl⟩, (Fr.refl [] w).alloc _⟩
          · have h4 : ((s.extract pos (pos + 3)).toList == [239, 191, 189]) = false := by
              rcases h2 with h2 | h2
              · omega
              · exact h2
            have h5 : pos + 3 ≤ s.size := by omega
            have hsl := slice3 s pos h5
            clear h2 h3 hd
            go_wp2
            go_ret2
            exact ⟨⟨_, by rw [HF.out]; rfl⟩, (Fr.refl [] w).alloc _⟩
        · have HT := Lib.hid (show Lib.validD s.data.toList = _ by rw [HV.out, HS.out, if_neg (by omega)])
          have hsl := slice3 s pos h2
          clear hd h1
          go_wp2
          go_roundw
          case rel => exact ⟨pos + (Utf8.decode s pos).2, cnt + 1, rfl, by go_num, by have := hwd.out; omega, HT.out⟩
          case measure => have := hwd.out; simp; omega
      · have hdI : ¬ (((Utf8.decode s pos).1 : Nat) : Int) = 65533 := by omega
        have HT := Lib.hid (show Lib.validD s.data.toList = _ by rw [HV.out, HS.out, if_neg (by omega)])
        clear hd
        go_wp2
        go_roundw
        case rel => exact ⟨pos + (Utf8.decode s pos).2, cnt + 1, rfl, by go_num, by have := hwd.out; omega, HT.out⟩
        case measure => have := hwd.out; simp; omega
    · have hnx : ∀ ty, (Instr.next (.pointer (some ⟨w.heap.size, 0, none⟩)) true ty).run Tryz.prog (w.iter s pos) = _ := fun ty => run_next_end w s pos ty hp
      have HT := Lib.hid (show Lib.validD s.data.toList = true by
        have hl : s.data.toList.length = s.size := by rw [Array.length_toList]; rfl
        rw [HV.out, List.drop_eq_nil_of_le (by omega)]; rfl)
      go_wp2
      go_ret2
      exact ⟨⟨_, by rw [HT.out]; rfl⟩, (Fr.refl [] w).alloc _⟩
end Go.Proofs.YtgdneoajmaeckaaGreatDoor
