/- The five tables that the rows of SessionSays, SessionLines, SessionRoom and SessionPlays list, and a world that holds them. No condition. -/
import Derived.Test.YtgdneoajmaeckaaGreatDoorLa
import Derived.Test.YtgdneoajmaeckaaGreatDoorSy
import Derived.Lib.LaidTab
namespace Go.Proofs.YtgdneoajmaeckaaGreatDoor.laidC
open Go.Shelf Go.Lib

theorem laidPow : (Rows.laid_internal_strconv_uint64pow10 : DataW Unit) = Lib.tabData .u64 Lib.pow10Tab := by kernel_rfl
theorem laidFirst : Rows.laid_unicode_utf8_first = Lib.firstData := by kernel_rfl
theorem laidAccept : (Rows.laid_unicode_utf8_acceptRanges : DataW Unit) = Lib.acceptData := by kernel_rfl

def laidFive : List (String × DataW Unit) := [("math/bits.deBruijn32tab", Rows.laid_math_bits_deBruijn32tab), ("math/bits.deBruijn64tab", Rows.laid_math_bits_deBruijn64tab), ("internal/strconv.uint64pow10", Rows.laid_internal_strconv_uint64pow10), ("unicode/utf8.acceptRanges", Rows.laid_unicode_utf8_acceptRanges), ("unicode/utf8.first", Rows.laid_unicode_utf8_first)]

theorem utf_of_laid {W : World} (hL : laidMet Tryz.prog laidFive W) : Lib.Utf8Tabs 1 2 W := by
  have h1 := Lib.laidMet.reads hL (n := "unicode/utf8.acceptRanges") (.tail _ (.tail _ (.tail _ (.head _))))
  have h0 := Lib.laidMet.reads hL (n := "unicode/utf8.first") (.tail _ (.tail _ (.tail _ (.tail _ (.head _)))))
  rw [laidAccept] at h1
  rw [laidFirst] at h0
  exact utf8Tabs_of_readsT (U8Types.of196 Tryz.lays196) ⟨by kernel_rfl, by kernel_rfl, by kernel_rfl, by kernel_rfl, by kernel_rfl, by kernel_rfl, by kernel_rfl⟩ h0 h1

theorem pows_of_laid {W : World} (hL : laidMet Tryz.prog laidFive W) : Pows W := by
  have h3 := Lib.laidMet.reads hL (n := "internal/strconv.uint64pow10") (.tail _ (.tail _ (.head _)))
  rw [laidPow] at h3
  obtain ⟨g, t, cs, fuel, p, hg, ht, hv, hd⟩ := h3
  obtain rfl : 3 = g := Option.some.inj ((show Tryz.prog.globalNamed "internal/strconv.uint64pow10" = some 3 by kernel_rfl).symm.trans hg)
  have hty : (Tryz.prog.globals[3]?).map (·.type) = some 128 := by kernel_rfl
  obtain rfl := Option.some.inj (hty.symm.trans ht)
  unfold Pows Lib.TabIs
  rw [hv, ← Lib.cells_of_tab (n := 20) (e := 117) (k := .u64) (by kernel_rfl) (by kernel_rfl) (by kernel_rfl) (by kernel_rfl) hd]

theorem tabs_of_laid {W : World} (hL : laidMet Tryz.prog laidFive W) (hM : SomeMax W) : Tabs W := ⟨utf_of_laid hL, hM, pows_of_laid hL⟩

def valsOf : DataW Unit → Array Value
  | .agg l => (l.filterMap fun | .lit (.int k n) => some (Value.int k n) | _ => none).toArray
  | _ => #[]

noncomputable def laidWorld (os : Os) : World :=
  let w0 := World.holding Tryz.prog os ⟨#[], #[], []⟩
  let put (h : Array Obj) (g : Nat) (cs : Array Value) : Array Obj := h.modify g fun
    | .cells _ t frozen => .cells cs t frozen
    | o => o
  let h1 := put w0.heap 1 (Lib.firstTab.map fun z => Value.int .u8 z).toArray
  let h2 := put h1 2 ((List.range 16).flatMap fun i => [Value.int .u8 (Lib.accLo i), Value.int .u8 (Lib.accHi i)]).toArray
  let h3 := put h2 3 (valsOf Rows.laid_internal_strconv_uint64pow10)
  let h4 := put h3 4 (valsOf Rows.laid_math_bits_deBruijn32tab)
  let h5 := put h4 5 (valsOf Rows.laid_math_bits_deBruijn64tab)
  { w0 with heap := h5 }
theorem laid_met (os : Os) (args : Array Value) : laidMet Tryz.prog laidFive ((laidWorld os).forCall (fun _ _ => 0) ⟨#[], args, []⟩).memory :=
  (LaidIn.of_run (l := laidFive) [4, 5, 3, 2, 1] 8 (by kernel_rfl) (by kernel_rfl) (by kernel_rfl) (by kernel_rfl)).met
end Go.Proofs.YtgdneoajmaeckaaGreatDoor.laidC
