/- session.escaped: a text of runes told without a line's end. Condition: it is runes alone, and its size. -/
import Derived.Test.YtgdneoajmaeckaaGreatDoorBu
import Derived.Test.YtgdneoajmaeckaaGreatDoorEs
import Derived.Test.YtgdneoajmaeckaaGreatDoorRunp
import Derived.Lib.OthersKept
namespace Go.Proofs.YtgdneoajmaeckaaGreatDoor
open Go.RowKit

theorem Bd.iterAt {w : World} {B b : Nat} {l : List UInt8} (h : Bd w B b l) {k : Nat} {s : ByteArray} {pos : Nat} (hk : w.heap[k]? = some (.stringIter s pos)) (pos' : Nat) : Bd (w.iterAt k s pos') B b l := by
  have f : Fr [k] w (w.iterAt k s pos') := ⟨rfl, rfl, rfl, by rw [Lib.iterAt_size]; exact Nat.le_refl _, fun i _ hi => Lib.iterAt_other w k i s pos' (by simpa using hi)⟩
  obtain ⟨h0, p, v, hb, hp, ho⟩ := h
  refine ⟨h0, p, v, f.heap hb ?_, hp, ?_⟩
  · intro e
    have : b = k := by simpa using e
    subst this
    rw [hk] at hb; cases hb
  · obtain ⟨h1, h2⟩ := ho
    refine ⟨h1, ?_⟩
    rcases h2 with h2 | ⟨g, cap, cur, hv, hg, hh, r⟩
    · exact Or.inl h2
    · refine Or.inr ⟨g, cap, cur, hv, hg, f.heap hh ?_, r⟩
      intro e
      have : g = k := by simpa using e
      subst this
      rw [hk] at hh; cases hh

theorem Kb.iter {b k : Nat} {w w' : World} {s : ByteArray} {pos : Nat} (h : Kb b w w') (hk : w.heap[k]? = some (.stringIter s pos)) (hne : k ≠ b) : w'.heap[k]? = some (.stringIter s pos) :=
  h.same k _ hk hne (fun _ _ e => by cases e)

theorem width_pos (s : ByteArray) (pos : Nat) (h : pos < s.size) : 1 ≤ (Utf8.decode s pos).2 := by
  by_cases ha : (s[pos]'h).toNat < 128
  · rw [decode_ascii s pos h ha]
    exact Nat.le_refl _
  · exact (decode_high s pos h (by omega)).2

def EscR (s : ByteArray) (w wr : World) : Prop :=
  ∃ (pos : Nat) (acc : List UInt8), wr.heap[w.heap.size + 1]? = some (.stringIter s pos) ∧ Bd wr w.heap.size w.heap.size acc ∧ acc ++ nlB (s.data.toList.drop pos) = nlB s.data.toList ∧ Lib.validD (s.data.toList.drop pos) = true ∧ Below w.heap.size w wr

set_option maxRecDepth 1000000
set_option maxHeartbeats 4000000 in
theorem escaped_any (l : List UInt8) (hv : Lib.validD l = true) (w : World) (hs : l.length ≤ 35184372088832) :
    Calls Tryz.prog 59 #[.string ⟨l.toArray⟩] w fun e w' => e = .returned (.string ⟨(nlB l).toArray⟩) ∧ Fr [] w w' := by
  have hsz := size_mk l
  have hl : (⟨l.toArray⟩ : ByteArray).data.toList = l := by simp
  have HL := Lib.hid hl
  have HV := Lib.hid (show Lib.validD (⟨l.toArray⟩ : ByteArray).data.toList = true by rw [hl]; exact hv)
  clear hl hv
  generalize (⟨l.toArray⟩ : ByteArray) = s at *
  go_enter Tryz.func59, Tryz.ntmps59
  go_wp2_with fail
  go_loopw [] (fun wr => EscR s w wr) (fun wr => s.size - wr.iterPos (w.heap.size + 1))
  case atStart =>
    refine ⟨0, [], ?_, ?_, by simp, by rw [List.drop_zero]; exact HV.out, ((Below.refl _ w).alloc (Nat.le_refl _) _).alloc (by simp) _⟩
    · have := World.iter_heap (w.alloc (.cells #[.pointer none, .slice none 0 0] TB)) s 0
      simpa using this
    · exact (Bd.new w (Nat.le_refl _)).fr ((Fr.refl [] _).alloc _) (by simp)
  case round =>
    obtain ⟨pos, acc, hit, hI, hacc, hval, hbw⟩ := hrel
    have k1 : w.heap.size + 1 < wr.heap.size := (Array.getElem?_eq_some_iff.1 hit).1
    have hal : acc.length ≤ 2 * l.length := by
      have h1 := congrArg List.length hacc
      have h2 := nlB_len s.data.toList
      rw [HL.out] at h1 h2
      rw [List.length_append] at h1
      omega
    have HIt := Lib.hid hit
    have HAcc := Lib.hid hacc
    have HVal := Lib.hid hval
    have HBw := Lib.hid hbw
    by_cases hp : pos < s.size
    · have hnx : ∀ ty, (Instr.next (.pointer (some ⟨w.heap.size + 1, 0, none⟩)) true ty).run Tryz.prog wr = _ := fun ty => Lib.run_next_any_at wr (w.heap.size + 1) s pos ty hit hp
      have hln : s.data.toList.drop pos ≠ [] := by
        intro e
        have := congrArg List.length e
        rw [List.length_drop, HL.out, List.length_nil] at this
        omega
      have hdec : Lib.decodeL (s.data.toList.drop pos) = Utf8.decode s pos := Lib.decodeL_drop s pos
      obtain ⟨hgood, hnext⟩ := valid_head hln hval
      have hrune := nl_rune hln hgood
      rw [hdec] at hgood hnext hrune
      rw [List.drop_drop] at hnext hrune
      have HI2 := Lib.hid (hI.iterAt hit (pos + (Utf8.decode s pos).2))
      have HIt2 := Lib.hid (Lib.iterAt_heap wr (w.heap.size + 1) s pos (pos + (Utf8.decode s pos).2) hit)
      have HBw2 := Lib.hid (Lib.below_iterAt hbw (k := w.heap.size + 1) (by omega) s (pos + (Utf8.decode s pos).2))
      have HWd := Lib.hid (width_pos s pos hp)
      have HNext := Lib.hid hnext
      have hr1 : (Utf8.decode s pos).1 ≤ 1114111 := by
        rcases head_cases _ hln (by rw [hdec]; exact hgood) with ⟨c, t, -, hc, e⟩ | ⟨-, -, -, h4, -⟩
        · rw [hdec] at e; rw [e]; simp only; omega
        · rw [hdec] at h4; exact h4
      clear hit hI hacc hval hbw hln hdec hgood hnext
      rcases hrune with ⟨h92, hr⟩ | ⟨h10, hr⟩ | ⟨h92, h10, hr⟩
      · have HR := Lib.hid hr
        clear hr
        go_wp2_with (go_at_call 47; refine (wstr_any HI2.out [92, 92] (by simp; omega)).mono ?_; rintro e W1 ⟨rfl, h1, b1, q1⟩)
        go_roundw
        case rel => exact ⟨pos + (Utf8.decode s pos).2, acc ++ [92, 92], q1.iter HIt2.out (by omega), h1, by rw [← HAcc.out, HR.out]; simp, HNext.out, HBw2.out.trans b1⟩
        case measure =>
          have := HWd.out
          simp only [World.iterPos, q1.iter HIt2.out (by omega), HIt.out]
          omega
      · have HR := Lib.hid hr
        clear hr
        go_wp2_with (go_at_call 47; refine (wstr_any HI2.out [92, 110] (by simp; omega)).mono ?_; rintro e W1 ⟨rfl, h1, b1, q1⟩)
        go_roundw
        case rel => exact ⟨pos + (Utf8.decode s pos).2, acc ++ [92, 110], q1.iter HIt2.out (by omega), h1, by rw [← HAcc.out, HR.out]; simp, HNext.out, HBw2.out.trans b1⟩
        case measure =>
          have := HWd.out
          simp only [World.iterPos, q1.iter HIt2.out (by omega), HIt.out]
          omega
      · have HR := Lib.hid hr
        have n1 : ((((Utf8.decode s pos).1 : Nat) : Int) == 92) = false := by simp; omega
        have n2 : ((((Utf8.decode s pos).1 : Nat) : Int) == 10) = false := by simp; omega
        clear hr h92 h10
        go_wp2_with (go_at_call 75; refine (wrune_any HI2.out (((Utf8.decode s pos).1 : Nat) : Int) (by omega) (by omega) (by omega)).mono ?_; rintro e W1 ⟨⟨v, rfl⟩, h1, b1, q1⟩)
        go_roundw
        case rel => exact ⟨pos + (Utf8.decode s pos).2, _, q1.iter HIt2.out (by omega), h1, by rw [← HAcc.out, HR.out]; simp, HNext.out, HBw2.out.trans b1⟩
        case measure =>
          have := HWd.out
          simp only [World.iterPos, q1.iter HIt2.out (by omega), HIt.out]
          omega
    · have hnx : ∀ ty, (Instr.next (.pointer (some ⟨w.heap.size + 1, 0, none⟩)) true ty).run Tryz.prog wr = _ := fun ty => Lib.run_next_end_at wr (w.heap.size + 1) s pos ty hit hp
      have HI := Lib.hid hI
      have HE := Lib.hid (show acc = nlB l by
        have e1 : s.data.toList.drop pos = [] := List.drop_eq_nil_of_le (by rw [HL.out]; omega)
        rw [e1] at hacc
        rw [← HL.out]
        simpa [nlB] using hacc)
      clear hit hI hacc hval hbw
      go_wp2_with (go_at_call 48; refine (bstring_any HI.out).mono ?_; rintro e W1 ⟨rfl, b1⟩)
      go_ret
      exact ⟨by rw [HE.out]; rfl, Fr.ofBelow (HBw.out.trans b1)⟩
end Go.Proofs.YtgdneoajmaeckaaGreatDoor
