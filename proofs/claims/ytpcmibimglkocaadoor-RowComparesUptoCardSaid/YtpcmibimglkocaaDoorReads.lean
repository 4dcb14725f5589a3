/- The walk of RowReads. No condition but the size that can be read, and that the tables of package utf8 lie as its text lays them. -/
import Derived.Test.YtpcmibimglkocaaDoorRdec
import Derived.Test.YtpcmibimglkocaaDoorRow
namespace Go.Proofs.YtpcmibimglkocaaDoor
open Go.RowKit

theorem dtsC_at (ds : List Dt) (i : Nat) (d : Dt) (h : ds[i]? = some d) : (dtsC ds)[i * 3]? = some (.int .i64 d.kind) ∧ (dtsC ds)[i * 3 + 1]? = some (.int .i64 d.i) ∧ (dtsC ds)[i * 3 + 2]? = some (.string ⟨d.s.toArray⟩) := by
  induction ds generalizing i with
  | nil => simp at h
  | cons e ds ih =>
    cases i with
    | zero => simp at h; subst h; simp [dtsC, Dt.cells]
    | succ i =>
      have := ih i (by simpa using h)
      have e1 : (i + 1) * 3 = i * 3 + 3 := by omega
      have hc : dtsC (e :: ds) = [Value.int .i64 e.kind, .int .i64 e.i, .string ⟨e.s.toArray⟩] ++ dtsC ds := rfl
      rw [e1, hc]
      refine ⟨?_, ?_, ?_⟩
      · rw [List.getElem?_append_right (by simp)]; simpa using this.1
      · rw [List.getElem?_append_right (by simp)]; simpa using this.2.1
      · rw [List.getElem?_append_right (by simp)]; simpa using this.2.2

theorem rowAt_own {w : World} {base : Nat} {v : Value} {ds : List Dt} (h : w.ownsRow base 32 3 v ds.length (dtsC ds)) : RowAt w v ds := by
  obtain ⟨h1, h2⟩ := h
  rcases h2 with ⟨rfl, h2⟩ | ⟨g, cap, cur, rfl, hb, hg, hc, hc2, hsz, htk⟩
  · exact Or.inl ⟨_, _, rfl, fun _ => rfl, List.length_eq_zero_iff.1 h2⟩
  · refine Or.inr ⟨g, 0, cap, rfl, hc, fun i d hi => ?_⟩
    obtain ⟨e0, e1, e2⟩ := dtsC_at ds i d hi
    have hlt : i < ds.length := (List.getElem?_eq_some_iff.1 hi).1
    have key : ∀ j u, j < ds.length * 3 → (dtsC ds)[j]? = some u → w.cell? ⟨g, j, none⟩ = some u := by
      intro j u hj hu
      rw [← htk, List.getElem?_take, if_pos hj] at hu
      simp [World.cell?, hg]
      simpa using hu
    simp only [Nat.zero_add]
    exact ⟨key _ _ (by omega) e0, key _ _ (by omega) e1, key _ _ (by omega) e2⟩

set_option maxRecDepth 100000
set_option maxHeartbeats 1600000 in
theorem reads_walk (s : ByteArray) (w : World) (hs : s.size ≤ 140737488351232) (hT : Lib.Utf8Tabs 0 1 w) :
    Calls Tryd.prog 3 #[.string s] w fun e w' => e = .returned (.bool true) ∧ Below w.heap.size w w' := by
  have h1 := decode_any s w hs hT
  have h2 := fun wi => rdecode_any s wi hs
  cases hR : rowD 1000 s.data.toList with
  | none =>
    have h1' : Calls Tryd.prog 10 #[.string s] w fun e w' => e = .returned (.tuple #[.slice none 0 0, .int .i64 20]) ∧ Fr [] w w' := h1.mono fun e w' ⟨he, f⟩ => ⟨by unfold DecIs at he; rw [hR] at he; exact he, f⟩
    have h2' : ∀ wi, Calls Tryd.prog 11 #[.string s] wi fun e w' => e = .returned (.tuple #[.slice none 0 0, .int .i64 20]) ∧ Fr [] wi w' := fun wi => (h2 wi).mono fun e w' ⟨he, f⟩ => ⟨by unfold DecIs at he; rw [hR] at he; exact he, f⟩
    have h3 : ∀ wi, Calls Tryd.prog 12 #[.slice none 0 0, .slice none 0 0] wi fun e w' => e = .returned (.bool true) ∧ Fr [] wi w' := fun wi => rsame_any (Or.inl ⟨_, _, rfl, fun _ => rfl, rfl⟩) (Or.inl ⟨_, _, rfl, fun _ => rfl, rfl⟩) (by simp)
    clear h1 h2 hR
    go_enter Tryd.func3, Tryd.ntmps3
    go_wp2_with (first | (go_at_call 10; refine h1'.mono ?_; rintro e w1 ⟨rfl, f1⟩) | (go_at_call 11; refine (h2' _).mono ?_; rintro e w2 ⟨rfl, f2⟩) | (go_at_call 12; refine (h3 _).mono ?_; rintro e w3 ⟨rfl, f3⟩))
    go_ret
    exact ⟨rfl, ((f1.trans f2).trans f3).below (Nat.le_refl _) (by simp)⟩
  | some ds =>
    have hds : ds.length ≤ 1000 := rowD_le _ _ _ _ hR
    have h1' : Calls Tryd.prog 10 #[.string s] w fun e w' => (∃ a c, e = .returned (.tuple #[.slice a ds.length c, .int .i64 0]) ∧ RowAt w' (.slice a ds.length c) ds) ∧ Fr [] w w' := h1.mono fun e w' ⟨he, f⟩ => ⟨by
      unfold DecIs at he; rw [hR] at he; obtain ⟨v, he, ho⟩ := he
      obtain ⟨a, c, rfl⟩ := ownsRow_shape ho
      exact ⟨a, c, he, rowAt_own ho⟩, f⟩
    have h2' : ∀ wi, Calls Tryd.prog 11 #[.string s] wi fun e w' => (∃ a c, e = .returned (.tuple #[.slice a ds.length c, .int .i64 0]) ∧ RowAt w' (.slice a ds.length c) ds) ∧ Fr [] wi w' := fun wi => (h2 wi).mono fun e w' ⟨he, f⟩ => ⟨by
      unfold DecIs at he; rw [hR] at he; obtain ⟨v, he, ho⟩ := he
      obtain ⟨a, c, rfl⟩ := ownsRow_shape ho
      exact ⟨a, c, he, rowAt_own ho⟩, f⟩
    have h3 : ∀ wi a a' c c', RowAt wi (.slice a ds.length c) ds → RowAt wi (.slice a' ds.length c') ds → Calls Tryd.prog 12 #[.slice a ds.length c, .slice a' ds.length c'] wi fun e w' => e = .returned (.bool true) ∧ Fr [] wi w' := fun wi a a' c c' ha hb => (rsame_any ha hb (by omega)).mono fun e w' ⟨he, f⟩ => ⟨by rw [he, cmpR_self]; rfl, f⟩
    clear h1 h2 hR
    go_enter Tryd.func3, Tryd.ntmps3
    go_wp2_with (first | (go_at_call 10; refine h1'.mono ?_; rintro e w1 ⟨⟨a, c, rfl, r1⟩, f1⟩; have R1 := Lib.hid r1; clear r1) | (go_at_call 11; refine (h2' _).mono ?_; rintro e w2 ⟨⟨a', c', rfl, r2⟩, f2⟩; have R2 := Lib.hid r2; clear r2) | (go_at_call 12; refine (h3 _ _ _ _ _ (R1.out.fr f2) R2.out).mono ?_; rintro e w3 ⟨rfl, f3⟩))
    go_ret
    exact ⟨rfl, ((f1.trans f2).trans f3).below (Nat.le_refl _) (by simp)⟩
end Go.Proofs.YtpcmibimglkocaaDoor
