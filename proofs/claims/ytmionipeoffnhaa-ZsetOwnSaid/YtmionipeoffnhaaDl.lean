/- slices.DeleteFunc at counted rows that are not there more than 0 times; zset.Positive. No condition but the sizes. -/
import Derived.Test.YtmionipeoffnhaaZb
import Derived.Laws.CopyRow
import Derived.Lib.SliceRun
namespace Go.Proofs.Ytmionipeoffnhaa
open Go.RowKit srt grp

def posB (e : El) : Bool := decide (0 < e.n)
def delB (e : El) : Bool := decide (e.n ≤ 0)
theorem delB_pos (e : El) : delB e = !posB e := by unfold delB posB; by_cases h : 0 < e.n <;> simp [h] <;> omega

set_option maxRecDepth 100000
theorem del_any (w : World) (e : El) : Calls Try.prog 73 #[.agg #[.slice e.ra e.rl e.rc, .int .i64 e.n]] w fun x w' => x = .returned (.bool (delB e)) ∧ Fr [] w w' := by
  have hb : decide (e.n ≤ 0) = delB e := rfl
  generalize delB e = d at *
  go_enter Try.func73, Try.ntmps73
  go_wp2
  go_ret
  exact ⟨rfl, (Fr.refl [] w).alloc _⟩

def IdxPost (w : World) (f : Nat → El) (N : Nat) (e : Ending) (w' : World) : Prop :=
  Fr [] w w' ∧ ((e = .returned (.int .i64 (-1)) ∧ ∀ j, j < N → posB (f j) = true) ∨ ∃ k : Nat, e = .returned (.int .i64 k) ∧ k < N ∧ posB (f k) = false ∧ ∀ j, j < k → posB (f j) = true)

set_option maxHeartbeats 1600000 in
theorem index_any {w : World} {g N c : Nat} {f : Nat → El} (h : Srt g N w f) (hN : N ≤ 4398046511103) :
    Calls Try.prog 110 #[.slice (some ⟨g, 0, none⟩) N c, .func (.func 73) #[] #[]] w (IdxPost w f N) := by
  have H := Lib.hid h
  clear h
  go_enter Try.func110, Try.ntmps110
  go_wp2_with fail
  go_loopw [8] (fun x wr => ∃ k : Nat, x = .int .i64 k ∧ k ≤ N ∧ Fr [] w wr ∧ Hid (∀ j, j < k → posB (f j) = true)) (fun x _ => N - (intOf x).toNat)
  case atStart => exact ⟨0, rfl, Nat.zero_le _, Fr.refl _ _, Lib.hid (fun j h => by omega)⟩
  case round =>
    obtain ⟨k, rfl, hk, hf, HP⟩ := hrel
    have HF := Lib.hid hf
    by_cases hlt : k < N
    · obtain ⟨x0, x1, -, -⟩ := (H.out.fr hf).cell hlt
      have hd := delB_pos (f k)
      cases hp : posB (f k)
      · have hd2 : delB (f k) = true := by rw [hd, hp]; rfl
        have hc := fun wi => del_any wi (f k)
        rw [hd2] at hc
        have HPk := Lib.hid hp
        clear hf hd hp hd2
        go_wp2_with (go_at_call 73; refine (hc _).mono ?_; rintro e w1 ⟨rfl, f1⟩)
        go_ret
        exact ⟨HF.out.trans f1, Or.inr ⟨k, rfl, hlt, HPk.out, HP.out⟩⟩
      · have hd2 : delB (f k) = false := by rw [hd, hp]; rfl
        have hc := fun wi => del_any wi (f k)
        rw [hd2] at hc
        have HPk := Lib.hid hp
        clear hf hd hp hd2
        go_wp2_with (go_at_call 73; refine (hc _).mono ?_; rintro e w1 ⟨rfl, f1⟩)
        go_roundw
        case rel => exact ⟨k + 1, by go_num, by omega, HF.out.trans f1, Lib.hid (fun j hj => by
          by_cases h0 : j = k
          · rw [h0]; exact HPk.out
          · exact HP.out j (by omega))⟩
        case measure => simp [intOf] <;> omega
    · have hkN := Lib.hid (show k = N by omega)
      clear hf
      go_wp2_with fail
      go_ret
      exact ⟨HF.out, Or.inl ⟨rfl, fun j hj => HP.out j (by have := hkN.out; omega)⟩⟩

def upd (f : Nat → El) (i : Nat) (x : El) : Nat → El := fun k => if k = i then x else f k
theorem upd_range (f : Nat → El) (i : Nat) (x : El) : (List.range (i + 1)).map (upd f i x) = (List.range i).map f ++ [x] := by
  rw [List.range_succ, List.map_append]
  congr 1
  · refine List.map_congr_left fun k hk => ?_
    have := List.mem_range.1 hk
    unfold upd; rw [if_neg (by omega)]
  · simp [upd]
theorem Srt.put {g N : Nat} {w : World} {f : Nat → El} (h : Srt g N w f) (i : Nat) (hi : i < N) (e : El) : Srt g N ((w.setCell ⟨g, i * 2, none⟩ (.slice e.ra e.rl e.rc)).setCell ⟨g, i * 2 + 1, none⟩ (.int .i64 e.n)) (upd f i e) := by
  obtain ⟨cur, hb, hc⟩ := h
  refine ⟨_, heap_set (heap_set hb), fun k hk => ?_⟩
  have lk := hc k hk
  have li := hc i hi
  have s1 : i * 2 + 1 < cur.size := (Array.getElem?_eq_some_iff.1 li.2).1
  unfold upd
  by_cases h1 : k = i
  · subst h1
    rw [if_pos rfl]
    constructor
    · rw [Array.getElem?_setIfInBounds_ne (by omega), Array.getElem?_setIfInBounds_self_of_lt (by omega)]; rfl
    · rw [Array.getElem?_setIfInBounds_self_of_lt (by simp; omega)]
  · rw [if_neg h1]
    constructor
    · rw [Array.getElem?_setIfInBounds_ne (by omega), Array.getElem?_setIfInBounds_ne (by omega)]; exact lk.1
    · rw [Array.getElem?_setIfInBounds_ne (by omega), Array.getElem?_setIfInBounds_ne (by omega)]; exact lk.2
theorem Srt.less {g N M : Nat} {w : World} {f : Nat → El} (h : Srt g N w f) (hM : M ≤ N) : Srt g M w f := by
  obtain ⟨cur, hb, hc⟩ := h
  exact ⟨cur, hb, fun k hk => hc k (by omega)⟩

/-- clear at the end of a list of counted rows. -/
theorem run_clear_counts {w : World} {g N i c : Nat} {f : Nat → El} (h : Srt g N w f) (hi : i < N) :
    ∃ w', (∀ ty, (Builtin.clear_ #[22] ty #[.slice (some ⟨g, i * 2, none⟩) (N - i) c]).run Try.prog w = .ok (.tuple #[]) w') ∧ Srt g i w' f ∧ Fr [g] w w' := by
  obtain ⟨cur, hb, hc⟩ := h
  have hsz : N * 2 ≤ cur.size := by
    have := (Array.getElem?_eq_some_iff.1 (hc (N - 1) (by omega)).2).1
    omega
  have hz : ∀ w, (zeroValue 31).run Try.prog w = .ok (.agg #[.slice none 0 0, .int .i64 0]) w := fun w => by kernel_rfl
  have hlen : (Builtin.zeroCells #[Value.slice none 0 0, .int .i64 0] (N - i)).toList.length = (N - i) * 2 := by
    simp [Builtin.zeroCells]
  have h1 : ∀ v ∈ (Builtin.zeroCells #[Value.slice none 0 0, .int .i64 0] (N - i)).toList, v.oneCell' = true := fun v hv => by
    simp only [Builtin.zeroCells, Array.toList_map, List.mem_map] at hv
    obtain ⟨j, -, rfl⟩ := hv
    have hj : j % 2 = 0 ∨ j % 2 = 1 := by omega
    show (#[Value.slice none 0 0, Value.int .i64 0][j % 2]!).oneCell' = true
    rcases hj with hj | hj <;> rw [hj] <;> rfl
  have hst := run_storeCells_at (P := Try.prog) g (i * 2) 31 (Builtin.zeroCells #[Value.slice none 0 0, .int .i64 0] (N - i)).toList 0 cur w hb (by rw [hlen]; omega) h1
  have hrun : ∀ ty, (Builtin.clear_ #[22] ty #[.slice (some ⟨g, i * 2, none⟩) (N - i) c]).run Try.prog w = .ok (.tuple #[]) (w.setRow g (cur.toList.take (i * 2 + 0) ++ (Builtin.zeroCells #[Value.slice none 0 0, .int .i64 0] (N - i)).toList ++ cur.toList.drop (i * 2 + 0 + (Builtin.zeroCells #[Value.slice none 0 0, .int .i64 0] (N - i)).toList.length)).toArray) := fun ty => by
    obtain ⟨m, hm⟩ : ∃ m, N - i = m + 1 := ⟨N - i - 1, by omega⟩
    rw [hm] at hst ⊢
    simp only [Builtin.clear_, List.getElem?_toArray, List.getElem?_cons_zero]
    simp [run_underlying Try.underlying22, hz, Value.cells, hst]
  refine ⟨_, hrun, ⟨_, setRow_heap w g cur _ _ _ hb, fun k hk => ?_⟩, ?_⟩
  · obtain ⟨k1, k2⟩ := hc k (by omega)
    have hl : (cur.toList.take (i * 2 + 0)).length = i * 2 := by rw [List.length_take, Array.length_toList]; omega
    constructor
    · rw [List.getElem?_toArray, List.append_assoc, List.getElem?_append_left (by omega), List.getElem?_take_of_lt (by omega)]
      simpa using k1
    · rw [List.getElem?_toArray, List.append_assoc, List.getElem?_append_left (by omega), List.getElem?_take_of_lt (by omega)]
      simpa using k2
  · refine ⟨rfl, rfl, rfl, by simp [World.setRow], fun k hk hS => ?_⟩
    have hne : g ≠ k := fun e => hS (by simp [e])
    simp only [World.setRow, Array.getElem?_modify]
    rw [if_neg hne]

def DelPost (w : World) (g : Nat) (f : Nat → El) (N c : Nat) (e : Ending) (w' : World) : Prop :=
  ∃ (m : Nat) (fk : Nat → El), e = .returned (.slice (some ⟨g, 0, none⟩) m c) ∧ m ≤ N ∧ Srt g m w' fk ∧ (List.range m).map fk = ((List.range N).map f).filter posB ∧ Fr [g] w w'

/-- The head of DeleteFunc's loop. -/
def DelR (w : World) (g : Nat) (f : Nat → El) (N : Nat) (x y : Value) (wr : World) : Prop :=
  ∃ (i j : Nat) (fk : Nat → El), x = .int .i64 i ∧ y = .int .i64 j ∧ i < j ∧ j ≤ N ∧ Srt g N wr fk ∧ Fr [g] w wr ∧ (List.range i).map fk = ((List.range j).map f).filter posB ∧ ∀ k, j ≤ k → k < N → fk k = f k

theorem filt_succ (f : Nat → El) (j : Nat) : ((List.range (j + 1)).map f).filter posB = ((List.range j).map f).filter posB ++ if posB (f j) then [f j] else [] := by
  rw [List.range_succ, List.map_append, List.filter_append]
  congr 1
  simp only [List.map_cons, List.map_nil, List.filter_cons, List.filter_nil]
theorem filt_all {f : Nat → El} {k : Nat} (h : ∀ j, j < k → posB (f j) = true) : ((List.range k).map f).filter posB = (List.range k).map f := by
  rw [List.filter_eq_self]
  intro x hx
  obtain ⟨j, hj, rfl⟩ := List.mem_map.1 hx
  exact h j (List.mem_range.1 hj)

theorem first_not {f : Nat → El} {N : Nat} (h : ¬ ∀ j, j < N → posB (f j) = true) : ∃ k, k < N ∧ posB (f k) = false ∧ ∀ j, j < k → posB (f j) = true := by
  induction N with
  | zero => exact absurd (fun j hj => by omega) h
  | succ n ih =>
    by_cases h1 : ∀ j, j < n → posB (f j) = true
    · refine ⟨n, by omega, ?_, h1⟩
      by_cases h2 : posB (f n) = true
      · exact absurd (fun j hj => by
          by_cases h3 : j = n
          · rw [h3]; exact h2
          · exact h1 j (by omega)) h
      · simpa using h2
    · obtain ⟨k, hk, h2⟩ := ih h1
      exact ⟨k, by omega, h2⟩

set_option maxHeartbeats 3200000 in
theorem delete_any {w : World} {g N c : Nat} {f : Nat → El} (h : Srt g N w f) (hN : N ≤ 4398046511103) (hc : N ≤ c) :
    Calls Try.prog 72 #[.slice (some ⟨g, 0, none⟩) N c, .func (.func 73) #[] #[]] w (DelPost w g f N c) := by
  have H := Lib.hid h
  have HI := Lib.hid (index_any (c := c) h hN)
  have hgl : g < w.heap.size := by obtain ⟨cur, hb, -⟩ := h; exact (Array.getElem?_eq_some_iff.1 hb).1
  clear h
  by_cases hall : ∀ j, j < N → posB (f j) = true
  · have hi2 : Calls Try.prog 110 #[.slice (some ⟨g, 0, none⟩) N c, .func (.func 73) #[] #[]] w fun e w' => e = .returned (.int .i64 (-1)) ∧ Fr [] w w' := HI.out.mono fun e w' ⟨f1, hx⟩ => by
      rcases hx with ⟨rfl, -⟩ | ⟨k, rfl, h1, h2, -⟩
      · exact ⟨rfl, f1⟩
      · rw [hall k h1] at h2; cases h2
    have HAll := Lib.hid hall
    clear hall HI
    go_enter Try.func72, Try.ntmps72
    go_wp2_with (go_at_call 110; refine hi2.mono ?_; rintro e w1 ⟨rfl, f1⟩)
    go_ret
    exact ⟨N, f, rfl, Nat.le_refl _, H.out.fr f1, (filt_all HAll.out).symm, f1.nil⟩
  · obtain ⟨k0, hk0, hkn, hkp⟩ := first_not hall
    have hi2 : Calls Try.prog 110 #[.slice (some ⟨g, 0, none⟩) N c, .func (.func 73) #[] #[]] w fun e w' => e = .returned (.int .i64 k0) ∧ Fr [] w w' := HI.out.mono fun e w' ⟨f1, hx⟩ => by
      rcases hx with ⟨-, h1⟩ | ⟨k, rfl, h1, h2, h3⟩
      · rw [h1 k0 hk0] at hkn; cases hkn
      · refine ⟨?_, f1⟩
        rcases Nat.lt_trichotomy k k0 with h4 | h4 | h4
        · rw [hkp k h4] at h2; cases h2
        · rw [h4]
        · rw [h3 k0 h4] at hkn; cases hkn
    have HK := Lib.hid (show posB (f k0) = false ∧ (∀ j, j < k0 → posB (f j) = true) from ⟨hkn, hkp⟩)
    have hne : ((k0 : Int) == -1) = false := beq_eq_false_iff_ne.2 (by omega)
    clear hall HI hkn hkp
    go_enter Try.func72, Try.ntmps72
    go_wp2_with (go_at_call 110; refine hi2.mono ?_; rintro e w1 ⟨rfl, f1⟩; have F1 := Lib.hid f1; clear f1)
    go_loopw [5, 6] (fun x y wr => DelR w g f N x y wr) (fun _ y _ => N - (intOf y).toNat)
    case atStart => exact ⟨k0, k0 + 1, f, rfl, by go_num, by omega, by omega, H.out.fr F1.out, F1.out.nil, by rw [filt_succ, HK.out.1, filt_all HK.out.2]; simp, fun _ _ _ => rfl⟩
    case round =>
      obtain ⟨i, j, fk, rfl, rfl, hij, hjN, hs, hf, hm, hrest⟩ := hrel
      have HS := Lib.hid hs
      have HF := Lib.hid hf
      have HM := Lib.hid hm
      have HR := Lib.hid hrest
      clear hf hm hrest
      by_cases hlt : j < N
      · obtain ⟨x0, x1, -, -⟩ := hs.cell hlt
        obtain ⟨y0, y1, y2, y3⟩ := hs.cell (k := i) (by omega)
        have ej := HR.out j (Nat.le_refl _) hlt
        rw [ej] at x0 x1
        have hd := delB_pos (f j)
        have nb := Lib.hid (show g < wr.heap.size by have := HF.out.size; omega)
        cases hp : posB (f j)
        · have hd2 : delB (f j) = true := by rw [hd, hp]; rfl
          have hc2 := fun wi => del_any wi (f j)
          rw [hd2] at hc2
          have HPk := Lib.hid hp
          clear hs hd hp hd2 ej
          go_wp2_with (go_at_call 73; refine (hc2 _).mono ?_; rintro e w2 ⟨rfl, f2⟩)
          go_roundw
          case rel => exact ⟨i, j + 1, fk, rfl, by go_num, by omega, by omega, HS.out.fr (((Fr.refl [] wr).alloc _).trans f2), HF.out.trans (((Fr.refl [] wr).alloc _).trans f2).nil, by rw [filt_succ, HPk.out]; simpa using HM.out, fun k h1 h2 => HR.out k (by omega) h2⟩
          case measure => simp [intOf] <;> omega
        · have hd2 : delB (f j) = false := by rw [hd, hp]; rfl
          have hc2 := fun wi => del_any wi (f j)
          rw [hd2] at hc2
          have HPk := Lib.hid hp
          clear hs hd hp hd2 ej
          go_wp2_with (go_at_call 73; refine (hc2 _).mono ?_; rintro e w2 ⟨rfl, f2⟩; obtain ⟨y0, y1, y2, y3⟩ := (HS.out.fr (((Fr.refl [] wr).alloc _).trans f2)).cell (k := i) (by omega); have hbv := f2.heap (heap_alloc_new wr _) (by simp); have q0 := cell_blk hbv 0 _ rfl; have q1 := cell_blk hbv 1 _ rfl)
          go_roundw
          case rel =>
            have hs2 := (HS.out.fr (((Fr.refl [] wr).alloc _).trans f2)).put i (by omega) (f j)
            refine ⟨i + 1, j + 1, _, by go_num, by go_num, by omega, by omega, hs2, (HF.out.trans (((Fr.refl [] wr).alloc _).trans f2).nil).set2 _ _ _ _, ?_, fun k h1 h2 => ?_⟩
            · rw [upd_range, filt_succ, HPk.out, HM.out]; simp
            · unfold upd; rw [if_neg (by omega)]; exact HR.out k (by omega) h2
          case measure => simp [intOf] <;> omega
      · have hjn := Lib.hid (show j = N by omega)
        obtain ⟨wc, hcl, hsc, hfc⟩ := run_clear_counts (c := c - i) hs (show i < N by omega)
        have HSC := Lib.hid hsc
        have HFC := Lib.hid hfc
        clear hs hsc hfc
        go_wp2_with fail
        go_ret
        exact ⟨i, fk, rfl, by omega, HSC.out, by rw [HM.out, hjn.out], HF.out.trans HFC.out⟩
end Go.Proofs.Ytmionipeoffnhaa
