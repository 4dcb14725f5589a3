/- session.line: words and numbers, a blank between, and a line's end. Conditions: the sizes; the listed tables lie as their text lays them. -/
import Derived.Test.YtgdneoajmaeckaaGreatDoorEc
import Derived.Test.YtgdneoajmaeckaaGreatDoorPrt
namespace Go.Proofs.YtgdneoajmaeckaaGreatDoor
open Go.RowKit

/-- A word of a line: text, an int, an int64, an error's number, a row. -/
inductive Wd where
  | s (l : List UInt8)
  | i (n : Int)
  | j (n : Int)
  | e (n : Int)
  | r (v : Value) (ds : List Dt)

def Wd.val : Wd → Value
  | .s l => .iface 9 (.string ⟨l.toArray⟩)
  | .i n => .iface 3 (.int .i64 n)
  | .j n => .iface 2 (.int .i64 n)
  | .e n => .iface 24 (.int .i64 n)
  | .r v _ => .iface 36 v
def Wd.text : Wd → List UInt8
  | .s l => l
  | .i n => Lib.itoa n
  | .j n => Lib.itoa n
  | .e n => Lib.itoa n
  | .r _ ds => nlB (printR ds)
def Wd.ok (w : World) : Wd → Prop
  | .s l => l.length ≤ 5000000000
  | .i n => fits64 n
  | .j n => fits64 n
  | .e n => fits64 n
  | .r v ds => RowAt w v ds ∧ (∀ d ∈ ds, DtOk d) ∧ ds.length ≤ 1048576
theorem Wd.ok_fr {w w' : World} {x : Wd} (h : x.ok w) (f : Fr [] w w') : x.ok w' := by
  cases x with
  | s l => exact h
  | i n => exact h
  | j n => exact h
  | e n => exact h
  | r v ds => exact ⟨h.1.fr f, h.2⟩

theorem printR_len (ds : List Dt) (h : ∀ d ∈ ds, DtOk d) (hm : ds.length ≤ 1048576) : (printR ds).length ≤ 2200000000 := by
  have := join_len ds fun d hd => (h d hd).1
  simp only [printR, List.length_cons, List.length_append, List.length_nil]
  omega
theorem Wd.text_len {w : World} {x : Wd} (h : x.ok w) : x.text.length ≤ 5000000000 := by
  cases x with
  | s l => exact h
  | i n => have := Lib.itoa_length_le n h.1 h.2; simp only [Wd.text]; omega
  | j n => have := Lib.itoa_length_le n h.1 h.2; simp only [Wd.text]; omega
  | e n => have := Lib.itoa_length_le n h.1 h.2; simp only [Wd.text]; omega
  | r v ds =>
    have h1 := printR_len ds h.2.1 h.2.2
    have h2 := nlB_len (printR ds)
    simp only [Wd.text]
    omega

theorem joinTail_len2 (sep : List UInt8) (M : Nat) (xs : List (List UInt8)) (h : ∀ x ∈ xs, x.length ≤ M) : (Lib.joinTail sep xs).length ≤ (sep.length + M) * xs.length := by
  induction xs with
  | nil => simp [Lib.joinTail]
  | cons d r ih =>
    have h1 := h d (by simp)
    have h2 := ih fun x hx => h x (by simp [hx])
    simp only [Lib.joinTail, List.map_cons, List.flatten_cons, List.length_append, List.length_cons] at *
    rw [Nat.mul_add]
    omega
theorem joinL_len (sep : List UInt8) (M : Nat) (xs : List (List UInt8)) (h : ∀ x ∈ xs, x.length ≤ M) : (Lib.join xs sep).length ≤ (sep.length + M) * xs.length := by
  cases xs with
  | nil => simp [Lib.join_nil]
  | cons d r =>
    have h1 := h d (by simp)
    have h2 := joinTail_len2 sep M r fun x hx => h x (by simp [hx])
    rw [Lib.join_cons, List.length_append, List.length_cons, Nat.mul_add]
    omega

theorem joinL_any {w : World} {base n : Nat} {a : Option Addr} {c : Nat} {xs : List (List UInt8)} (h : w.ownsRow base 9 1 (.slice a n c) n (strsL xs)) (hn : n = xs.length) (hm : xs.length ≤ 4) (hl : ∀ x ∈ xs, x.length ≤ 5000000000) :
    Calls Tryz.prog 61 #[.slice a n c, .string ⟨#[32]⟩] w fun e w' => e = .returned (.string ⟨(Lib.join xs [32]).toArray⟩) ∧ Fr [] w w' := by
  have hjl := joinL_len [32] 5000000000 xs hl
  have hjl2 : (Lib.join xs [32]).length ≤ 20000000004 := by
    refine Nat.le_trans hjl ?_
    have : ([32] : List UInt8).length + 5000000000 = 5000000001 := rfl
    rw [this]
    omega
  rcases h.2 with ⟨hv, h0⟩ | ⟨g, cap, cur, hv, hb, hg, hc, hc2, hsz, htk⟩
  · have : xs = [] := List.eq_nil_of_length_eq_zero (by omega)
    subst this
    subst h0
    exact (Tryz.strings_Join_none a c ⟨#[32]⟩ w).mono fun e w' ⟨h1, h2⟩ => ⟨by rw [h1]; rfl, by rw [h2]; exact Fr.refl _ _⟩
  · cases hv
    have hx : (xs.map fun d => (⟨d.toArray⟩ : ByteArray)).map (·.data.toList) = xs := by
      rw [List.map_map]
      conv => rhs; rw [← List.map_id xs]
      exact List.map_congr_left fun d _ => by simp
    have hxl : (xs.map fun d => (⟨d.toArray⟩ : ByteArray)).length = n := by simp [hn]
    have hj := Tryz.strings_Join g 0 c (xs.map fun d => ⟨d.toArray⟩) ⟨#[32]⟩ w (by
      intro j x hj
      have h1 : (strsL xs)[j]? = some (.string x) := by
        simp only [strsL, List.getElem?_map, Option.map_eq_some_iff] at hj ⊢
        obtain ⟨d, hd, rfl⟩ := hj
        exact ⟨d, hd, rfl⟩
      rw [← htk] at h1
      rw [List.getElem?_take] at h1
      split at h1
      · rw [Nat.zero_add]
        simp only [World.cell?, hg]
        simpa using h1
      · cases h1) (by
        rcases Nat.lt_or_ge g w.heap.size with h | h
        · exact h
        · rw [Array.getElem?_eq_none h] at hg; cases hg) (by rw [hxl]; omega) (by rw [hxl]; omega) (by rw [hx]; show (Lib.join xs [32]).length ≤ _; omega)
    rw [hx, hxl] at hj
    exact hj.mono fun e w' ⟨h1, h2⟩ => ⟨h1, Fr.ofBelow h2⟩

theorem ta_99 (v : Value) (wx : World) : (Instr.typeAssert (.iface 9 v) 20 9 true).run Tryz.prog wx = .ok (.tuple #[v, .bool true]) wx := by kernel_rfl
theorem ta_33 (v : Value) (wx : World) : (Instr.typeAssert (.iface 3 v) 20 3 true).run Tryz.prog wx = .ok (.tuple #[v, .bool true]) wx := by kernel_rfl
theorem ta_39 (v : Value) (wx : World) : (Instr.typeAssert (.iface 3 v) 20 9 true).run Tryz.prog wx = .ok (.tuple #[.string ⟨#[]⟩, .bool false]) wx := by kernel_rfl
theorem ta_22 (v : Value) (wx : World) : (Instr.typeAssert (.iface 2 v) 20 2 true).run Tryz.prog wx = .ok (.tuple #[v, .bool true]) wx := by kernel_rfl
theorem ta_29 (v : Value) (wx : World) : (Instr.typeAssert (.iface 2 v) 20 9 true).run Tryz.prog wx = .ok (.tuple #[.string ⟨#[]⟩, .bool false]) wx := by kernel_rfl
theorem ta_23 (v : Value) (wx : World) : (Instr.typeAssert (.iface 2 v) 20 3 true).run Tryz.prog wx = .ok (.tuple #[.int .i64 0, .bool false]) wx := by kernel_rfl
theorem ta_EE (v : Value) (wx : World) : (Instr.typeAssert (.iface 24 v) 20 24 true).run Tryz.prog wx = .ok (.tuple #[v, .bool true]) wx := by kernel_rfl
theorem ta_E9 (v : Value) (wx : World) : (Instr.typeAssert (.iface 24 v) 20 9 true).run Tryz.prog wx = .ok (.tuple #[.string ⟨#[]⟩, .bool false]) wx := by kernel_rfl
theorem ta_E3 (v : Value) (wx : World) : (Instr.typeAssert (.iface 24 v) 20 3 true).run Tryz.prog wx = .ok (.tuple #[.int .i64 0, .bool false]) wx := by kernel_rfl
theorem ta_E2 (v : Value) (wx : World) : (Instr.typeAssert (.iface 24 v) 20 2 true).run Tryz.prog wx = .ok (.tuple #[.int .i64 0, .bool false]) wx := by kernel_rfl
theorem ta_RR (v : Value) (wx : World) : (Instr.typeAssert (.iface 36 v) 20 36 true).run Tryz.prog wx = .ok (.tuple #[v, .bool true]) wx := by kernel_rfl
theorem ta_R9 (v : Value) (wx : World) : (Instr.typeAssert (.iface 36 v) 20 9 true).run Tryz.prog wx = .ok (.tuple #[.string ⟨#[]⟩, .bool false]) wx := by kernel_rfl
theorem ta_R3 (v : Value) (wx : World) : (Instr.typeAssert (.iface 36 v) 20 3 true).run Tryz.prog wx = .ok (.tuple #[.int .i64 0, .bool false]) wx := by kernel_rfl
theorem ta_R2 (v : Value) (wx : World) : (Instr.typeAssert (.iface 36 v) 20 2 true).run Tryz.prog wx = .ok (.tuple #[.int .i64 0, .bool false]) wx := by kernel_rfl
theorem ta_RE (v : Value) (wx : World) : (Instr.typeAssert (.iface 36 v) 20 24 true).run Tryz.prog wx = .ok (.tuple #[.int .i64 0, .bool false]) wx := by kernel_rfl

def lineB (ws : List Wd) : List UInt8 := Lib.join (ws.map Wd.text) [32] ++ [10]

def LinR (ws : List Wd) (w : World) (a3 a13 : Value) (wr : World) : Prop :=
  ∃ k : Nat, k ≤ ws.length ∧ a13 = .int .i64 k ∧ wr.ownsRow w.heap.size 9 1 a3 k (strsL ((ws.take k).map Wd.text)) ∧ Fr [] w wr

set_option maxRecDepth 100000
set_option maxHeartbeats 3200000 in
theorem line_words {w : World} (ws : List Wd) (g c : Nat) (hcells : ∀ k x, ws[k]? = some x → w.cell? ⟨g, k, none⟩ = some x.val) (hok : ∀ x ∈ ws, x.ok w) (hn : ws.length ≤ 4)
    (hT : Lib.Utf8Tabs 1 2 w) (hM : SomeMax w) (hP : Pows w) :
    Calls Tryz.prog 46 #[.slice (some ⟨g, 0, none⟩) ws.length c] w fun e w' => e = .returned (.string ⟨(lineB ws).toArray⟩) ∧ Fr [] w w' := by
  obtain ⟨i0, hi, hz0, hz1, hz2⟩ := info_parts infoS
  have HC := Lib.hid hcells
  have HOK := Lib.hid hok
  have HT := Lib.hid hT
  have HM := Lib.hid hM
  have HP := Lib.hid hP
  clear hcells hok hT hM hP
  go_enter Tryz.func46, Tryz.ntmps46
  go_wp2_with fail
  go_loopw [3, 13] (fun a3 a13 wr => LinR ws w a3 a13 wr) (fun _ a13 _ => ws.length - (intOf a13).toNat)
  case atStart => exact ⟨0, Nat.zero_le _, rfl, World.ownsRow_nil _ _ _ _, Fr.refl _ _⟩
  case round =>
    obtain ⟨k, hk, rfl, hown, hf⟩ := hrel
    have HF := Lib.hid hf
    have HO := Lib.hid hown
    have k3 := hf.size
    clear hf hown
    by_cases hlt : k < ws.length
    · have hx := HC.out k _ (List.getElem?_eq_getElem hlt)
      have HOx := Lib.hid (HOK.out _ (List.getElem_mem hlt))
      have HTk := Lib.hid (show ws.take (k + 1) = ws.take k ++ [ws[k]] by rw [List.take_add_one, List.getElem?_eq_getElem hlt]; rfl)
      have x0 := HF.out.cell hx (by simp)
      clear hx
      generalize ws[k] = x at *
      have HRel : Hid (∀ (v3 : Value) (w3 : World), w3.ownsRow w.heap.size 9 1 v3 (k + 1) (strsL ((ws.take k).map Wd.text) ++ [.string ⟨x.text.toArray⟩]) → Fr [] w w3 → LinR ws w v3 (.int .i64 ((k : Int) + 1)) w3) := Lib.hid fun v3 w3 ho hf =>
        ⟨k + 1, by omega, by go_num, by rw [HTk.out, List.map_append, List.map_cons, List.map_nil, ← strsL_snoc]; exact ho, hf⟩
      generalize strsL ((ws.take k).map Wd.text) = acc at *
      cases x with
      | s l =>
        have x0' : wr.cell? ⟨g, k, none⟩ = some (.iface 9 (.string ⟨l.toArray⟩)) := x0
        have t1 := ta_99 (.string ⟨l.toArray⟩)
        clear x0
        go_wp2_with (at_builtin; refine wpList_append_own _ rfl (.tmp 21) (.tmp 23) 92 rfl w.heap.size 9 i0 _ 1 16 Tryz.underlying92 hi hz0 hz1 hz2 rfl (by decide) _ _ _ rfl (HO.out.alloc _) ⟨wr.heap.size, 0, none⟩ 1 1 [.string ⟨(l).toArray⟩] rfl rfl (cell_one_new _ _ _) (by simp [Value.oneCell']) (by unfold maxLen; omega) (by omega) (by simp; omega) ?_; intro v3 w3 ho3 hg3 _; have F3 := Lib.hid ((HF.out.alloc (.cells #[.string ⟨(l).toArray⟩] 9)).fresh hg3 (fun r e => Or.inl (HO.out.lt r e).1)); have HO3 := Lib.hid ho3; obtain ⟨va, vc, rfl⟩ := ownsRow_shape ho3; clear ho3 hg3)
        go_roundw
        case rel => exact HRel.out _ _ HO3.out F3.out
        case measure => simp [intOf]; omega
      | i n =>
        have x0' : wr.cell? ⟨g, k, none⟩ = some (.iface 3 (.int .i64 n)) := x0
        have t0 := ta_39 (.int .i64 n)
        have t1 := ta_33 (.int .i64 n)
        obtain ⟨b1, b2⟩ := HOx.out
        clear x0
        have hL := itoa_any n b1 b2 wr (HP.out.fr HF.out)
        have HL := Lib.hid (show (Wd.i n).text = Lib.itoa n from rfl)
        rw [HL.out] at HRel
        generalize Lib.itoa n = L at *
        go_wp2_with (first | (go_at_call 57; refine hL.mono ?_; rintro e w5 ⟨rfl, f5⟩; have k5 := f5.size; have HO5 := Lib.hid (ownsRow_fr HO.out f5 (by simp)); have F5 := Lib.hid (HF.out.trans f5)) | (at_builtin; refine wpList_append_own _ rfl (.tmp 28) (.tmp 31) 92 rfl w.heap.size 9 i0 _ 1 16 Tryz.underlying92 hi hz0 hz1 hz2 rfl (by decide) _ _ _ rfl (HO5.out.alloc _) ⟨w5.heap.size, 0, none⟩ 1 1 [.string ⟨(L).toArray⟩] rfl rfl (cell_one_new _ _ _) (by simp [Value.oneCell']) (by unfold maxLen; omega) (by omega) (by simp; omega) ?_; intro v3 w3 ho3 hg3 _; have F3 := Lib.hid ((F5.out.alloc (.cells #[.string ⟨(L).toArray⟩] 9)).fresh hg3 (fun r e => Or.inl (HO5.out.lt r e).1)); have HO3 := Lib.hid ho3; obtain ⟨va, vc, rfl⟩ := ownsRow_shape ho3; clear ho3 hg3))
        go_roundw
        case rel => exact HRel.out _ _ HO3.out F3.out
        case measure => simp [intOf]; omega
      | j n =>
        have x0' : wr.cell? ⟨g, k, none⟩ = some (.iface 2 (.int .i64 n)) := x0
        have t0 := ta_29 (.int .i64 n)
        have t1 := ta_23 (.int .i64 n)
        have t2 := ta_22 (.int .i64 n)
        obtain ⟨b1, b2⟩ := HOx.out
        clear x0
        have hL := fmti_any n b1 b2 wr (HP.out.fr HF.out)
        have HL := Lib.hid (show (Wd.j n).text = Lib.itoa n from rfl)
        rw [HL.out] at HRel
        generalize Lib.itoa n = L at *
        go_wp2_with (first | (go_at_call 58; refine hL.mono ?_; rintro e w5 ⟨rfl, f5⟩; have k5 := f5.size; have HO5 := Lib.hid (ownsRow_fr HO.out f5 (by simp)); have F5 := Lib.hid (HF.out.trans f5)) | (at_builtin; refine wpList_append_own _ rfl (.tmp 36) (.tmp 39) 92 rfl w.heap.size 9 i0 _ 1 16 Tryz.underlying92 hi hz0 hz1 hz2 rfl (by decide) _ _ _ rfl (HO5.out.alloc _) ⟨w5.heap.size, 0, none⟩ 1 1 [.string ⟨(L).toArray⟩] rfl rfl (cell_one_new _ _ _) (by simp [Value.oneCell']) (by unfold maxLen; omega) (by omega) (by simp; omega) ?_; intro v3 w3 ho3 hg3 _; have F3 := Lib.hid ((F5.out.alloc (.cells #[.string ⟨(L).toArray⟩] 9)).fresh hg3 (fun r e => Or.inl (HO5.out.lt r e).1)); have HO3 := Lib.hid ho3; obtain ⟨va, vc, rfl⟩ := ownsRow_shape ho3; clear ho3 hg3))
        go_roundw
        case rel => exact HRel.out _ _ HO3.out F3.out
        case measure => simp [intOf]; omega
      | e n =>
        have x0' : wr.cell? ⟨g, k, none⟩ = some (.iface 24 (.int .i64 n)) := x0
        have t0 := ta_E9 (.int .i64 n)
        have t1 := ta_E3 (.int .i64 n)
        have t2 := ta_E2 (.int .i64 n)
        have t3 := ta_EE (.int .i64 n)
        obtain ⟨b1, b2⟩ := HOx.out
        clear x0
        have hL := itoa_any n b1 b2 wr (HP.out.fr HF.out)
        have HL := Lib.hid (show (Wd.e n).text = Lib.itoa n from rfl)
        rw [HL.out] at HRel
        generalize Lib.itoa n = L at *
        go_wp2_with (first | (go_at_call 57; refine hL.mono ?_; rintro e w5 ⟨rfl, f5⟩; have k5 := f5.size; have HO5 := Lib.hid (ownsRow_fr HO.out f5 (by simp)); have F5 := Lib.hid (HF.out.trans f5)) | (at_builtin; refine wpList_append_own _ rfl (.tmp 44) (.tmp 47) 92 rfl w.heap.size 9 i0 _ 1 16 Tryz.underlying92 hi hz0 hz1 hz2 rfl (by decide) _ _ _ rfl (HO5.out.alloc _) ⟨w5.heap.size, 0, none⟩ 1 1 [.string ⟨(L).toArray⟩] rfl rfl (cell_one_new _ _ _) (by simp [Value.oneCell']) (by unfold maxLen; omega) (by omega) (by simp; omega) ?_; intro v3 w3 ho3 hg3 _; have F3 := Lib.hid ((F5.out.alloc (.cells #[.string ⟨(L).toArray⟩] 9)).fresh hg3 (fun r e => Or.inl (HO5.out.lt r e).1)); have HO3 := Lib.hid ho3; obtain ⟨va, vc, rfl⟩ := ownsRow_shape ho3; clear ho3 hg3))
        go_roundw
        case rel => exact HRel.out _ _ HO3.out F3.out
        case measure => simp [intOf]; omega
      | r v ds =>
        have x0' : wr.cell? ⟨g, k, none⟩ = some (.iface 36 v) := x0
        have t0 := ta_R9 v
        have t1 := ta_R3 v
        have t2 := ta_R2 v
        have t3 := ta_RE v
        have t4 := ta_RR v
        clear x0
        obtain ⟨hrow, hdt, hds⟩ := HOx.out
        have hpr := print_any (hrow.fr HF.out) hdt hds (tabs_fr HT.out HF.out (by simp) (by simp)) (HM.out.fr HF.out) (HP.out.fr HF.out)
        have hva := printR_valid ds
        have hle := printR_len ds hdt hds
        have HL := Lib.hid (show (Wd.r v ds).text = nlB (printR ds) from rfl)
        rw [HL.out] at HRel
        obtain ⟨ra, rc, rfl, -⟩ := hrow.shape
        have hnl := nlB_len (printR ds)
        generalize printR ds = T at *
        have hes := fun wi => escaped_any T hva wi (by omega)
        generalize nlB T = L at *
        clear hrow hdt hva
        go_wp2_with (first | (go_at_call 60; refine hpr.mono ?_; rintro e w4 ⟨rfl, f4⟩; have F4 := Lib.hid (HF.out.trans f4); have HO4 := Lib.hid (ownsRow_fr HO.out f4 (by simp)); have k4 := f4.size) | (go_at_call 59; refine (hes _).mono ?_; rintro e w5 ⟨rfl, f5⟩; have k5 := f5.size; have HO5 := Lib.hid (ownsRow_fr HO4.out f5 (by simp)); have F5 := Lib.hid (F4.out.trans f5)) | (at_builtin; refine wpList_append_own _ rfl (.tmp 52) (.tmp 56) 92 rfl w.heap.size 9 i0 _ 1 16 Tryz.underlying92 hi hz0 hz1 hz2 rfl (by decide) _ _ _ rfl (HO5.out.alloc _) ⟨w5.heap.size, 0, none⟩ 1 1 [.string ⟨(L).toArray⟩] rfl rfl (cell_one_new _ _ _) (by simp [Value.oneCell']) (by unfold maxLen; omega) (by omega) (by simp; omega) ?_; intro v3 w3 ho3 hg3 _; have F3 := Lib.hid ((F5.out.alloc (.cells #[.string ⟨(L).toArray⟩] 9)).fresh hg3 (fun r e => Or.inl (HO5.out.lt r e).1)); have HO3 := Lib.hid ho3; obtain ⟨va, vc, rfl⟩ := ownsRow_shape ho3; clear ho3 hg3))
        go_roundw
        case rel => exact HRel.out _ _ HO3.out F3.out
        case measure => simp [intOf]; omega
    · have hkl : k = ws.length := by omega
      subst hkl
      have HE := Lib.hid (show lineB ws = Lib.join (ws.map Wd.text) [32] ++ [10] from rfl)
      have h1 := HO.out
      rw [List.take_length] at h1
      have hml : ∀ x ∈ ws.map Wd.text, x.length ≤ 5000000000 := by
        intro x hx
        obtain ⟨y, hy, rfl⟩ := List.mem_map.1 hx
        exact Wd.text_len (HOK.out y hy)
      have hmn : (ws.map Wd.text).length ≤ 4 := by rw [List.length_map]; exact hn
      have hmn2 : ws.length = (ws.map Wd.text).length := (List.length_map _).symm
      have hjl := joinL_len [32] 5000000000 _ hml
      obtain ⟨ga, gc, rfl⟩ := ownsRow_shape h1
      have hj := joinL_any h1 hmn2 hmn hml
      have hJs : (⟨(Lib.join (ws.map Wd.text) [32]).toArray⟩ : ByteArray).size ≤ 20000000004 := by
        rw [size_mk]
        refine Nat.le_trans hjl ?_
        have : ([32] : List UInt8).length + 5000000000 = 5000000001 := rfl
        rw [this]
        omega
      have hJl : (Lib.join (ws.map Wd.text) [32]).length ≤ 20000000004 := by rw [size_mk] at hJs; exact hJs
      clear hml hmn hmn2 hjl h1
      generalize Lib.join (ws.map Wd.text) [32] = J at *
      go_wp2_with (go_at_call 61; refine hj.mono ?_; rintro e w5 ⟨rfl, f5⟩)
      go_ret
      exact ⟨congrArg (fun z => Ending.returned (Value.string z)) (show (⟨J.toArray⟩ : ByteArray) ++ ⟨[10].toArray⟩ = _ by rw [cat, HE.out]), HF.out.trans f5⟩
end Go.Proofs.YtgdneoajmaeckaaGreatDoor
