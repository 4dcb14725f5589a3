/- freshetref02.Print. Condition: at most 1048576 values a row; the listed tables lie as their text lays them. -/
import Derived.Test.YtgdneoajmaeckaaGreatDoorPrt
namespace Go.Proofs.YtgdneoajmaeckaaGreatDoor
open Go.RowKit

def PrtQ (ds : List Dt) (w : World) (a3 a8 : Value) (wr : World) : Prop :=
  ∃ (k : Nat) (S : ByteArray), k ≤ ds.length ∧ a8 = .int .i64 k ∧ a3 = .string S ∧ S = ⟨(40 :: Lib.join ((ds.take k).map printD) [44, 32]).toArray⟩ ∧ Fr [] w wr

set_option maxRecDepth 100000
set_option maxHeartbeats 1600000 in
theorem rprintrow_any {w : World} {v : Value} {ds : List Dt} (h : RowAt w v ds) (hok : ∀ d ∈ ds, DtOk d) (hm : ds.length ≤ 1048576) (hP : Pows w) :
    Calls Tryz.prog 63 #[v] w fun e w' => e = .returned (.string ⟨(printR ds).toArray⟩) ∧ Fr [] w w' := by
  obtain ⟨aa, ac, rfl, hac⟩ := h.shape
  have H := Lib.hid h
  have HOK := Lib.hid hok
  have HP := Lib.hid hP
  clear h hok hP
  go_enter Tryz.func63, Tryz.ntmps63
  go_wp2_with fail
  go_loopw [3, 8] (fun a3 a8 wr => PrtQ ds w a3 a8 wr) (fun _ a8 _ => ds.length - (intOf a8).toNat)
  case atStart => exact ⟨0, _, Nat.zero_le _, rfl, rfl, by simp [Lib.join_nil], Fr.refl _ _⟩
  case round =>
    obtain ⟨k, S, hk, rfl, rfl, hS, hf⟩ := hrel
    have hjl := join_len (ds.take k) (fun d hd => (HOK.out d (List.mem_of_mem_take hd)).1)
    have htl : (ds.take k).length ≤ 1048576 := by rw [List.length_take]; omega
    have hsz : S.size ≤ 3000000000 := by rw [hS, size_mk]; simp only [List.length_cons]; omega
    have HF := Lib.hid hf
    have HS := Lib.hid hS
    have k3 := hf.size
    clear hf hS hjl htl
    by_cases hlt : k < ds.length
    · obtain ⟨b1, o1, he1, x0, x1, x2⟩ := (H.out.fr HF.out).at hlt
      subst he1
      have HD := Lib.hid (HOK.out _ (List.getElem_mem hlt))
      have HTk := Lib.hid (show ds.take (k + 1) = ds.take k ++ [ds[k]] by rw [List.take_add_one, List.getElem?_eq_getElem hlt]; rfl)
      have HJ := Lib.hid (show 40 :: Lib.join ((ds.take (k + 1)).map printD) [44, 32] = (if ds.take k = [] then [40] else (40 :: Lib.join ((ds.take k).map printD) [44, 32]) ++ [44, 32]) ++ printD ds[k] by
        rw [HTk.out, List.map_append, List.map_cons, List.map_nil, join_snoc]
        by_cases h0 : ds.take k = []
        · rw [h0]; simp
        · rw [if_neg h0, if_neg (by simpa using h0)]; simp)
      generalize ds[k] = d at *
      obtain ⟨dk, di, dS⟩ := d
      have hpl := printD_len ⟨dk, di, dS⟩ HD.out.1
      go_upto_region 5 with fail
      have hblk := heap_alloc_new wr (.cells #[.int .i64 dk, .int .i64 di, .string ⟨dS.toArray⟩] 103)
      have HF2 := Lib.hid (HF.out.alloc (.cells #[.int .i64 dk, .int .i64 di, .string ⟨dS.toArray⟩] 103))
      generalize wr.alloc (.cells #[.int .i64 dk, .int .i64 di, .string ⟨dS.toArray⟩] 103) = w2 at *
      obtain ⟨c0, c1, c2, y0, y1, y2⟩ := blk3 hblk
      clear hblk x0 x1 x2
      have hp := rprint_any dk di dS w2 HD.out.1 HD.out.2 (HP.out.fr HF2.out)
      generalize hL : printD ⟨dk, di, dS⟩ = L at *
      have hLs : (⟨L.toArray⟩ : ByteArray).size ≤ 2003 := by rw [size_mk]; exact hpl
      clear hL hpl
      by_cases h0 : k = 0
      · have h1 : (k : Int) ≤ 0 := by omega
        have hb : decide ((0 : Int) < (k : Int)) = false := decide_eq_false (by omega)
        have HT0 := Lib.hid (show ds.take k = [] by rw [h0]; rfl)
        have HS2 := Lib.hid (show S = ⟨[40].toArray⟩ by rw [HS.out, HT0.out]; simp [Lib.join_nil])
        clear h0
        go_wp2_with (go_at_call 79; refine hp.mono ?_; rintro e w5 ⟨rfl, f5⟩)
        go_roundw
        case rel => exact ⟨k + 1, _, by omega, by go_num, rfl, (show S ++ ⟨L.toArray⟩ = _ by rw [HS2.out, cat, HJ.out, if_pos HT0.out]), HF2.out.trans f5⟩
        case measure => simp [intOf]; omega
      · have h1 : 0 < (k : Int) := by omega
        have q0 : (S ++ (⟨#[44, 32]⟩ : ByteArray)).size = S.size + 2 := by rw [ByteArray.size_append]; rfl
        have q1 : (S ++ (⟨#[44, 32]⟩ : ByteArray)).size ≤ 3000000002 := by omega
        have HT0 := Lib.hid (show ¬ ds.take k = [] by
          intro e
          have := congrArg List.length e
          rw [List.length_take, List.length_nil] at this
          omega)
        clear h0
        go_wp2_with (go_at_call 79; refine hp.mono ?_; rintro e w5 ⟨rfl, f5⟩)
        go_roundw
        case rel => exact ⟨k + 1, _, by omega, by go_num, rfl, (show (S ++ ⟨[44, 32].toArray⟩) ++ ⟨L.toArray⟩ = _ by rw [HS.out, cat, cat, HJ.out, if_neg HT0.out]), HF2.out.trans f5⟩
        case measure => simp [intOf]; omega
    · have ht : ds.take k = ds := List.take_of_length_le (by omega)
      have HPr := Lib.hid (show printR ds = (40 :: Lib.join ((ds.take k).map printD) [44, 32]) ++ [41] by rw [ht]; rfl)
      clear ht
      go_wp2_with fail
      go_ret
      exact ⟨congrArg (fun z => Ending.returned (Value.string z)) (show S ++ ⟨[41].toArray⟩ = _ by rw [HS.out, cat, HPr.out]), HF.out⟩

end Go.Proofs.YtgdneoajmaeckaaGreatDoor
