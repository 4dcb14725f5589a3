/- datum.Print: how a value is shown. No condition but its size, and that the listed tables lie as their text lays them. -/
import Derived.Test.YtgdneoajmaeckaaGreatDoorPr
import Derived.Test.YtgdneoajmaeckaaGreatDoorBc
import Derived.Test.YtgdneoajmaeckaaGreatDoorRr
import Derived.ArgAppend
import Derived.Deep.RegionHeld3
import Derived.Deep.DrawnRows
import Derived.Lib.SlBytesConst
namespace Go.Proofs.YtgdneoajmaeckaaGreatDoor
open Go.RowKit

theorem apos_any (s : ByteArray) (w : World) (hs : s.size ≤ 1000) (hM : SomeMax w) :
    Calls Tryz.prog 92 #[.string s, .string ⟨#[39]⟩, .string ⟨#[39, 39]⟩] w fun e w' => e = .returned (.string ⟨(aposB s.data.toList).toArray⟩) ∧ Fr [] w w' := by
  obtain ⟨m, hm⟩ := hM
  have hc := Lib.countB_le ⟨#[39]⟩ (by decide) s.size s (Nat.le_refl _)
  have h2 : (⟨#[39, 39]⟩ : ByteArray).size = 2 := rfl
  refine (Tryz.strings_ReplaceAll s ⟨#[39]⟩ ⟨#[39, 39]⟩ m w (by omega) hm (by decide) (by rw [h2]; omega)).mono ?_
  rintro e w' ⟨rfl, hb⟩
  refine ⟨?_, Fr.ofBelow hb⟩
  have : Lib.replaceAll s.data.toList (⟨#[39]⟩ : ByteArray).data.toList (⟨#[39, 39]⟩ : ByteArray).data.toList = aposB s.data.toList := replaceAll_apos _
  rw [this]

theorem digit_v (n : Nat) (h : n < 16) (z : Int) (hz : z = (n : Int)) (hb : z.toNat < (⟨#[48, 49, 50, 51, 52, 53, 54, 55, 56, 57, 97, 98, 99, 100, 101, 102]⟩ : ByteArray).size) :
    Value.int .u8 (((⟨#[48, 49, 50, 51, 52, 53, 54, 55, 56, 57, 97, 98, 99, 100, 101, 102]⟩ : ByteArray)[z.toNat]'hb).toNat : Int) = Value.int .u8 ((hexC n).toNat : Int) := by
  subst hz
  have hn : n = 0 ∨ n = 1 ∨ n = 2 ∨ n = 3 ∨ n = 4 ∨ n = 5 ∨ n = 6 ∨ n = 7 ∨ n = 8 ∨ n = 9 ∨ n = 10 ∨ n = 11 ∨ n = 12 ∨ n = 13 ∨ n = 14 ∨ n = 15 := by omega
  rcases hn with rfl | rfl | rfl | rfl | rfl | rfl | rfl | rfl | rfl | rfl | rfl | rfl | rfl | rfl | rfl | rfl <;> rfl
theorem pair_eq {α : Type} {a b c d : α} (h1 : a = c) (h2 : b = d) : [a, b] = [c, d] := by rw [h1, h2]

/-- A row of bytes that one made: its own, or the literal's, full and marked. -/
def Bs (B : Nat) (w : World) (v : Value) (l : List UInt8) : Prop :=
  w.ownsRow B 5 1 v l.length (bytesC l) ∨ ∃ g, v = .slice (some ⟨g, 0, none⟩) l.length l.length ∧ B ≤ g ∧ w.heap[g]? = some (.cells (bytesC l).toArray 5 (l.length, l.length + 1))

theorem Bs.alloc {B : Nat} {w : World} {v : Value} {l : List UInt8} (h : Bs B w v l) (o : Obj) : Bs B (w.alloc o) v l := by
  rcases h with h | ⟨g, h1, h2, h3⟩
  · exact Or.inl (h.alloc o)
  · exact Or.inr ⟨g, h1, h2, ((Fr.refl [] w).alloc o).heap h3 (by simp)⟩

theorem bs_run {w : World} (ty : TypeId) (B : Nat) (v : Value) (l : List UInt8) (hb : Bs B w v l)
    (ad : Addr) (m c : Nat) (news : List UInt8) (vals : List Value) (hv : vals = bytesC news) (hn : (bytesC news).length = m * 1) (hc : ∀ j u, vals[j]? = some u → w.cell? (ad.add j) = some u) (hm : 1 ≤ m)
    (b1 : l.length + m ≤ 140737488355328) (hB : B ≤ w.heap.size) :
    ∃ v' w', (Builtin.append_ #[73, 73] ty #[v, .slice (some ad) m c]).run Tryz.prog w = .ok v' w' ∧ w'.ownsRow B 5 1 v' (l ++ news).length (bytesC (l ++ news)) ∧ ∀ w0 : World, w0.heap.size ≤ B → Fr [] w0 w → Fr [] w0 w' := by
  obtain ⟨i0, hi, hz0, hz1, hz2⟩ := info_parts info5
  subst hv
  have e1 : bytesC l ++ bytesC news = bytesC (l ++ news) := bytesC_app l news
  have e2 : l.length + m = (l ++ news).length := by
    have : (bytesC news).length = news.length := by simp [bytesC]
    rw [List.length_append]; omega
  rcases hb with h | ⟨g, rfl, h2, h3⟩
  · obtain ⟨v', w', hr, ho, hg, _⟩ := run_append_own (P := Tryz.prog) w B 73 ty 5 i0 (.int .u8 0) 1 1 Tryz.underlying73 hi hz0 hz1 hz2 rfl (by decide) v _ _ h ad m c (bytesC news) hn hc (bytesC_one _) (by unfold maxLen; omega) (by omega) hB
    rw [e1, e2] at ho
    exact ⟨v', w', hr, ho, fun w0 h0 f => f.fresh hg (fun r e => Or.inl (Nat.le_trans h0 (h.lt r e).1))⟩
  · obtain ⟨v', w', hr, ho, hg⟩ := run_append_arg_grows (P := Tryz.prog) w 73 ty 5 i0 (.int .u8 0) 1 1 Tryz.underlying73 hi hz0 hz1 hz2 rfl (by decide) ⟨g, 0, none⟩ l.length l.length (bytesC l) (by simp [bytesC]) (by
      intro j u hj
      have hadd : (⟨g, 0, none⟩ : Addr).add j = ⟨g, j, none⟩ := by unfold Addr.add; split <;> simp_all
      rw [hadd]
      simp [World.cell?, h3]
      exact hj) ad m c (bytesC news) hn hc (by omega) (by unfold maxLen; omega) (by omega)
    rw [e1, e2] at ho
    exact ⟨v', w', hr, ownsRow_base ho hB, fun w0 h0 f => f.fresh hg (fun r e => by cases e)⟩

theorem bs_wp {w : World} {o : Oper} {a : Act} {K : Act → World → Prop} {Q : Exit → Act → World → Prop} (s x : Operand)
    (hop : o.op = Op.call { callee := Callee.builtin Builtin.append, args := #[s, x], argTypes := #[73, 73] }) (B : Nat) (v : Value) (l : List UInt8) (hs : a.eval s = v) (hb : Bs B w v l)
    (ad : Addr) (m c : Nat) (news : List UInt8) (vals : List Value) (hv : vals = bytesC news) (hx : a.eval x = .slice (some ad) m c) (hn : (bytesC news).length = m * 1) (hc : ∀ j u, vals[j]? = some u → w.cell? (ad.add j) = some u) (hm : 1 ≤ m)
    (b1 : l.length + m ≤ 140737488355328) (hB : B ≤ w.heap.size)
    (hK : ∀ v' w', w'.ownsRow B 5 1 v' (l ++ news).length (bytesC (l ++ news)) → (∀ w0 : World, w0.heap.size ≤ B → Fr [] w0 w → Fr [] w0 w') → K (a.put o.dst v') w') :
    Oper.wp Tryz.prog o a w K Q := by
  obtain ⟨v', w', hr, ho, hf⟩ := bs_run o.type B v l hb ad m c news vals hv hn hc hm b1 hB
  unfold Oper.wp execOp
  simp only [hop, resolve, invoke, builtin, Sem.run_bind, Sem.run_pure, Result.andThen_ok, List.map_toArray, List.map_cons, List.map_nil, hs, hx, hr]
  exact hK _ _ ho hf

theorem step_bs {w : World} {ops : Array Oper} {o : Oper} {a : Act} {K : Act → World → Prop} {Q : Exit → Act → World → Prop} {E : Prop} (hgd : o.guard = none) (s x : Operand)
    (hop : o.op = Op.call { callee := Callee.builtin Builtin.append, args := #[s, x], argTypes := #[73, 73] }) (B : Nat) (v : Value) (l : List UInt8) (hs : a.eval s = v) (hb : Bs B w v l)
    (ad : Addr) (m c : Nat) (news : List UInt8) (vals : List Value) (hv : vals = bytesC news) (hx : a.eval x = .slice (some ad) m c) (hn : (bytesC news).length = m * 1) (hc : ∀ j u, vals[j]? = some u → w.cell? (ad.add j) = some u) (hm : 1 ≤ m)
    (b1 : l.length + m ≤ 140737488355328) (hB : B ≤ w.heap.size)
    (hK : ∀ v' w', w'.ownsRow B 5 1 v' (l ++ news).length (bytesC (l ++ news)) → (∀ w0 : World, w0.heap.size ≤ B → Fr [] w0 w → Fr [] w0 w') → K (a.put o.dst v') w') :
    if Region.wanted o (yielded ops a.tmps) = true then Oper.wp Tryz.prog o a w K Q else E := by
  have hw : Region.wanted o (yielded ops a.tmps) = true := by simp [Region.wanted, hgd]
  rw [if_pos hw]
  exact bs_wp s x hop B v l hs hb ad m c news vals hv hx hn hc hm b1 hB hK

theorem bs_append {w : World} {ops : Array Oper} {rest : List Oper} {o : Oper} {a : Act} {Q : Exit → Act → World → Prop} (hgd : o.guard = none) (s x : Operand)
    (hop : o.op = Op.call { callee := Callee.builtin Builtin.append, args := #[s, x], argTypes := #[73, 73] }) (B : Nat) (v : Value) (l : List UInt8) (hs : a.eval s = v) (hb : Bs B w v l)
    (ad : Addr) (m c : Nat) (news : List UInt8) (vals : List Value) (hv : vals = bytesC news) (hx : a.eval x = .slice (some ad) m c) (hn : (bytesC news).length = m * 1) (hc : ∀ j u, vals[j]? = some u → w.cell? (ad.add j) = some u) (hm : 1 ≤ m)
    (b1 : l.length + m ≤ 140737488355328) (hB : B ≤ w.heap.size)
    (hK : ∀ v' w', w'.ownsRow B 5 1 v' (l ++ news).length (bytesC (l ++ news)) → (∀ w0 : World, w0.heap.size ≤ B → Fr [] w0 w → Fr [] w0 w') → wpList Tryz.prog ops Q rest (a.put o.dst v') w') :
    wpList Tryz.prog ops Q (o :: rest) a w :=
  wpList_plain hgd fun _ hK' => bs_wp s x hop B v l hs hb ad m c news vals hv hx hn hc hm b1 hB fun v' w' h1 h2 => hK' _ _ (hK v' w' h1 h2)

theorem Bs.drew {B : Nat} {w : World} {v : Value} {l : List UInt8} (h : Bs B w v l) : Bs B w.drew v l := h

def HexR (dS : List UInt8) (w5 : World) (a5 a57 : Value) (wr : World) : Prop :=
  ∃ k : Nat, k ≤ dS.length ∧ a57 = .int .i64 k ∧ Bs w5.heap.size wr a5 (120 :: 39 :: hexB (dS.take k)) ∧ Fr [] w5 wr

theorem tail1 (l : List UInt8) (h : 1 ≤ l.length) (wx : World) :
    (Instr.slice 9 (.string ⟨l.toArray⟩) (some (.int .i64 1)) none none).run Tryz.prog wx = .ok (.string ⟨(l.drop 1).toArray⟩) wx := by
  have := run_slice_string_l (P := Tryz.prog) (w := wx) 9 ⟨l.toArray⟩ Tryz.underlying9 .i64 1 (by omega) (by rw [size_mk]; omega)
  rw [this]
  have h2 : (⟨l.toArray⟩ : ByteArray).extract (1 : Int).toNat (⟨l.toArray⟩ : ByteArray).size = ⟨(l.drop 1).toArray⟩ := by
    apply ByteArray.ext
    rw [ByteArray.data_extract, size_mk]
    apply Array.toList_inj.1
    simp
    exact List.take_of_length_le (by simp)
  rw [h2]

set_option maxRecDepth 100000
set_option maxHeartbeats 3200000 in
theorem dprint_any (k i : Int) (dS : List UInt8) (w : World) (h64 : fits64 i) (hs : dS.length ≤ 140737488351232) (hT : Lib.Utf8Tabs 1 2 w) (hM : SomeMax w) (hP : Pows w) :
    Calls Tryz.prog 76 #[.agg #[.int .i64 k, .int .i64 i, .string ⟨dS.toArray⟩]] w fun e w' => e = .returned (.string ⟨(printD ⟨k, i, dS⟩).toArray⟩) ∧ Fr [] w w' := by
  obtain ⟨i0, hi, hz0, hz1, hz2⟩ := info_parts info5
  obtain ⟨b1, b2⟩ := h64
  have hdl : (⟨dS.toArray⟩ : ByteArray).size ≤ 140737488351232 := by rw [size_mk]; exact hs
  have HT := Lib.hid hT
  have HM := Lib.hid hM
  have HP := Lib.hid hP
  clear hT hM hP hs
  go_enter Tryz.func76, Tryz.ntmps76
  go_upto_region 1 with fail
  have hblk := heap_alloc_new w (.cells #[.int .i64 k, .int .i64 i, .string ⟨dS.toArray⟩] 103)
  have HF := Lib.hid ((Fr.refl [] w).alloc (.cells #[.int .i64 k, .int .i64 i, .string ⟨dS.toArray⟩] 103))
  generalize w.alloc (.cells #[.int .i64 k, .int .i64 i, .string ⟨dS.toArray⟩] 103) = w2 at *
  obtain ⟨c0, c1, c2, y0, y1, y2⟩ := blk3 hblk
  have HBlk := Lib.hid hblk
  clear hblk
  have hr := dright_any k i ⟨dS.toArray⟩ w2 (by omega) (tabs_fr HT.out HF.out (by simp) (by simp))
  cases hrb : rightB ⟨k, i, dS⟩
  · have HD := Lib.hid (show printD ⟨k, i, dS⟩ = [] by rw [printD, hrb]; rfl)
    have hr2 : Calls Tryz.prog 89 #[.agg #[.int .i64 k, .int .i64 i, .string ⟨dS.toArray⟩]] w2 fun e w' => e = .returned (.bool false) ∧ Fr [] w2 w' := hr.mono fun e w' ⟨he, f⟩ => ⟨by rw [he]; exact ret_bool hrb, f⟩
    clear hr hrb
    go_wp2_with (go_at_call 89; refine hr2.mono ?_; rintro e w5 ⟨rfl, f5⟩)
    go_ret
    exact ⟨by rw [HD.out]; rfl, HF.out.trans f5⟩
  · have hr2 : Calls Tryz.prog 89 #[.agg #[.int .i64 k, .int .i64 i, .string ⟨dS.toArray⟩]] w2 fun e w' => e = .returned (.bool true) ∧ Fr [] w2 w' := hr.mono fun e w' ⟨he, f⟩ => ⟨by rw [he]; exact ret_bool hrb, f⟩
    have hcs := right_cases hrb
    have HV := Lib.hid (show printD ⟨k, i, dS⟩ = printV ⟨k, i, dS⟩ by rw [printD, if_pos hrb])
    simp only at hcs
    clear hr hrb
    rcases hcs with ⟨rfl, rfl, hn⟩ | ⟨rfl, hi1, hn⟩ | ⟨hk2, hn⟩ | ⟨hk2, rfl, hs1⟩
    · clear hn
      go_wp2_with (go_at_call 89; refine hr2.mono ?_; rintro e w5 ⟨rfl, f5⟩; obtain ⟨c0', c1', c2', y0', y1', y2'⟩ := blk3 (f5.heap HBlk.out (by simp)))
      go_ret
      exact ⟨by rw [HV.out]; rfl, HF.out.trans f5⟩
    · clear hn
      rcases hi1 with rfl | rfl
      all_goals
        go_wp2_with (go_at_call 89; refine hr2.mono ?_; rintro e w5 ⟨rfl, f5⟩; obtain ⟨c0', c1', c2', y0', y1', y2'⟩ := blk3 (f5.heap HBlk.out (by simp)))
        go_ret
        exact ⟨by rw [HV.out]; rfl, HF.out.trans f5⟩
    · clear hn
      rcases hk2 with rfl | rfl
      · go_wp2_with (first | (go_at_call 89; refine hr2.mono ?_; rintro e w5 ⟨rfl, f5⟩; obtain ⟨c0', c1', c2', y0', y1', y2'⟩ := blk3 (f5.heap HBlk.out (by simp))) | (go_at_call 58; refine (fmti_any i b1 b2 _ (HP.out.fr (HF.out.trans f5))).mono ?_; rintro e w6 ⟨rfl, f6⟩))
        go_ret
        exact ⟨by rw [HV.out]; rfl, (HF.out.trans f5).trans f6⟩
      · have HI := Lib.hid b1
        have hm : i.natAbs < 18446744073709551616 := by omega
        have hlt : i < 0 ∨ 0 ≤ i := by omega
        have ha := fun wi => amount_any i b1 b2 wi
        have HDec := Lib.hid (show printV ⟨3, i, dS⟩ = decB i by simp [printV])
        generalize hn : i.natAbs = n at *
        have HN := Lib.hid hn
        clear hn
        have hq : n / 10000 < 18446744073709551616 := by omega
        have hr10 : 10000 + n % 10000 < 18446744073709551616 := by omega
        have hl5 := frac_long (m := n % 10000) (by omega)
        have hl20 := Lib.nDigits_le20 _ hq
        rw [← Lib.decDigits_length] at hl20
        have hF := fun wi => fmtu_any (n / 10000) hq wi
        have hG := fun wi => fmtu_any (10000 + n % 10000) hr10 wi
        have HFr := Lib.hid (show fracB (n % 10000) = (Lib.decDigits (10000 + n % 10000)).drop 1 from rfl)
        generalize hA : Lib.decDigits (n / 10000) = A at *
        generalize hB : Lib.decDigits (10000 + n % 10000) = B at *
        have HA := Lib.hid hA
        clear hA hB
        have hsl := tail1 B (by omega)
        have hAs : (⟨A.toArray⟩ : ByteArray).size ≤ 20 := by rw [size_mk]; exact hl20
        have hBs : (⟨(B.drop 1).toArray⟩ : ByteArray).size ≤ 20 := by rw [size_mk]; simp; omega
        rw [show ((10000 + n % 10000 : Nat) : Int) = 10000 + (n : Int) % 10000 by omega] at hG
        rw [show ((n / 10000 : Nat) : Int) = (n : Int) / 10000 by omega] at hF
        rcases hlt with hlt | hlt
        · go_upto_region 12 with (first | (go_at_call 89; refine hr2.mono ?_; rintro e w5 ⟨rfl, f5⟩; obtain ⟨c0', c1', c2', y0', y1', y2'⟩ := blk3 (f5.heap HBlk.out (by simp))) | (go_at_call 90; refine (ha _).mono ?_; rintro e w6 ⟨rfl, rfl⟩))
          go_upto_region 13 with (first | (go_at_call 91; refine (hF _ (HP.out.fr (HF.out.trans f5))).mono ?_; rintro e w7 ⟨rfl, f7⟩) | (go_at_call 91; refine (hG _ (HP.out.fr ((HF.out.trans f5).trans f7))).mono ?_; rintro e w8 ⟨rfl, f8⟩; obtain ⟨c0'', c1'', c2'', y0'', y1'', y2''⟩ := blk3 (((f5.trans f7).trans f8).heap HBlk.out (by simp))))
          go_wp2_with fail
          go_ret
          refine ⟨?_, ((HF.out.trans f5).trans f7).trans f8⟩
          rw [HV.out, HDec.out, decB, HN.out, HA.out, HFr.out, if_pos hlt]
          exact congrArg (fun z => Ending.returned (Value.string z)) (show (⟨[45].toArray⟩ : ByteArray) ++ ((⟨A.toArray⟩ ++ ⟨[46].toArray⟩) ++ ⟨B.tail.toArray⟩) = _ by rw [cat, cat, cat]; simp)
        · go_upto_region 12 with (first | (go_at_call 89; refine hr2.mono ?_; rintro e w5 ⟨rfl, f5⟩; obtain ⟨c0', c1', c2', y0', y1', y2'⟩ := blk3 (f5.heap HBlk.out (by simp))) | (go_at_call 90; refine (ha _).mono ?_; rintro e w6 ⟨rfl, rfl⟩))
          go_upto_region 13 with (first | (go_at_call 91; refine (hF _ (HP.out.fr (HF.out.trans f5))).mono ?_; rintro e w7 ⟨rfl, f7⟩) | (go_at_call 91; refine (hG _ (HP.out.fr ((HF.out.trans f5).trans f7))).mono ?_; rintro e w8 ⟨rfl, f8⟩; obtain ⟨c0'', c1'', c2'', y0'', y1'', y2''⟩ := blk3 (((f5.trans f7).trans f8).heap HBlk.out (by simp))))
          go_wp2_with fail
          go_ret
          refine ⟨?_, ((HF.out.trans f5).trans f7).trans f8⟩
          rw [HV.out, HDec.out, decB, HN.out, HA.out, HFr.out, if_neg (by omega)]
          exact congrArg (fun z => Ending.returned (Value.string z)) (show ((⟨A.toArray⟩ : ByteArray) ++ ⟨[46].toArray⟩) ++ ⟨B.tail.toArray⟩ = _ by rw [cat, cat]; simp)
    · rcases hk2 with rfl | rfl
      · have hre := fun wi => apos_any ⟨dS.toArray⟩ wi (by rw [size_mk]; exact hs1)
        have hel := apos_len dS
        have hsz2 : (⟨(aposB dS).toArray⟩ : ByteArray).size ≤ 2000 := by rw [size_mk]; omega
        go_wp2_with (first | (go_at_call 89; refine hr2.mono ?_; rintro e w5 ⟨rfl, f5⟩; obtain ⟨c0', c1', c2', y0', y1', y2'⟩ := blk3 (f5.heap HBlk.out (by simp))) | (go_at_call 92; refine (hre _ (HM.out.fr (HF.out.trans f5))).mono ?_; rintro e w6 ⟨rfl, f6⟩))
        go_ret
        exact ⟨by rw [HV.out]; rfl, (HF.out.trans f5).trans f6⟩
      · have HP5 := Lib.hid (show printV ⟨5, 0, dS⟩ = 120 :: 39 :: (hexB dS ++ [39]) by simp [printV])
        go_upto_region 19 with (go_at_call 89; refine hr2.mono ?_; rintro e w5 ⟨rfl, f5⟩; have HB5 := Lib.hid (f5.heap HBlk.out (by simp)); obtain ⟨c0', c1', c2', y0', y1', y2'⟩ := blk3 HB5.out)
        have hcv := Lib.run_convert_bytes_const (P := Tryz.prog) w5 73 5 #[.int .u8 120, .int .u8 39] 2 2 Tryz.underlying73 Tryz.underlying5
        have hrow : Bs w5.heap.size (w5.alloc (.cells #[.int .u8 120, .int .u8 39] 5 (2, 3))) (.slice (some ⟨w5.heap.size, 0, none⟩) 2 2) [120, 39] :=
          Or.inr ⟨w5.heap.size, rfl, Nat.le_refl _, heap_alloc_new w5 _⟩
        have HRow := Lib.hid hrow
        clear hrow c0 c1 c2 y0 y1 y2
        have HF5 := Lib.hid (HF.out.trans f5)
        go_upto_region 20 with fail
        have HFa := Lib.hid ((Fr.refl [] w5).alloc (.cells #[.int .u8 120, .int .u8 39] 5 (2, 3)))
        generalize w5.alloc (.cells #[.int .u8 120, .int .u8 39] 5 (2, 3)) = w6 at *
        clear hcv
        obtain ⟨d0, d1, d2, z0, z1, z2⟩ := blk3 (HFa.out.heap HB5.out (by simp))
        go_wp2_with fail
        go_loopw [5, 57] (fun a5 a57 wr => HexR dS w5 a5 a57 wr) (fun _ a57 _ => dS.length - (intOf a57).toNat)
        case atStart => exact ⟨0, Nat.zero_le _, rfl, by simpa [hexB] using HRow.out, HFa.out⟩
        case round =>
          obtain ⟨k, hk, rfl, hown, hf⟩ := hrel
          have hel := hex_len (dS.take k)
          have htl : (dS.take k).length ≤ 1000 := by rw [List.length_take]; omega
          generalize hE : hexB (dS.take k) = es at *
          have HE := Lib.hid hE
          have HO := Lib.hid hown
          have HFr := Lib.hid hf
          have k5 := hf.size
          have hlen : es.length ≤ 2000 := by omega
          clear hE hown hf
          obtain ⟨x0, x1, x2, v0, v1, v2⟩ := blk3 (HFr.out.heap HB5.out (by simp))
          by_cases hlt : k < dS.length
          · have HT := Lib.hid (hex_take ⟨dS.toArray⟩ k (by rw [size_mk]; exact hlt))
            have hlt2 : k < (⟨dS.toArray⟩ : ByteArray).size := by rw [size_mk]; exact hlt
            have hbb : (⟨dS.toArray⟩ : ByteArray)[k].toNat < 256 := (⟨dS.toArray⟩ : ByteArray)[k].toNat_lt
            go_upto_region 23 with fail
            generalize hb : (⟨dS.toArray⟩ : ByteArray)[k] = b at *
            have HT2 := Lib.hid (show 120 :: 39 :: hexB (dS.take (k + 1)) = (120 :: 39 :: es) ++ [hexC (b.toNat / 16), hexC (b.toNat % 16)] by
              have h1 := HT.out
              have h2 := HE.out
              simp only at h1
              rw [h1, h2]; rfl)
            have HO3 := Lib.hid HO.out.drew
            have HF3 := Lib.hid HFr.out.drew
            have i1 : (0 : Int) ≤ (k : Int) := by omega
            have i2 : (k : Int) < (dS.length : Int) := by omega
            have i3 : (k : Int) < ((⟨dS.toArray⟩ : ByteArray).size : Int) := by omega
            have i4 : (0 : Int) ≤ (b.toNat : Int) / 16 := by omega
            have i5 : (b.toNat : Int) / 16 < 16 := by omega
            have i6 : (0 : Int) ≤ (b.toNat : Int) % 16 := by omega
            have i7 : (b.toNat : Int) % 16 < 16 := by omega
            have hand : bits .and .u8 (b.toNat : Int) 15 = ((b.toNat % 16 : Nat) : Int) := by
              have := u8_and_nat b.toNat 15 (by omega) (by omega)
              rw [show (b.toNat &&& 15) = b.toNat % 16 from Nat.and_two_pow_sub_one_eq_mod b.toNat 4] at this
              exact this
            have C5 := Lib.hid c2'
            have q5 := HF3.out.size
            go_region_held3 (fun w' => w'.cell? ⟨w.heap.size, 2, none⟩ = some (.string ⟨dS.toArray⟩)) (first | go_keep | exact (hf7 w5 (Nat.le_refl _) (HF3.out.alloc _)).cell C5.out (by simp)) ((refine step_bs (by rfl) (.tmp 60) (.tmp 73) (by rfl) w5.heap.size _ _ (by rfl) (HO3.out.alloc _) ⟨wr.heap.size, 0, none⟩ 2 2 [hexC (b.toNat / 16), hexC (b.toNat % 16)] _ (pair_eq (digit_v (b.toNat / 16) (by omega) _ (by omega) _) (digit_v (b.toNat % 16) (by omega) _ (by omega) _)) (by rfl) rfl (fun j u hj => cell_two_new wr _ _ _ j u hj) (by omega) (by simp; omega) (by simp; omega) ?_; intro v7 w7 ho7 hf7))
            all_goals
              go_wp2_with fail
              go_roundw
              · exact ⟨k + 1, by omega, by go_num, Or.inl (by rw [HT2.out]; exact ho7), hf7 w5 (Nat.le_refl _) ((HFr.out.alloc _).drew)⟩
              · simp [intOf]; omega
          · have hkl : dS.take k = dS := List.take_of_length_le (by omega)
            have HE2 := Lib.hid (show hexB dS = es by rw [← HE.out, hkl])
            clear hkl
            go_wp2_with (at_builtin; refine bs_append rfl (.tmp 76) (.tmp 77) rfl w5.heap.size _ _ rfl (HO.out.alloc _) ⟨wr.heap.size, 0, none⟩ 1 1 [39] _ rfl rfl rfl (cell_one_new _ _ _) (by omega) (by simp; omega) (by simp; omega) ?_; intro v4 w4 ho4 hf4; have hconv := conv_own ho4)
            go_wp2_with fail
            go_ret
            exact ⟨by rw [HV.out, HP5.out, HE2.out]; rfl, HF5.out.trans (hf4 w5 (Nat.le_refl _) (HFr.out.alloc _))⟩
end Go.Proofs.YtgdneoajmaeckaaGreatDoor
