/- The contracts of the reference's oracle. No condition but that it is well. -/
import Derived.Test.YtdmhiefjmejfpaaNbPlain
import Derived.Maps.AppendAt
namespace Go.Proofs.Ytdmhiefjmejfpaa
open Go.RowKit Go.Maps

def refCells (s : Orc) (v : Value) : Array Value := #[.int .i64 s.last, .int .i64 s.read, v, .int .i64 s.made]

/-- Block br is the reference's oracle, standing as s; v: its holds' slice. -/
structure RefAt (w : World) (br : Nat) (v : Value) (s : Orc) : Prop where
  blk : w.heap[br]? = some (.cells (refCells s v) 56 (0, 0))
  row : w.ownsRow 0 40 2 v s.L.length (flat s.L)

def RefOwn (w : World) (br : Nat) (s : Orc) : Prop := ∃ v, RefAt w br v s

/-- None of these blocks is a row of holds. -/
def NoRow (w : World) (S : List Nat) : Prop := ∀ x ∈ S, ∀ cs fz, w.heap[x]? ≠ some (.cells cs 40 fz)

theorem ownsRow_frx {w w' : World} {S : List Nat} {base size n : Nat} {v : Value} {xs : List Value} (h : w.ownsRow base 40 size v n xs) (f : Fr S w w') (hS : NoRow w S) : w'.ownsRow base 40 size v n xs := by
  obtain ⟨h1, h2⟩ := h
  refine ⟨h1, ?_⟩
  rcases h2 with h2 | ⟨g, cap, cur, hv, hg, hh, r⟩
  · exact Or.inl h2
  · exact Or.inr ⟨g, cap, cur, hv, hg, f.heap hh (fun hx => hS g hx _ _ hh), r⟩

theorem RefAt.fr {w w' : World} {br : Nat} {v : Value} {s : Orc} {S : List Nat} (h : RefAt w br v s) (f : Fr S w w') (h1 : br ∉ S) (h2 : NoRow w S) : RefAt w' br v s :=
  ⟨f.heap h.blk h1, ownsRow_frx h.row f h2⟩
theorem RefOwn.fr {w w' : World} {br : Nat} {s : Orc} {S : List Nat} (h : RefOwn w br s) (f : Fr S w w') (h1 : br ∉ S) (h2 : NoRow w S) : RefOwn w' br s := by
  obtain ⟨v, h⟩ := h; exact ⟨v, h.fr f h1 h2⟩
theorem NoRow.nil (w : World) : NoRow w [] := by intro x hx; simp at hx

theorem RefAt.cells {w : World} {br : Nat} {v : Value} {s : Orc} (h : RefAt w br v s) : w.cell? ⟨br, 0, none⟩ = some (.int .i64 s.last) ∧ w.cell? ⟨br, 1, none⟩ = some (.int .i64 s.read) ∧
    w.cell? ⟨br, 2, none⟩ = some v ∧ w.cell? ⟨br, 3, none⟩ = some (.int .i64 s.made) ∧ ∀ o, w.frozen? ⟨br, o, none⟩ = false := by
  have hb := h.blk
  refine ⟨?_, ?_, ?_, ?_, ?_⟩
  · simp [World.cell?, hb, refCells]
  · simp [World.cell?, hb, refCells]
  · simp [World.cell?, hb, refCells]
  · simp [World.cell?, hb, refCells]
  · intro o; simp [World.frozen?, hb]

theorem RefAt.noRow {w : World} {br : Nat} {v : Value} {s : Orc} (h : RefAt w br v s) : NoRow w [br] := by
  intro x hx cs fz e
  rw [List.mem_singleton] at hx
  subst hx
  rw [h.blk] at e
  simp at e

theorem RefAt.setLast {w : World} {br : Nat} {v : Value} {s : Orc} (h : RefAt w br v s) (u : Int) : RefAt (w.setCell ⟨br, 0, none⟩ (.int .i64 u)) br v { s with last := u } := by
  refine ⟨?_, ownsRow_frx h.row ((Fr.refl [br] w).setCell (by simp) _) h.noRow⟩
  simp [World.setCell, Array.getElem?_modify, h.blk, refCells]
theorem RefAt.setRead {w : World} {br : Nat} {v : Value} {s : Orc} (h : RefAt w br v s) (u : Int) : RefAt (w.setCell ⟨br, 1, none⟩ (.int .i64 u)) br v { s with read := u } := by
  refine ⟨?_, ownsRow_frx h.row ((Fr.refl [br] w).setCell (by simp) _) h.noRow⟩
  simp [World.setCell, Array.getElem?_modify, h.blk, refCells]

theorem rwrite_full {w : World} {br : Nat} {v : Value} {s : Orc} (h : RefAt w br v s) (hl : 1099511627776 ≤ s.last) :
    Calls Try.prog 24 #[.pointer (some ⟨br, 0, none⟩)] w fun e w' => e = .returned (.tuple #[.int .i64 0, .int .i64 2]) ∧ w = w' := by
  obtain ⟨c0, -, -, -, -⟩ := h.cells
  clear h
  go_enter Try.func24, Try.ntmps24
  go_wp2
  go_ret2
  exact ⟨rfl, rfl⟩

theorem rwrite_some {w : World} {br : Nat} {v : Value} {s : Orc} (h : RefAt w br v s) (hl : s.last < 1099511627776) (h0 : 0 ≤ s.last) :
    Calls Try.prog 24 #[.pointer (some ⟨br, 0, none⟩)] w fun e w' => e = .returned (.tuple #[.int .i64 (s.last + 1), .int .i64 0]) ∧ RefAt w' br v { s with last := s.last + 1 } ∧ Fr [br] w w' := by
  obtain ⟨c0, -, -, -, f0⟩ := h.cells
  have f00 := f0 0
  clear f0
  go_enter Try.func24, Try.ntmps24
  go_wp2
  go_ret2
  exact ⟨rfl, h.setLast _, (Fr.refl _ _).setCell (by simp) _⟩

theorem rsettle_no {w : World} {br : Nat} {v : Value} {s : Orc} (h : RefAt w br v s) (t : Int) (ht : t < s.read ∨ s.last < t) :
    Calls Try.prog 25 #[.pointer (some ⟨br, 0, none⟩), .int .i64 t] w fun e w' => e = .returned (.int .i64 120) ∧ w = w' := by
  obtain ⟨c0, c1, -, -, -⟩ := h.cells
  clear h
  by_cases h1 : t < s.read
  · clear ht
    go_enter Try.func25, Try.ntmps25
    go_wp2
    go_ret
    exact ⟨rfl, rfl⟩
  · have h2 : s.last < t := by omega
    clear ht
    go_enter Try.func25, Try.ntmps25
    go_wp2
    go_ret
    exact ⟨rfl, rfl⟩

theorem rsettle_yes {w : World} {br : Nat} {v : Value} {s : Orc} (h : RefAt w br v s) (t : Int) (h1 : s.read ≤ t) (h2 : t ≤ s.last) :
    Calls Try.prog 25 #[.pointer (some ⟨br, 0, none⟩), .int .i64 t] w fun e w' => e = .returned (.int .i64 0) ∧ RefAt w' br v { s with read := t } ∧ Fr [br] w w' := by
  obtain ⟨c0, c1, -, -, f0⟩ := h.cells
  have f01 := f0 1
  clear f0
  go_enter Try.func25, Try.ntmps25
  go_wp2
  go_ret
  exact ⟨rfl, h.setRead _, (Fr.refl _ _).setCell (by simp) _⟩

theorem rnew_no {w : World} (f : Int) (hf : f < 0 ∨ 1099511627776 < f) :
    Calls Try.prog 18 #[.int .i64 f] w fun e w' => e = .returned (.tuple #[.pointer none, .int .i64 1]) ∧ w = w' := by
  by_cases h1 : f < 0
  · clear hf
    go_enter Try.func18, Try.ntmps18
    go_wp2
    go_ret2
    exact ⟨rfl, rfl⟩
  · have h2 : 1099511627776 < f := by omega
    clear hf
    go_enter Try.func18, Try.ntmps18
    go_wp2
    go_ret2
    exact ⟨rfl, rfl⟩

theorem rnew_yes {w : World} (f : Int) (h1 : 0 ≤ f) (h2 : f ≤ 1099511627776) :
    Calls Try.prog 18 #[.int .i64 f] w fun e w' => ∃ br : Nat, e = .returned (.tuple #[.pointer (some ⟨br, 0, none⟩), .int .i64 0]) ∧ w.heap.size ≤ br ∧ RefOwn w' br { last := f, read := f, L := [], made := 0 } ∧ Fr [] w w' := by
  go_enter Try.func18, Try.ntmps18
  go_wp2
  go_ret2
  refine ⟨w.heap.size, rfl, Nat.le_refl _, ⟨.slice none 0 0, ?_, World.ownsRow_nil _ _ _ _⟩, (Fr.refl _ _).alloc _⟩
  exact heap_alloc_new _ _

/-- A part of the list, as the loop has seen it. -/
theorem leastOf_take {r : Int} {L : List (Int × Int)} {i : Nat} (h : i < L.length) : leastOf r (L.take (i + 1)) = min (leastOf r (L.take i)) (L[i]).2 := by
  rw [List.take_succ_eq_append_getElem h]
  generalize L.take i = A
  generalize L[i] = q at *
  simp [leastOf]

theorem rowslice {w : World} {base e size n : Nat} {v : Value} {xs : List Value} (h : w.ownsRow base e size v n xs) : ∃ ad cap, v = .slice ad n cap ∧ (0 < n → ∃ g, ad = some ⟨g, 0, none⟩) ∧ n ≤ cap ∧ cap ≤ maxLen := by
  obtain ⟨h1, h2⟩ := h
  rcases h2 with ⟨rfl, rfl⟩ | ⟨g, cap, cur, rfl, hg, hh, hc, hm, -⟩
  · exact ⟨none, 0, rfl, fun h => by omega, Nat.le_refl _, Nat.zero_le _⟩
  · exact ⟨_, cap, rfl, fun _ => ⟨g, rfl⟩, hc, hm⟩

set_option maxHeartbeats 400000 in
theorem rleast_any {w : World} {br : Nat} {v : Value} {s : Orc} (h : RefAt w br v s) (g : Good s) :
    Calls Try.prog 22 #[.pointer (some ⟨br, 0, none⟩)] w fun e w' => e = .returned (.int .i64 (leastOf s.read s.L)) ∧ Fr [] w w' := by
  obtain ⟨-, c1, c2, -, -⟩ := h.cells
  have hrow := h.row
  have hfew := g.few
  obtain ⟨ad, cap, rfl, hg, -, -⟩ := rowslice hrow
  clear h g
  go_enter Try.func22, Try.ntmps22
  go_wp2
  go_loopw [3, 15] (fun m i wr => ∃ q : Nat, q ≤ s.L.length ∧ i = .int .i64 q ∧ m = .int .i64 (leastOf s.read (s.L.take q)) ∧ Fr [] w wr)
    (fun _ i _ => s.L.length - (intOf i).toNat)
  case atStart => exact ⟨0, by omega, rfl, rfl, Fr.refl _ _⟩
  case round =>
    obtain ⟨q, hq, rfl, rfl, hfr⟩ := hrel
    by_cases hlt : q < s.L.length
    · obtain ⟨gb, rfl⟩ := hg (by omega)
      have hrq := ownsRow_frx hrow hfr (NoRow.nil _)
      have hcq := (row_cells hrq).1
      have e0 := hcq (q * 2) (by omega)
      have e1 := hcq (q * 2 + 1) (by omega)
      rw [(flat_get hlt).1] at e0
      rw [(flat_get hlt).2] at e1
      have HL := Lib.hid (leastOf_take (r := s.read) hlt)
      generalize s.L[q] = p at *
      clear hcq
      go_wp2
      go_roundw
      case rel => exact ⟨q + 1, by omega, by go_num, by rw [HL.out]; congr 1; split <;> omega, hfr.alloc _⟩
      case measure => simp [intOf]; omega
    · obtain rfl : q = s.L.length := by omega
      have HT : Hid (s.L.take s.L.length = s.L) := List.take_length
      go_wp2
      go_ret
      exact ⟨ret_int (by rw [HT.out]), hfr⟩

/-- Where a number's hold lies: its place; -1: nowhere. -/
def placeOf (L : List (Int × Int)) (k : Int) : Option Nat := L.findIdx? (fun p => decide (p.1 = k))

def placeInt (L : List (Int × Int)) (k : Int) : Int := match placeOf L k with | some i => (i : Int) | none => -1

theorem rat_any {w : World} {br : Nat} {v : Value} {s : Orc} (h : RefAt w br v s) (g : Good s) (k : Int) :
    Calls Try.prog 30 #[.pointer (some ⟨br, 0, none⟩), .int .i64 k] w fun e w' => e = .returned (.int .i64 (placeInt s.L k)) ∧ Fr [] w w' := by
  obtain ⟨-, c1, c2, -, -⟩ := h.cells
  have hrow := h.row
  have hfew := g.few
  obtain ⟨ad, cap, rfl, hg, -, -⟩ := rowslice hrow
  clear h g
  go_enter Try.func30, Try.ntmps30
  go_wp2
  go_loopw [12] (fun i wr => ∃ q : Nat, q ≤ s.L.length ∧ i = .int .i64 q ∧ (∀ j, (hj : j < q) → (hl : j < s.L.length) → (s.L[j]).1 ≠ k) ∧ Fr [] w wr)
    (fun i _ => s.L.length - (intOf i).toNat)
  case atStart => exact ⟨0, by omega, rfl, fun j hj => by omega, Fr.refl _ _⟩
  case round =>
    obtain ⟨q, hq, rfl, hno, hfr⟩ := hrel
    by_cases hlt : q < s.L.length
    · obtain ⟨gb, rfl⟩ := hg (by omega)
      have hrq := ownsRow_frx hrow hfr (NoRow.nil _)
      have hcq := (row_cells hrq).1
      have e0 := hcq (q * 2) (by omega)
      have e1 := hcq (q * 2 + 1) (by omega)
      rw [(flat_get hlt).1] at e0
      rw [(flat_get hlt).2] at e1
      have HN := Lib.hid hno
      by_cases hk : (s.L[q]).1 = k
      · have HP : Hid (placeOf s.L k = some q) := by
          show placeOf s.L k = some q
          unfold placeOf
          rw [List.findIdx?_eq_some_iff_getElem]
          exact ⟨hlt, by simpa using hk, fun j hj => by have := hno j hj (by omega); simpa using this⟩
        have hb : ((s.L[q]).1 == k) = true := by simpa using hk
        clear hno hk
        generalize s.L[q] = p at *
        clear hcq
        go_wp2
        go_ret
        exact ⟨ret_int (by unfold placeInt; rw [HP.out]), hfr.alloc _⟩
      · have hb : ((s.L[q]).1 == k) = false := by simpa using hk
        have HK := Lib.hid hk
        clear hno hk
        generalize hp : s.L[q] = p at *
        have HP := Lib.hid hp
        clear hcq hp
        go_wp2
        go_roundw
        case rel => exact ⟨q + 1, by omega, by go_num, fun j hj hl => by
          by_cases e : j = q
          · subst e; rw [HP.out]; exact HK.out
          · exact HN.out j (by omega) hl, hfr.alloc _⟩
        case measure => simp [intOf]; omega
    · obtain rfl : q = s.L.length := by omega
      have HP : Hid (placeOf s.L k = none) := by
        show placeOf s.L k = none
        unfold placeOf
        rw [List.findIdx?_eq_none_iff]
        intro p hp
        obtain ⟨j, hj, e⟩ := List.mem_iff_getElem.1 hp
        have := hno j hj hj
        rw [e] at this
        simpa using this
      clear hno
      go_wp2
      go_ret
      exact ⟨ret_int (by unfold placeInt; rw [HP.out]), hfr⟩

end Go.Proofs.Ytdmhiefjmejfpaa
