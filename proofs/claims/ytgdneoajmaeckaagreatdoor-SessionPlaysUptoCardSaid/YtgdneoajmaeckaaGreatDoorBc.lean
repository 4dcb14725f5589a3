/- Bytes as cells; small blocks. No condition. -/
import Derived.Test.YtgdneoajmaeckaaGreatDoorMm
import Derived.Lib.AppendStr
namespace Go.Proofs.YtgdneoajmaeckaaGreatDoor
open Go.RowKit

theorem blk3 {w : World} {b : Nat} {x y z : Value} {t : Nat} (h : w.heap[b]? = some (.cells #[x, y, z] t)) :
    w.cell? ⟨b, 0, none⟩ = some x ∧ w.cell? ⟨b, 1, none⟩ = some y ∧ w.cell? ⟨b, 2, none⟩ = some z ∧ w.frozen? ⟨b, 0, none⟩ = false ∧ w.frozen? ⟨b, 1, none⟩ = false ∧ w.frozen? ⟨b, 2, none⟩ = false := by
  simp [World.cell?, World.frozen?, h]

def bytesC (l : List UInt8) : List Value := l.map fun b => Value.int .u8 b.toNat

theorem info5 : (Tryz.prog.info? 5).map (fun i => (i.zero, i.size, i.bytes)) = some (some (.int .u8 0), 1, 1) := by kernel_rfl

theorem conv_own {w : World} {base n : Nat} {v : Value} {l : List UInt8} (h : w.ownsRow base 5 1 v n (bytesC l)) : (convert 73 9 v).run Tryz.prog w = .ok (.string ⟨l.toArray⟩) w := by
  obtain ⟨h1, h2⟩ := h
  rcases h2 with ⟨rfl, hn⟩ | ⟨g, cap, cur, rfl, hb, hg, hc, hc2, hsz, htk⟩
  · have : l = [] := by
      rw [hn] at h1
      simpa [bytesC] using h1
    subst this
    exact run_convert_bytes_nil w 73 5 Tryz.underlying73 Tryz.underlying5 _ _ 9 Tryz.underlying9
  · have hl : l.length = n := by simpa [bytesC] using h1
    have := run_convert_bytes_arg (P := Tryz.prog) w 73 5 Tryz.underlying73 Tryz.underlying5 g 0 n cap (l.map fun b => (b.toNat : Int)) (by simpa using hl) ?_ 9 Tryz.underlying9
    · rw [this]
      have : strOfNums (l.map fun b => (b.toNat : Int)) = ⟨l.toArray⟩ := by
        unfold strOfNums
        have e : (l.map fun b => (b.toNat : Int)).map (fun n => UInt8.ofNat n.toNat) = l := by
          rw [List.map_map]
          conv => rhs; rw [← List.map_id l]
          exact List.map_congr_left (fun b _ => by simp)
        rw [e]
      rw [this]
    · intro i hi
      have h3 : cur.toList[i]? = (bytesC l)[i]? := by rw [← htk, List.getElem?_take, if_pos (by omega)]
      have hil : i < l.length := by omega
      simp [bytesC, hil] at h3
      simp [World.cell?, hg, h3, hil]

theorem bytesC_app (a b : List UInt8) : bytesC a ++ bytesC b = bytesC (a ++ b) := by simp [bytesC]
theorem bytesC_one (l : List UInt8) : ∀ u ∈ bytesC l, u.oneCell' = true := by
  intro u hu; simp only [bytesC, List.mem_map] at hu; obtain ⟨b, -, rfl⟩ := hu; rfl

theorem cell_two_new (w : World) (a b : Value) (t : Nat) : ∀ j u, [a, b][j]? = some u → (w.alloc (.cells #[a, b] t)).cell? ((⟨w.heap.size, 0, none⟩ : Addr).add j) = some u := by
  intro j u hj
  have hadd : (⟨w.heap.size, 0, none⟩ : Addr).add j = ⟨w.heap.size, j, none⟩ := by unfold Addr.add; split <;> simp_all
  rw [hadd]
  exact cell_blk (heap_alloc_new w _) j u (by simpa using hj)


end Go.Proofs.YtgdneoajmaeckaaGreatDoor
