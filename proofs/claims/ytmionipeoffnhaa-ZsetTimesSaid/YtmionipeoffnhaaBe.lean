/- A list of eight errnos, all 0, is made: the step. No condition. -/
import Derived.Test.YtmionipeoffnhaaUf
import Derived.Great.BuildSlice
namespace Go.Proofs.Ytmionipeoffnhaa
open Go.RowKit

theorem infoE : (Try.prog.info? 24).map (fun i => (i.zero, i.size, i.bytes)) = some (some (.int .i64 0), 1, 8) := by kernel_rfl
theorem wp_errno8 {o : Oper} {a : Act} {w : World} {K : Act → World → Prop} {Q : Exit → Act → World → Prop} {x0 x1 x2 x3 x4 x5 x6 x7 : Operand}
    (ho : o.op = .buildSlice 36 8 #[(0, x0), (1, x1), (2, x2), (3, x3), (4, x4), (5, x5), (6, x6), (7, x7)])
    (h0 : a.eval x0 = .int .i64 0) (h1 : a.eval x1 = .int .i64 0) (h2 : a.eval x2 = .int .i64 0) (h3 : a.eval x3 = .int .i64 0) (h4 : a.eval x4 = .int .i64 0) (h5 : a.eval x5 = .int .i64 0) (h6 : a.eval x6 = .int .i64 0) (h7 : a.eval x7 = .int .i64 0)
    (h : K (a.put o.dst (.slice (some ⟨w.heap.size, 0, none⟩) 8 8)) (w.alloc (.cells #[.int .i64 0, .int .i64 0, .int .i64 0, .int .i64 0, .int .i64 0, .int .i64 0, .int .i64 0, .int .i64 0] 24))) : o.wp Try.prog a w K Q := by
  obtain ⟨ie, hie, hz, hs, -⟩ := info_parts infoE
  refine wp_buildSlice _ _ _ _ ho _ ie _ Try.underlying36 hie hz (by rw [hs]; decide) (by rw [hs]; decide) ?_ h
  simp only [List.map_toArray, List.map_cons, List.map_nil, h0, h1, h2, h3, h4, h5, h6, h7, hs]
  kernel_rfl
end Go.Proofs.Ytmionipeoffnhaa
