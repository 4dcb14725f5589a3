/- append onto a row of the call's own, or onto one that is full: the law for a walk. No condition but the sizes. -/
import Derived.Test.YtmionipeoffnhaaRc
import Derived.ArgAppend
namespace Go.Proofs.Ytmionipeoffnhaa
open Go.RowKit

/-- A row of the call's own, or one without room. -/
def OwnOr (w : World) (base e size : Nat) (v : Value) (n : Nat) (xs : List Value) : Prop :=
  w.ownsRow base e size v n xs ∨ ∃ b, v = .slice (some b) n n ∧ xs.length = n * size ∧ ∀ j u, xs[j]? = some u → w.cell? (b.add j) = some u
theorem OwnOr.fr {w w' : World} {base e size n : Nat} {v : Value} {xs : List Value} (h : OwnOr w base e size v n xs) (f : Fr [] w w') : OwnOr w' base e size v n xs := by
  rcases h with h | ⟨b, hv, hl, hc⟩
  · exact Or.inl (ownsRow_fr h f (by simp))
  · exact Or.inr ⟨b, hv, hl, fun j u hj => f.cell (hc j u hj) (by simp)⟩

section
variable {P : Program}
theorem wpList_append_or (w : World) {ops : Array Oper} {rest : List Oper} {o : Oper} {a : Act} {Q : Exit → Act → World → Prop} (hgd : o.guard = none) (s x : Operand) (t : TypeId)
    (ho : o.op = .call { callee := .builtin .append, args := #[s, x], argTypes := #[t, t] })
    (base : Nat) (e : TypeId) (i : TypeInfo) (z : Value) (size bytes : Nat) (ht : P.underlying t = some (.slice e)) (hi : P.info? e = some i) (hz : i.zero = some z)
    (hsize : i.size = size) (hby : i.bytes = bytes) (hzs : z.cells.size = size) (hsz : 0 < size)
    (v : Value) (n : Nat) (xs : List Value) (hs : a.eval s = v) (hown : OwnOr w base e size v n xs) (ad : Addr) (m c : Nat) (news : List Value) (hx : a.eval x = .slice (some ad) m c) (hsrc : Src w size (.slice (some ad) m c) m news) (hm : 1 ≤ m)
    (h63 : n + m ≤ maxLen) (hbytes : (n + m) * bytes ≤ 140737488355328) (hbase : base ≤ w.heap.size)
    (h : ∀ v' w', w'.ownsRow base e size v' (n + m) (xs ++ news) → (∃ row, w.grownBy w' row ∧ ∀ r, row = some r → base ≤ r) → wpList P ops Q rest (a.put o.dst v') w') : wpList P ops Q (o :: rest) a w := by
  refine wpList_plain hgd fun _ hK => ?_
  rcases hown with hown | ⟨b, rfl, hl, hc⟩
  · exact wp_append_src w s x t ho base e i z size bytes ht hi hz hsize hby hzs hsz v n xs hs hown _ m news hx hsrc h63 hbytes hbase fun v' w' h2 h3 _ => hK _ _ (h v' w' h2 ⟨_, h3, fun r hr => (hown.lt r hr).1⟩)
  · obtain ⟨hnl, hone, hh⟩ := hsrc
    have hcc : ∀ j u, news[j]? = some u → w.cell? (ad.add j) = some u := by
      rcases hh with ⟨hv, -⟩ | ⟨ad', c', hv, hc'⟩
      · cases hv
      · simp only [Value.slice.injEq, Option.some.injEq] at hv
        obtain ⟨rfl, -, -⟩ := hv
        exact hc'
    obtain ⟨v', w', hr, h2, h3⟩ := run_append_arg_grows (P := P) w t o.type e i z size bytes ht hi hz hsize hby hzs hsz b n n xs hl hc ad m c news hnl hcc (by omega) h63 hbytes
    unfold Oper.wp execOp
    simp only [ho, resolve, invoke, builtin, Sem.run_bind, Sem.run_pure, Result.andThen_ok, List.map_toArray, List.map_cons, List.map_nil, hs, hx, hr]
    exact hK _ _ (h v' w' (ownsRow_base h2 hbase) ⟨none, h3, fun r hr => by cases hr⟩)
end
end Go.Proofs.Ytmionipeoffnhaa
