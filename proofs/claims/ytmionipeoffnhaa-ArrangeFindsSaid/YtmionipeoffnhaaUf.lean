/- Settle, At and Later where all sums have room. No condition but the sizes. -/
import Derived.Test.YtmionipeoffnhaaUt
namespace Go.Proofs.Ytmionipeoffnhaa
open Go.RowKit srt grp

/-- What Settle answers where all sums have room. -/
def SettleOk (w : World) (l : List upd.El) (e : Ending) (w' : World) : Prop :=
  ∃ (outs : List upd.El) (a : Option Addr) (c : Nat), e = .returned (.tuple #[.slice a outs.length c, .int .i64 0]) ∧ Fr [] w w' ∧ upd.ListIn w.heap.size w' (.slice a outs.length c) outs ∧ Canon upd.cmpU (outs.map upd.pr) (fun q => 1 * sumK (l.map upd.pr) q) ∧ outs.length ≤ l.length
theorem upd.TidyPost.fit {w w' : World} {l : List upd.El} {e : Ending} (hf : ∀ q, fitB (1 * sumK (l.map upd.pr) q) = true) (h : upd.TidyPost w l 1 e w') : SettleOk w l e w' := by
  obtain ⟨f1, ⟨-, outs, a, c, rfl, h2, h3, h4⟩ | ⟨⟨r, hr⟩, -⟩⟩ := h
  · exact ⟨outs, a, c, rfl, f1, h2, h3, h4⟩
  · rw [hf r] at hr; cases hr
theorem settleFit {w : World} {aa : Option Addr} {ac n : Nat} {l : List upd.El} (h : upd.Cts w (.slice aa n ac) l) (hnl : l.length = n) (hn : n ≤ 10000) (hf : ∀ q, fitB (1 * sumK (l.map upd.pr) q) = true) :
    Calls Try.prog 23 #[.slice aa n ac] w (SettleOk w l) := by
  subst hnl
  exact (upd.settle_any h (by omega)).mono fun _ _ h => h.fit hf
theorem laterFit {w : World} {aa : Option Addr} {ac n : Nat} {l : List upd.El} {t : Int} (h : upd.Cts w (.slice aa n ac) l) (hnl : l.length = n) (hn : n ≤ 10000) (ht : -9223372036854775808 ≤ t ∧ t ≤ 9223372036854775807) (hf : ∀ q, fitB (1 * sumK ((l.map (lt1 t)).map upd.pr) q) = true) :
    Calls Try.prog 29 #[.slice aa n ac, .int .i64 t] w (SettleOk w (l.map (lt1 t))) := by
  subst hnl
  exact (later_any h (by omega) ht).mono fun _ _ h => h.fit hf
theorem atFit {w : World} {aa : Option Addr} {ac n : Nat} {l : List upd.El} {t : Int} (h : upd.Cts w (.slice aa n ac) l) (hnl : l.length = n) (hn : n ≤ 10000) (hf : ∀ r, fitB (1 * sumK ((atL l t).map pr) r) = true) :
    Calls Try.prog 24 #[.slice aa n ac, .int .i64 t] w (TidyOk w (atL l t) 1) := by
  subst hnl
  exact (at_any h hn).mono fun _ _ h => h.fit hf
end Go.Proofs.Ytmionipeoffnhaa
