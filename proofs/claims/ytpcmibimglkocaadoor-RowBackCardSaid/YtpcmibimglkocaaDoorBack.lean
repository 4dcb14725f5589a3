/- The plain law of reading and writing back: what is read is written just so. No condition. -/
import Derived.Test.YtpcmibimglkocaaDoorEnc
namespace Go.Proofs.YtpcmibimglkocaaDoor

theorem bytesN_natB : ∀ (l : List UInt8), bytesN l.length (natB l) = l
  | [] => rfl
  | c :: l => by
    have h1 := natB_append [c] l
    rw [List.singleton_append] at h1
    have e : natB [c] = c.toNat := by simp [natB]
    rw [e] at h1
    have hlt := natB_foldl_lt' l
    have hp : 0 < 256 ^ l.length := Nat.pow_pos (by decide)
    simp only [List.length_cons, bytesN]
    rw [h1]
    have q : (c.toNat * 256 ^ l.length + natB l) / 256 ^ l.length = c.toNat := by
      rw [Nat.add_comm, Nat.add_mul_div_right _ _ hp, Nat.div_eq_of_lt hlt, Nat.zero_add]
    have r : (c.toNat * 256 ^ l.length + natB l) % 256 ^ l.length = natB l := by
      rw [Nat.add_comm, Nat.add_mul_mod_self_right, Nat.mod_eq_of_lt hlt]
    rw [q, r, bytesN_natB l]
    simp
where
  natB_foldl_lt' (l : List UInt8) : natB l < 256 ^ l.length := by
    have key : ∀ (l : List UInt8) (n m : Nat), n < m → l.foldl (fun n (c : UInt8) => n * 256 + c.toNat) n < m * 256 ^ l.length := by
      intro l
      induction l with
      | nil => intro n m h; simpa using h
      | cons c r ih =>
        intro n m h
        have hc := c.toNat_lt
        have := ih (n * 256 + c.toNat) (m * 256) (by omega)
        rw [List.foldl_cons, List.length_cons, Nat.pow_succ', ← Nat.mul_assoc]
        exact this
    have := key l 0 1 (by omega)
    rwa [Nat.one_mul] at this

theorem natB_lt256 (l : List UInt8) : natB l < 256 ^ l.length := bytesN_natB.natB_foldl_lt' l

theorem eight_numB {l : List UInt8} (h : l.length = 8) : eightB (numB l) = l ∧ fits64 (numB l) := by
  have hlt := natB_lt256 l
  rw [h] at hlt
  unfold eightB numB fits64
  have e : ((natB l : Int) - 9223372036854775808 + 9223372036854775808).toNat = natB l := by omega
  rw [e]
  have := bytesN_natB l
  rw [h] at this
  exact ⟨this, by omega, by omega⟩

theorem valB_back {l r : List UInt8} {d : Dt} (h : valB l = some (d, r)) : l = encV d ++ r ∧ fits64 d.i ∧ d.s.length ≤ 1000 := by
  cases l with
  | nil => simp [valB] at h
  | cons c l =>
    simp only [valB] at h
    split at h
    · rename_i hc
      simp only [Option.some.injEq, Prod.mk.injEq] at h; obtain ⟨rfl, rfl⟩ := h
      subst hc
      exact ⟨rfl, by unfold fits64; simp, by simp⟩
    split at h
    · rename_i hc
      subst hc
      cases l with
      | nil => simp at h
      | cons b l =>
        simp only at h
        split at h
        · simp only [Option.some.injEq, Prod.mk.injEq] at h; obtain ⟨rfl, rfl⟩ := h
          refine ⟨?_, by unfold fits64; simp only; omega, by simp⟩
          simp [encV]
        · cases h
    split at h
    · rename_i hc
      split at h
      · cases h
      · rename_i h8
        simp only [Option.some.injEq, Prod.mk.injEq] at h; obtain ⟨rfl, rfl⟩ := h
        obtain ⟨e1, e2⟩ := eight_numB (l := l.take 8) (by rw [List.length_take]; omega)
        refine ⟨?_, e2, by simp⟩
        rcases hc with rfl | rfl
        · simp [encV, e1]
        · simp [encV, e1]
    split at h
    · rename_i hc
      cases hb : textB l with
      | none => rw [hb] at h; cases h
      | some p =>
        rw [hb] at h
        simp only at h
        split at h
        · rename_i hr
          simp only [Option.some.injEq, Prod.mk.injEq] at h; obtain ⟨rfl, rfl⟩ := h
          have he := esc_textB l.length l (Nat.le_refl _) p.1 p.2 hb
          have hcs := right_cases hr
          refine ⟨?_, by unfold fits64; simp, ?_⟩
          · rcases hc with rfl | rfl
            · simp [encV]; exact he
            · simp [encV]; exact he
          · rcases hcs with h | h | h | h
            · simp only at h; simp [h.2.2]
            · simp only at h; simp [h.2.2]
            · simp only at h; simp [h.2]
            · exact h.2.2
        · cases h
    · cases h

theorem rowB_back : ∀ (n m : Nat) (l : List UInt8) (ds : List Dt), rowB n m l = some ds → encR ds = l ∧ ds.length ≤ m ∧ ∀ d ∈ ds, rightB d = true ∧ fits64 d.i ∧ d.s.length ≤ 1000 := by
  intro n
  induction n with
  | zero => intro m l ds h; cases h
  | succ n ih =>
    intro m l ds h
    rw [rowB] at h
    split at h
    · rename_i hl
      cases h
      exact ⟨hl.symm, by simp, by simp⟩
    · cases hv : valB l with
      | none => rw [hv] at h; cases h
      | some p =>
        obtain ⟨d, r⟩ := p
        rw [hv] at h
        simp only at h
        split at h
        · cases h
        · rename_i hm
          cases hb : rowB n (m - 1) r with
          | none => rw [hb] at h; cases h
          | some es =>
            rw [hb] at h
            cases h
            obtain ⟨e1, e2, e3⟩ := ih (m - 1) r es hb
            obtain ⟨v1, v2, v3⟩ := valB_back hv
            refine ⟨?_, by simp; omega, ?_⟩
            · have : encR (d :: es) = encV d ++ encR es := rfl
              rw [this, e1, ← v1]
            · intro x hx
              rcases List.mem_cons.1 hx with rfl | hx
              · exact ⟨valB_right hv, v2, v3⟩
              · exact e3 x hx

theorem rowD_back {m : Nat} {l : List UInt8} {ds : List Dt} (h : rowD m l = some ds) : encR ds = l ∧ ds.length ≤ m ∧ ∀ d ∈ ds, rightB d = true ∧ fits64 d.i ∧ d.s.length ≤ 1000 := rowB_back _ _ _ _ h

end Go.Proofs.YtpcmibimglkocaaDoor
