/- One step of the proof of a statement of this seat: plain laws and walks of the store, log, journal and halves packages; no condition. -/
import Derived.Test.YtoldogkfeimojaaDoorHvAge
set_option linter.unusedVariables false
set_option linter.unusedSimpArgs false
/-! plain facts of what a half's records say -/
namespace Go.Proofs.Hv
theorem age_le (r : Bytes) : age r ≤ 999999999999999999 := by
  unfold age
  split
  · rename_i h
    have h1 := num_lt (r.drop 2) h.2.2.2.2
    have h2 : (10:Nat) ^ (r.drop 2).length ≤ 10 ^ 18 := Nat.pow_le_pow_right (by decide) (by rw [List.length_drop]; have := h.2.2.1; omega)
    have : (10:Nat) ^ 18 = 1000000000000000000 := by decide
    omega
  · exact Nat.zero_le _
theorem takeTail_len : ∀ (l t : List Bytes), takeTail l = some t → t.length = l.length := by
  intro l
  induction l with
  | nil => intro t h; cases h; rfl
  | cons r l ih =>
    intro t h
    rw [takeTail] at h
    split at h
    · obtain ⟨t', h', rfl⟩ := Option.map_eq_some_iff.1 h
      simp [ih t' h']
    · cases h
theorem takeSnap_len : ∀ (l : List Bytes) (p : List Bytes × List Bytes), takeSnap l = some p → p.1.length + p.2.length + 1 = l.length := by
  intro l
  induction l with
  | nil => intro p h; cases h
  | cons r l ih =>
    intro p h
    rw [takeSnap] at h
    split at h
    · obtain ⟨t', h', rfl⟩ := Option.map_eq_some_iff.1 h
      have := ih t' h'
      simp only [List.length_cons]; omega
    · split at h
      · obtain ⟨t', h', rfl⟩ := Option.map_eq_some_iff.1 h
        have := takeTail_len _ _ h'
        simp only [List.length_cons, List.length_nil]; omega
      · cases h
theorem readHalf_le (l : List Bytes) : (readHalf l).2.1.length ≤ l.length ∧ (readHalf l).2.2.length ≤ l.length ∧ (readHalf l).1 ≤ 999999999999999999 ∧ ((readHalf l).1 = 0 → readHalf l = (0, [], [])) := by
  cases l with
  | nil => exact ⟨Nat.zero_le _, Nat.zero_le _, Nat.zero_le _, fun _ => rfl⟩
  | cons r l =>
    unfold readHalf
    simp only
    split
    · exact ⟨Nat.zero_le _, Nat.zero_le _, Nat.zero_le _, fun _ => rfl⟩
    · rename_i h0
      cases h : takeSnap l with
      | none => exact ⟨Nat.zero_le _, Nat.zero_le _, Nat.zero_le _, fun _ => rfl⟩
      | some p =>
        have := takeSnap_len _ _ h
        exact ⟨by simp only [List.length_cons]; omega, by simp only [List.length_cons]; omega, age_le r, fun h => absurd h h0⟩
end Go.Proofs.Hv
