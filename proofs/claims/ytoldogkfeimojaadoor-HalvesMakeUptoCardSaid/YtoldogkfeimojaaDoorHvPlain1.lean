/- Plain laws of scanning: no condition. -/
import Derived.Test.YtoldogkfeimojaaDoorHvModel
set_option linter.unusedVariables false
set_option linter.unusedSimpArgs false
namespace Go.Proofs.Hv

theorem one_some {s r : Bytes} (h : one s = some r) : 9 ≤ s.length ∧ r = (s.drop 7).take (sizeAt s) ∧ r.length = sizeAt s ∧ 1 ≤ r.length ∧ r.length ≤ 400 ∧ r.length + 8 ≤ s.length ∧ s.take (r.length + 8) = frameOf r := by
  unfold one at h
  split at h
  · rename_i hh
    obtain ⟨h1, h2, h3, h4, h5⟩ := hh
    have hr : (s.drop 7).take (sizeAt s) = r := by simpa using h
    have hl : r.length = sizeAt s := by rw [← hr, List.length_take, List.length_drop]; omega
    rw [hr] at h5
    exact ⟨h1, hr.symm, hl, by omega, by omega, by omega, by rw [hl]; exact h5⟩
  · cases h
theorem one_nil : one [] = none := by unfold one; rw [if_neg (by simp)]
theorem scanF_eq : ∀ (f g : Nat) (s : Bytes), s.length ≤ f → s.length ≤ g → scanF f s = scanF g s := by
  intro f
  induction f with
  | zero =>
    intro g s h1 h2
    have h0 : s = [] := List.eq_nil_of_length_eq_zero (by omega)
    subst h0
    cases g with
    | zero => rfl
    | succ g => simp [scanF, one_nil]
  | succ f ih =>
    intro g s h1 h2
    cases g with
    | zero =>
      have h0 : s = [] := List.eq_nil_of_length_eq_zero (by omega)
      subst h0
      simp [scanF, one_nil]
    | succ g =>
      unfold scanF
      cases ho : one s with
      | none => rfl
      | some r =>
        have hr := one_some ho
        have hd : (s.drop (r.length + 8)).length + 9 ≤ s.length := by rw [List.length_drop]; omega
        simp only
        rw [ih g _ (by omega) (by omega)]
theorem scan_none {s : Bytes} (h : one s = none) : scan s = ([], 0) := by
  unfold scan
  cases s.length with
  | zero => rfl
  | succ f => simp [scanF, h]
theorem scan_some {s r : Bytes} (h : one s = some r) : scan s = (r :: (scan (s.drop (r.length + 8))).1, r.length + 8 + (scan (s.drop (r.length + 8))).2) := by
  have hr := one_some h
  unfold scan
  rw [scanF_eq s.length (s.length + 1) s (Nat.le_refl _) (by omega)]
  show (match one s with | none => _ | some r => _) = _
  rw [h]
  simp only
  have hd : (s.drop (r.length + 8)).length ≤ s.length := by rw [List.length_drop]; omega
  rw [scanF_eq s.length _ _ hd (Nat.le_refl _)]
theorem scan_end (s : Bytes) : (scan s).2 ≤ s.length ∧ (scan s).1.length ≤ (scan s).2 ∧ ∀ r ∈ (scan s).1, okRec r = true := by
  generalize hn : s.length = n
  induction n using Nat.strongRecOn generalizing s with
  | ind n ih =>
    cases ho : one s with
    | none => rw [scan_none ho]; simp
    | some r =>
      have hr := one_some ho
      have hd : (s.drop (r.length + 8)).length + (r.length + 8) = s.length := by rw [List.length_drop]; omega
      obtain ⟨h1, h2, h3⟩ := ih (s.drop (r.length + 8)).length (by omega) _ rfl
      rw [scan_some ho]
      refine ⟨by simp only; omega, by simp only [List.length_cons]; omega, ?_⟩
      intro q hq
      simp only [List.mem_cons] at hq
      rcases hq with rfl | hq
      · simp [okRec, hr.2.2.2.1, hr.2.2.2.2.1]
      · exact h3 q hq
end Go.Proofs.Hv
