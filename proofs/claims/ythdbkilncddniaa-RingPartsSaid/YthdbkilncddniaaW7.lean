/- One step of the proof of a statement of this seat: plain laws and walks of the ring package; no condition. -/
import Derived.Test.YthdbkilncddniaaW6
set_option linter.unusedVariables false
set_option linter.unusedSimpArgs false
open Go.RowKit
namespace Go.Proofs.Ythdbkilncddniaa.Ring
open RingM

def largeN (n : Net) : Bool := n.any (fun r => decide (60 < r.length)) || decide ((24 : Int) < n.length)
theorem row_mem {n : Net} {i : Nat} (h : i < n.length) : row n i ∈ n := by
  unfold row
  rw [List.getD_eq_getElem?_getD, List.getElem?_eq_getElem h]
  exact List.getElem_mem h
theorem row_out {n : Net} {i : Nat} (h : ¬ i < n.length) : row n i = [] := by
  unfold row
  rw [List.getD_eq_getElem?_getD, List.getElem?_eq_none (by omega)]
  rfl
theorem small_of {n : Net} (h : largeN n = false) : Small n := by
  unfold largeN at h
  simp only [Bool.or_eq_false_iff, List.any_eq_false, decide_eq_true_eq, decide_eq_false_iff_not] at h
  refine ⟨by omega, fun i => ?_⟩
  by_cases hi : i < n.length
  · have := h.1 _ (row_mem hi); omega
  · rw [row_out hi]; simp
theorem large_row {n : Net} {i : Nat} (hi : i < n.length) (h : 60 < (row n i).length) : largeN n = true := by
  unfold largeN
  rw [Bool.or_eq_true, List.any_eq_true]
  exact .inl ⟨_, row_mem hi, by simpa using h⟩
theorem large_rows {n : Net} (h : ∀ j, j < n.length → (row n j).length ≤ 60) : largeN n = decide ((24 : Int) < n.length) := by
  unfold largeN
  have : n.any (fun r => decide (60 < r.length)) = false := by
    rw [List.any_eq_false]
    intro r hr
    obtain ⟨i, hi, rfl⟩ := List.getElem_of_mem hr
    have := h i hi
    rw [row, List.getD_eq_getElem?_getD, List.getElem?_eq_getElem hi] at this
    simp at this
    simpa using this
  rw [this, Bool.false_or]

set_option maxHeartbeats 400000 in
theorem large_any (A : Option Addr) (n : Net) (c : Nat) (w : World) (hl : n.length ≤ 9223372036854775807) (hA : RdN w A n) :
    Calls Try.prog 8 #[.slice A n.length c] w fun e w' => e = .returned (.bool (largeN n)) ∧ w = w' := by
  go_enter Try.func8, Try.ntmps8
  go_wp2
  go_loop [6] (fun i => ∃ k : Nat, k ≤ n.length ∧ i = .int .i64 k ∧ ∀ j, j < k → (row n j).length ≤ 60) (fun i => n.length - (intOf i).toNat)
  case atStart => exact ⟨0, Nat.zero_le _, rfl, fun j hj => by omega⟩
  case round =>
    obtain ⟨k, hk, rfl, hb⟩ := hrel
    have HB := Lib.hid hb
    clear hb
    by_cases hlt : k < n.length
    · obtain ⟨b, o, rfl, hrow⟩ := hA.at_ k hlt
      obtain ⟨A', c', hcell, _⟩ := hrow k hlt
      clear hrow
      by_cases h60 : 60 < (row n k).length
      · have HF := Lib.hid (large_row hlt h60)
        go_wp2
        go_ret
        rw [HF.out]
        exact ⟨rfl, rfl⟩
      · have h60' : ¬ (60 : Int) < ((row n k).length : Int) := by omega
        go_wp2
        go_round
        case rel => exact ⟨k + 1, by omega, by go_num, fun j hj => by
          rcases Nat.lt_or_ge j k with h | h
          · exact HB.out j h
          · have e : j = k := by omega
            rw [e]; omega⟩
        case measure => simp [intOf]; omega
    · have HF := Lib.hid (large_rows (n := n) (fun j hj => HB.out j (by omega)))
      go_wp2
      go_ret
      rw [HF.out]
      exact ⟨rfl, rfl⟩
end Go.Proofs.Ythdbkilncddniaa.Ring
