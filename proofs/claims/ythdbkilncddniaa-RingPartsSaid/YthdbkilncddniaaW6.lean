/- One step of the proof of a statement of this seat: plain laws and walks of the ring package; no condition. -/
import Derived.Test.YthdbkilncddniaaW5
set_option linter.unusedVariables false
set_option linter.unusedSimpArgs false
open Go.RowKit
namespace Go.Proofs.Ythdbkilncddniaa.Ring
open RingM

/-- where a number stands first in a list; -1: nowhere -/
def idxI (l : List Int) (x : Int) : Int := if l.idxOf x < l.length then (l.idxOf x : Int) else -1
theorem nth_get {l : List Int} {i : Nat} (h : i < l.length) : nth l i = l[i] := by simp [nth, List.getD_eq_getElem?_getD, h]
theorem idxI_found {l : List Int} {x : Int} {k : Nat} (hk : k < l.length) (h : ∀ j, j < k → nth l j ≠ x) (he : nth l k = x) : idxI l x = k := by
  have hx : x ∈ l := by rw [← he, nth_get hk]; exact List.getElem_mem hk
  have hi := List.idxOf_lt_length_iff.2 hx
  have h1 : ¬ l.idxOf x < k := fun hh => h _ hh (by rw [nth_get hi]; exact List.getElem_idxOf hi)
  have h2 : l.idxOf x ≤ k := by
    rcases Nat.lt_or_ge k (l.idxOf x) with hh | hh
    · exfalso
      have : l.idxOf x = l.findIdx (· == x) := rfl
      rw [this] at hh
      have := List.not_of_lt_findIdx hh
      rw [nth_get hk] at he
      simp [he] at this
    · exact hh
  unfold idxI
  rw [if_pos hi]
  omega
theorem idxI_none {l : List Int} {x : Int} (h : ∀ j, j < l.length → nth l j ≠ x) : idxI l x = -1 := by
  unfold idxI
  rw [if_neg]
  intro hi
  exact h _ hi (by rw [nth_get hi]; exact List.getElem_idxOf hi)
theorem idxI_range (l : List Int) (x : Int) : -1 ≤ idxI l x ∧ idxI l x < l.length := by
  unfold idxI
  split <;> omega
theorem idxI_contains (l : List Int) (x : Int) : decide (0 ≤ idxI l x) = l.contains x := by
  unfold idxI
  by_cases h : l.idxOf x < l.length
  · rw [if_pos h]
    have := List.idxOf_lt_length_iff.1 h
    simp [this]
  · rw [if_neg h]
    have : x ∉ l := fun hh => h (List.idxOf_lt_length_iff.2 hh)
    simp [this]

set_option maxHeartbeats 400000 in
theorem index_any (A : Option Addr) (l : List Int) (cap : Nat) (x : Int) (w : World) (hll : l.length ≤ 1000000) (hA : RdI w A l) :
    Calls Try.prog 19 #[.slice A l.length cap, .int .i64 x] w fun e w' => e = .returned (.int .i64 (idxI l x)) ∧ w = w' := by
  go_enter Try.func19, Try.ntmps19
  go_wp2
  go_loop [8] (fun i => ∃ k : Nat, k ≤ l.length ∧ i = .int .i64 k ∧ ∀ j, j < k → nth l j ≠ x) (fun i => l.length - (intOf i).toNat)
  case atStart => exact ⟨0, Nat.zero_le _, rfl, fun j hj => by omega⟩
  case round =>
    obtain ⟨k, hk, rfl, hb⟩ := hrel
    have HB := Lib.hid hb
    clear hb
    by_cases hlt : k < l.length
    · obtain ⟨b, o, rfl, hcell⟩ := hA.at_ k hlt
      have hck := hcell k hlt
      clear hcell
      cases hh : (x == nth l k) with
      | false =>
        have HH := Lib.hid hh
        go_wp2
        go_round
        case rel => exact ⟨k + 1, by omega, by go_num, fun j hj => by
          rcases Nat.lt_or_ge j k with h | h
          · exact HB.out j h
          · have e : j = k := by omega
            rw [e]; have := HH.out; simp at this; exact fun h => this h.symm⟩
        case measure => simp [intOf]; omega
      | true =>
        have HF := Lib.hid (idxI_found hlt HB.out (by simpa using (beq_iff_eq.1 hh).symm))
        go_wp2
        go_ret
        rw [HF.out]
        exact ⟨rfl, rfl⟩
    · have HF := Lib.hid (idxI_none (l := l) (x := x) (fun j hj => HB.out j (by omega)))
      go_wp2
      go_ret
      rw [HF.out]
      exact ⟨rfl, rfl⟩

theorem contains_any (A : Option Addr) (l : List Int) (cap : Nat) (x : Int) (w : World) (hll : l.length ≤ 1000000) (hA : RdI w A l) :
    Calls Try.prog 26 #[.slice A l.length cap, .int .i64 x] w fun e w' => e = .returned (.bool (l.contains x)) ∧ w = w' := by
  have HC := Lib.hid (idxI_contains l x)
  go_enter Try.func26, Try.ntmps26
  go_wp2_with (go_at_call 19; refine (index_any A l cap x _ hll hA).mono ?_; rintro e w' ⟨rfl, rfl⟩)
  go_ret
  rw [← HC.out]
  exact ⟨rfl, rfl⟩

/-! cmp.Compare -/
def cmpI (a b : Int) : Int := if a < b then -1 else if b < a then 1 else 0
theorem isNaN_any (x : Int) (w : World) : Calls Try.prog 32 #[.int .i64 x] w fun e w' => e = .returned (.bool false) ∧ w = w' := by
  go_enter Try.func32, Try.ntmps32
  go_wp2
  go_ret
  exact ⟨by simp, rfl⟩
theorem compare_any (a b : Int) (w : World) : Calls Try.prog 24 #[.int .i64 a, .int .i64 b] w fun e w' => e = .returned (.int .i64 (cmpI a b)) ∧ w = w' := by
  by_cases h1 : a < b
  · have HC : Hid (cmpI a b = -1) := by unfold cmpI; rw [if_pos h1]; exact rfl
    go_enter Try.func24, Try.ntmps24
    go_wp2_with (go_at_call 32; refine (isNaN_any _ _).mono ?_; rintro e w' ⟨rfl, rfl⟩)
    go_ret
    rw [HC.out]
    exact ⟨rfl, rfl⟩
  · by_cases h2 : b < a
    · have HC : Hid (cmpI a b = 1) := by unfold cmpI; rw [if_neg h1, if_pos h2]; exact rfl
      go_enter Try.func24, Try.ntmps24
      go_wp2_with (go_at_call 32; refine (isNaN_any _ _).mono ?_; rintro e w' ⟨rfl, rfl⟩)
      go_ret
      rw [HC.out]
      exact ⟨rfl, rfl⟩
    · have HC : Hid (cmpI a b = 0) := by unfold cmpI; rw [if_neg h1, if_neg h2]; exact rfl
      go_enter Try.func24, Try.ntmps24
      go_wp2_with (go_at_call 32; refine (isNaN_any _ _).mono ?_; rintro e w' ⟨rfl, rfl⟩)
      go_ret
      rw [HC.out]
      exact ⟨rfl, rfl⟩
end Go.Proofs.Ythdbkilncddniaa.Ring
