/- One step of the proof of a statement of this seat: plain laws and walks of the ring package; no condition. -/
import Derived.Test.YthdbkilncddniaaBase
set_option linter.unusedVariables false
set_option linter.unusedSimpArgs false
open Go.RowKit
namespace Go.Proofs.Ythdbkilncddniaa.Ring

/-- where the first of a list stands that is no point; -1: there is none -/
def idxFn (len : Nat) (l : List Int) : Int :=
  match l.findIdx? fun k => !(hasI len k) with
  | some i => i
  | none => -1

theorem idxFn_none {len : Nat} {l : List Int} (h : ∀ j, j < l.length → hasI len (nth l j) = true) : idxFn len l = -1 := by
  unfold idxFn
  have : l.findIdx? (fun k => !(hasI len k)) = none := by
    rw [List.findIdx?_eq_none_iff]
    intro x hx
    obtain ⟨i, hi, rfl⟩ := List.getElem_of_mem hx
    have := h i hi
    rw [nth, List.getD_eq_getElem?_getD, List.getElem?_eq_getElem hi, Option.getD_some] at this
    simp [this]
  rw [this]
theorem idxFn_found {len : Nat} {l : List Int} {k : Nat} (hk : k < l.length) (h : ∀ j, j < k → hasI len (nth l j) = true) (hf : hasI len (nth l k) = false) : idxFn len l = k := by
  unfold idxFn
  have : l.findIdx? (fun k => !(hasI len k)) = some k := by
    rw [List.findIdx?_eq_some_iff_getElem]
    refine ⟨hk, ?_, fun j hj => ?_⟩
    · rw [nth, List.getD_eq_getElem?_getD, List.getElem?_eq_getElem hk, Option.getD_some] at hf
      simp [hf]
    · have := h j hj
      rw [nth, List.getD_eq_getElem?_getD, List.getElem?_eq_getElem (by omega), Option.getD_some] at this
      simp [this]
  rw [this]

set_option maxHeartbeats 400000 in
/-- slices.IndexFunc at the closure of ways -/
theorem indexFunc_any (A : Option Addr) (l : List Int) (cap : Nat) (B : Option Addr) (len c2 : Nat) (g : Nat) (w : World) (hl : len ≤ 9223372036854775807) (hll : l.length ≤ 9223372036854775807) (hA : RdI w A l) (hc : w.cell? ⟨g, 0, none⟩ = some (.slice B len c2)) :
    Calls Try.prog 33 #[.slice A l.length cap, .func (.func 28) #[] #[.pointer (some ⟨g, 0, none⟩)]] w fun e w' =>
      e = .returned (.int .i64 (idxFn len l)) ∧ w = w' := by
  go_enter Try.func33, Try.ntmps33
  go_wp2
  go_loop [8] (fun i => ∃ k : Nat, k ≤ l.length ∧ i = .int .i64 k ∧ ∀ j, j < k → hasI len (nth l j) = true) (fun i => l.length - (intOf i).toNat)
  case atStart => exact ⟨0, Nat.zero_le _, rfl, fun j hj => by omega⟩
  case round =>
    obtain ⟨k, hk, rfl, hb⟩ := hrel
    have HB := Lib.hid hb
    clear hb
    by_cases hlt : k < l.length
    · obtain ⟨b, o, rfl, hcell⟩ := hA.at_ k hlt
      have hck := hcell k hlt
      have HC := Lib.hid hcell
      clear hcell
      cases hh : hasI len (nth l k) with
      | true =>
        have HH := Lib.hid hh
        clear hh
        go_wp2_with (go_at_call 28; refine (ways1_any _ _ _ _ _ _ hl hc).mono ?_; rintro e w' ⟨rfl, rfl⟩; rw [HH.out])
        go_round
        case rel => exact ⟨k + 1, by omega, by go_num, fun j hj => by
          rcases Nat.lt_or_ge j k with h | h
          · exact HB.out j h
          · have : j = k := by omega
            rw [this]; exact HH.out⟩
        case measure => simp [intOf]; omega
      | false =>
        have HH := Lib.hid hh
        clear hh
        have HF := Lib.hid (idxFn_found hlt HB.out HH.out)
        go_wp2_with (go_at_call 28; refine (ways1_any _ _ _ _ _ _ hl hc).mono ?_; rintro e w' ⟨rfl, rfl⟩; rw [HH.out])
        go_ret
        rw [HF.out]
        exact ⟨rfl, rfl⟩
    · have hkk : k = l.length := by omega
      have HF := Lib.hid (idxFn_none (len := len) (l := l) (by rw [← hkk]; exact HB.out))
      clear hkk
      go_wp2
      go_ret
      rw [HF.out]
      exact ⟨rfl, rfl⟩
end Go.Proofs.Ythdbkilncddniaa.Ring
