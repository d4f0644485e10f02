/- One step of the proof of a statement of this seat: plain laws and walks of the ring package; no condition. -/
import Derived.Test.YthdbkilncddniaaProg
import Derived.WalkKit
import Derived.WalkSpells
import Derived.WalkLawsBesides
import Derived.Outline
import Derived.Lib.Hide
import Derived.Deep.QuietTactic
import Derived.BigQuiet
set_option linter.unusedVariables false
set_option linter.unusedSimpArgs false
open Go.RowKit
namespace Go.Proofs.Ythdbkilncddniaa.Ring

def ints (l : List Int) : List Value := l.map (Value.int .i64)
theorem ints_length (l : List Int) : (ints l).length = l.length := by simp [ints]
theorem ints_append (l r : List Int) : ints (l ++ r) = ints l ++ ints r := by simp [ints]

def nth (l : List Int) (i : Nat) : Int := l.getD i 0
/-- a value reads as a list of ints -/
structure RdI (w : World) (A : Option Addr) (l : List Int) : Prop where
  at_ : ∀ i, i < l.length → ∃ b o, A = some ⟨b, o, none⟩ ∧ ∀ j, j < l.length → w.cell? ⟨b, o + j, none⟩ = some (.int .i64 (nth l j))

def hasI (len : Nat) (k : Int) : Bool := decide (0 ≤ k) && decide (k < len)

theorem has_any (A : Option Addr) (len cap : Nat) (k : Int) (w : World) (_hl : len ≤ 9223372036854775807) :
    Calls Try.prog 25 #[.slice A len cap, .int .i64 k] w fun e w' => e = .returned (.bool (hasI len k)) ∧ w = w' := by
  by_cases h0 : 0 ≤ k
  · by_cases h1 : k < len
    · have e : hasI len k = true := by simp [hasI, h0, h1]
      rw [e]
      clear e
      go_enter Try.func25, Try.ntmps25
      go_wp2
      go_ret
      exact ⟨rfl, rfl⟩
    · have e : hasI len k = false := by simp [hasI, h1]
      rw [e]
      clear e
      go_enter Try.func25, Try.ntmps25
      go_wp2
      go_ret
      exact ⟨rfl, rfl⟩
  · have e : hasI len k = false := by simp [hasI, h0]
    rw [e]
    clear e
    go_enter Try.func25, Try.ntmps25
    go_wp2
    go_ret
    exact ⟨rfl, rfl⟩

theorem ways1_any (A : Option Addr) (len cap : Nat) (k : Int) (g : Nat) (w : World) (hl : len ≤ 9223372036854775807) (hc : w.cell? ⟨g, 0, none⟩ = some (.slice A len cap)) :
    Calls Try.prog 28 #[.int .i64 k, .pointer (some ⟨g, 0, none⟩)] w fun e w' => e = .returned (.bool (!(hasI len k))) ∧ w = w' := by
  generalize hb : hasI len k = b
  have H := Lib.hid hb
  clear hb
  go_enter Try.func28, Try.ntmps28
  go_wp2_with (go_at_call 25; refine (has_any _ _ _ _ _ hl).mono ?_; rintro e w' ⟨rfl, rfl⟩; rw [H.out])
  go_ret
  exact ⟨rfl, rfl⟩
end Go.Proofs.Ythdbkilncddniaa.Ring
