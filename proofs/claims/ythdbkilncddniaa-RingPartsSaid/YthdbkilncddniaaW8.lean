/- One step of the proof of a statement of this seat: plain laws and walks of the ring package; no condition. -/
import Derived.Test.YthdbkilncddniaaW7
import Derived.Test.YthdbkilncddniaaMem
import Derived.Deep.LoopGhost
set_option linter.unusedVariables false
set_option linter.unusedSimpArgs false
open Go.RowKit
namespace Go.Proofs.Ythdbkilncddniaa.Ring
open RingM Go.Proofs.Mem

def vints (l : List Nat) : List Value := l.map fun k : Nat => Value.int .i64 (k : Int)
def bools (l : List Bool) : List Value := l.map Value.bool
theorem vints_length (l : List Nat) : (vints l).length = l.length := by simp [vints]
theorem bools_length (l : List Bool) : (bools l).length = l.length := by simp [bools]
theorem vints_append (l r : List Nat) : vints (l ++ r) = vints l ++ vints r := by simp [vints]
theorem vints_one (l : List Nat) : ∀ u ∈ vints l, u.oneCell' = true := by
  intro u hu
  obtain ⟨x, _, rfl⟩ := List.mem_map.1 hu
  rfl
theorem bools_set (l : List Bool) (i : Nat) (b : Bool) : (bools l).set i (.bool b) = bools (l.set i b) := by simp [bools, List.map_set]

theorem E26 : Elem Try.prog 26 3 (.int .i64 0) 8 := elem_of Try.underlying26 (by kernel_rfl) rfl
theorem E41 : Elem Try.prog 41 4 (.bool false) 1 := elem_of Try.underlying41 (by kernel_rfl) rfl
theorem E22 : Elem Try.prog 22 26 (.slice none 0 0) 24 := elem_of Try.underlying22 (by kernel_rfl) rfl
theorem E23 : Elem Try.prog 23 26 (.slice none 0 0) 24 := elem_of Try.underlying23 (by kernel_rfl) rfl

theorem waysI_ways (n : Net) (i : Nat) : waysI n i = (waysN n i).map fun k : Nat => (k : Int) := by
  unfold waysN
  rw [List.map_map]
  have : ∀ x ∈ waysI n i, ((fun k : Nat => (k : Int)) ∘ Int.toNat) x = x := by
    intro x hx
    have := (List.mem_filter.1 hx).2
    simp only [has, Bool.and_eq_true, decide_eq_true_eq] at this
    simp only [Function.comp]
    omega
  rw [List.map_congr_left this, List.map_id']
theorem ints_waysI (n : Net) (i : Nat) : ints (waysI n i) = vints (waysN n i) := by
  rw [waysI_ways, ints, vints, List.map_map]
  rfl
theorem ways_lt {n : Net} {i k : Nat} (h : k ∈ waysN n i) : k < n.length := Edge.lt (n := n) (a := i) h
theorem ways_small {n : Net} (hs : Small n) (i : Nat) : (waysN n i).length ≤ 60 := Nat.le_trans (ways_le n i) (hs.rows i)

/-- ways, in the words of naturals -/
def WaysPost (w : World) (l : List Nat) (e : Ending) (w' : World) : Prop :=
  ∃ A c, e = .returned (.slice A l.length c) ∧ Own w.heap.size w' 3 (.slice A l.length c) (vints l) ∧ Rd w' A (vints l) ∧ (A = none → c = 0) ∧ (∀ a, A = some a → w.heap.size ≤ a.block) ∧ Below w.heap.size w w'
theorem own_of_ownI {base : Nat} {w : World} {v : Value} {l : List Int} (h : OwnI base w v l) : Own base w 3 v (ints l) := by
  unfold Own
  rw [ints_length]
  exact h
theorem waysN_any (A : Option Addr) (n : Net) (c i : Nat) (w : World) (hs : Small n) (hi : i < n.length) (hA : RdN w A n) :
    Calls Try.prog 18 #[.slice A n.length c, .int .i64 i] w (WaysPost w (waysN n i)) := by
  refine (ways_any A n c i w hs hi hA).mono ?_
  rintro e w' ⟨v, rfl, hown, hb⟩
  have h1 := own_of_ownI hown
  rw [ints_waysI] at h1
  rcases h1.shape with ⟨rfl, h0⟩ | ⟨g, cc, rfl, hg, _, _, _, _⟩
  · have : (waysN n i).length = 0 := by rw [← vints_length, h0]; rfl
    rw [h0] at h1
    refine ⟨none, 0, by rw [this], by rw [this, h0]; exact h1, ⟨fun i hi => by rw [h0] at hi; simp at hi⟩, fun _ => rfl, (fun a ha => by cases ha), hb⟩
  · rw [vints_length] at h1
    obtain ⟨A', c', e', hr, _⟩ := h1.rd
    simp only [Value.slice.injEq] at e'
    obtain ⟨rfl, _, rfl⟩ := e'
    exact ⟨_, cc, by rw [vints_length], h1, hr, (fun hh => by cases hh), (fun a ha => by cases ha; exact hg), hb⟩
end Go.Proofs.Ythdbkilncddniaa.Ring
