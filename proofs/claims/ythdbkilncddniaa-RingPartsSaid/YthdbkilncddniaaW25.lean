/- One step of the proof of a statement of this seat: plain laws and walks of the ring package; no condition. -/
import Derived.Test.YthdbkilncddniaaW24
set_option linter.unusedVariables false
set_option linter.unusedSimpArgs false
open Go.RowKit
namespace Go.Proofs.Ythdbkilncddniaa.Ring
open RingM Go.Proofs.Mem

theorem val_row {out : List (List Nat)} {i : Nat} : row (out.map RingM.cast) i = RingM.cast (out.getD i []) := by
  unfold row
  rw [List.getD_eq_getElem?_getD, List.getElem?_map, List.getD_eq_getElem?_getD]
  cases out[i]? <;> rfl
/-- slices in a slice read as a net -/
theorem OwnOut.rdN {base : Nat} {w : World} {v : Value} {ro : List Value} {out : List (List Nat)} (h : OwnOut base w v ro out) : ∃ A c, v = .slice A out.length c ∧ RdN w A (out.map RingM.cast) := by
  have hlen := h.len
  obtain ⟨A, c, rfl, hr, -⟩ := h.top.rd
  refine ⟨A, c, by rw [hlen], ⟨fun i hi => ?_⟩⟩
  rw [List.length_map] at hi
  obtain ⟨b, o, rfl, hc⟩ := hr.at_ i (by omega)
  refine ⟨b, o, rfl, fun j hj => ?_⟩
  rw [List.length_map] at hj
  obtain ⟨A', c', e, hr', -⟩ := (h.rows j (by omega)).rd
  rw [vints_length] at e
  have hv : val ro j = ro[j]'(by omega) := by
    unfold val
    rw [List.getD_eq_getElem?_getD, List.getElem?_eq_getElem (by omega)]
    rfl
  refine ⟨A', c', ?_, ?_⟩
  · rw [hc j (by omega), ← hv, e, val_row, cast_length]
  · rw [val_row]; exact rdI_of_nat hr'

def NetPost (w : World) (m : Net) (e : Ending) (w' : World) : Prop := ∃ A c, e = .returned (.slice A m.length c) ∧ RdN w' A m ∧ Below w.heap.size w w'
theorem rings_out (w : World) (A : Option Addr) (c : Nat) (n : Net) (hs : Small n) (hA : RdN w A n) : Calls Try.prog 9 #[.slice A n.length c] w (NetPost w ((rings n).map RingM.cast)) := by
  refine (rings_any w A c n hs hA).mono ?_
  rintro e w' ⟨v, ro, rfl, ho, hb⟩
  obtain ⟨A', c', rfl, hr⟩ := ho.rdN
  exact ⟨A', c', by rw [List.length_map], hr, hb⟩
theorem turn_out (w : World) (A : Option Addr) (c : Nat) (n : Net) (hs : Small n) (hA : RdN w A n) : Calls Try.prog 13 #[.slice A n.length c] w (NetPost w (turn n)) := by
  refine (turn_any A n c w hs hA).mono ?_
  rintro e w' ⟨g, vals, rfl, ho, hb⟩
  exact ⟨_, _, by rw [turn_length], OwnNet.rdN ho, hb⟩
end Go.Proofs.Ythdbkilncddniaa.Ring
