/- One step of the proof of a statement of this seat: plain laws and walks of the ring package; no condition. -/
import Derived.Test.YthdbkilncddniaaW14
import Derived.Test.YthdbkilncddniaaMemSort
import Derived.Test.YthdbkilncddniaaShf
set_option linter.unusedVariables false
set_option linter.unusedSimpArgs false
open Go.RowKit
namespace Go.Proofs.Ythdbkilncddniaa.Ring
open RingM Go.Proofs.Mem

theorem sortN_perm (l : List Nat) : (sortN l).Perm l := by
  induction l with
  | nil => exact List.Perm.refl _
  | cons x r ih =>
    have hins : ∀ (x : Nat) (l : List Nat), (insertN x l).Perm (x :: l) := by
      intro x l
      induction l with
      | nil => exact List.Perm.refl _
      | cons y r ih =>
        unfold insertN
        split
        · exact List.Perm.refl _
        · exact (ih.cons y).trans (List.Perm.swap x y r)
    exact (hins x (sortN r)).trans (ih.cons x)
theorem sortN_le (l : List Nat) : (sortN l).Pairwise (· ≤ ·) := by
  induction l with
  | nil => exact List.Pairwise.nil
  | cons x r ih =>
    have hins : ∀ (x : Nat) (l : List Nat), l.Pairwise (· ≤ ·) → (insertN x l).Pairwise (· ≤ ·) := by
      intro x l
      induction l with
      | nil => intro _; simp [insertN]
      | cons y r ih =>
        intro h
        obtain ⟨hy, hr⟩ := List.pairwise_cons.1 h
        unfold insertN
        split
        · refine List.pairwise_cons.2 ⟨?_, h⟩
          intro a ha
          rcases List.mem_cons.1 ha with rfl | ha
          · assumption
          · have := hy a ha; omega
        · refine List.pairwise_cons.2 ⟨?_, ih hr⟩
          intro a ha
          rcases mem_insertN.1 ha with rfl | ha
          · omega
          · exact hy a ha
    exact hins x _ ih
theorem merge_cast (l : List Nat) : (RingM.cast l).mergeSort (fun x y => decide (x ≤ y)) = RingM.cast (sortN l) := by
  refine List.Perm.eq_of_pairwise (le := fun a b : Int => a ≤ b) (fun a b _ _ h1 h2 => by omega) ?_ ?_ ?_
  · have := List.pairwise_mergeSort (le := fun x y : Int => decide (x ≤ y)) (fun a b c h1 h2 => by simp at *; omega) (fun a b => by simp; omega) (RingM.cast l)
    simpa using this
  · unfold RingM.cast
    rw [List.pairwise_map]
    exact (sortN_le l).imp fun h => by omega
  · exact (List.mergeSort_perm _ _).trans ((sortN_perm l).symm.map _)

def SortPost (base : Nat) (v : Value) (l : List Nat) (w : World) (e : Ending) (w' : World) : Prop := e = .returned (.tuple #[]) ∧ Own base w' 3 v (vints (sortN l)) ∧ w.grownBy w' v.ownBlock

theorem sort_any (base : Nat) (v : Value) (l : List Nat) (w : World) (h : Own base w 3 v (vints l)) (hl : l.length ≤ 1000000) :
    Calls Try.prog 21 #[v] w (SortPost base v l w) := by
  have hlen : (sortN l).length = l.length := (sortN_perm l).length_eq
  rcases h.shape with ⟨rfl, h0⟩ | ⟨g, c, rfl, hb, hgl, hc, hcm, hob⟩
  · have : l = [] := by cases l with
      | nil => rfl
      | cons _ _ => simp [vints] at h0
    subst this
    refine (Try.slices_Sort_int_none none 0 w).mono ?_
    rintro e w' ⟨rfl, rfl⟩
    exact ⟨rfl, h, grownBy_refl _ _⟩
  · have hv : vints l = (RingM.cast l).map (Value.int .i64) := (ints_cast l).symm
    have hvl : (vints l).length = (RingM.cast l).length := by rw [hv, List.length_map]
    rw [hv] at h
    have hh := own_holds (enc := Value.int .i64) (xs := RingM.cast l) h (by rw [List.length_map])
    have := Try.slices_Sort_int g 0 c (RingM.cast l) w hh hgl (by rw [cast_length]; omega)
    rw [hvl]
    refine this.mono ?_
    rintro e w' ⟨rfl, m, os, rfl⟩
    refine ⟨rfl, ?_, grownBy_put _ _ _ _ _ _⟩
    rw [merge_cast]
    have := own_put h (by rw [List.length_map]) (ts := RingM.cast (sortN l)) (by rw [cast_length, cast_length, hlen]) m os
    have hv2 : vints (sortN l) = (RingM.cast (sortN l)).map (Value.int .i64) := (ints_cast _).symm
    rw [hv2]
    rw [List.length_map] at this
    exact this
end Go.Proofs.Ythdbkilncddniaa.Ring
