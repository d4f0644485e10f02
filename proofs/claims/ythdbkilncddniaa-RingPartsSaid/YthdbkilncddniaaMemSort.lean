/- One step of the proof of a statement of this seat: plain laws and walks of the ring package; no condition. -/
import Derived.Test.YthdbkilncddniaaMem
import Derived.Shelf.Sort.Plain
set_option linter.unusedVariables false
set_option linter.unusedSimpArgs false
open Go.RowKit
namespace Go.Proofs.Mem
open Go.Sort
variable {α : Type} [Inhabited α]

/-! a row of the call's own and what the library's sort says of it -/
theorem own_holds {base : Nat} {w : World} {e : TypeId} {g n c : Nat} {enc : α → Value} {xs : List α} (h : Own base w e (.slice (some ⟨g, 0, none⟩) n c) (xs.map enc)) (hn : n = xs.length) : Holds enc w g 0 xs.toArray := by
  intro j hj
  have hj' : j < xs.length := by simpa using hj
  refine ⟨?_, ?_⟩
  · rw [Nat.zero_add, Own.cell h (by rw [List.length_map]; exact hn) j (by rw [List.length_map]; exact hj')]
    rw [getElem!_pos xs.toArray j hj]
    simp
  · rw [Nat.zero_add]
    exact Own.frozen h (by rw [List.length_map]; exact hn) j
theorem grownBy_put (w : World) (enc : α → Value) (g m : Nat) (d : Array α) (os : Array Obj) : w.grownBy (grow (putRow enc (Sort.ahead w m) g 0 d) os) (some g) := by
  refine ⟨rfl, rfl, rfl, by simp, fun k hk hne => ?_⟩
  rw [heap_grow_old _ _ (by simpa using hk)]
  have : g ≠ k := fun e => hne (by rw [e])
  simp [putRow, mapBlock, Sort.ahead, Array.getElem?_modify, this]
theorem own_put {base : Nat} {w : World} {e : TypeId} {g n c : Nat} {enc : α → Value} {xs ts : List α} (h : Own base w e (.slice (some ⟨g, 0, none⟩) n c) (xs.map enc)) (hn : n = xs.length) (hl : ts.length = xs.length) (m : Nat) (os : Array Obj) :
    Own base (grow (putRow enc (Sort.ahead w m) g 0 ts.toArray) os) e (.slice (some ⟨g, 0, none⟩) n c) (ts.map enc) := by
  rcases h.2 with ⟨h', _⟩ | ⟨g', cap', cur, h', hb, hg, hnc, hcm, hcs, htake⟩
  · simp at h'
  · simp only [Value.slice.injEq, Option.some.injEq, Addr.mk.injEq, and_true] at h'
    obtain ⟨rfl, _, rfl⟩ := h'
    rw [List.length_map] at hnc
    have hlen : (ts.map enc).length = n := by rw [List.length_map, hl, hn]
    have hgl : g < w.heap.size := (Array.getElem?_eq_some_iff.1 hg).1
    refine ⟨by omega, .inr ⟨g, c, putCells enc 0 ts.toArray cur, by rw [hlen], hb, ?_, by rw [hlen, hn]; exact hnc, hcm, by simp [putCells, hcs], ?_⟩⟩
    · rw [heap_grow_old _ _ (by simpa using hgl)]
      simp [putRow, mapBlock, Sort.ahead, Array.getElem?_modify, hg, onCells]
    · rw [Nat.mul_one]
      apply List.ext_getElem?
      intro j
      rw [List.length_map]
      by_cases hj : j < ts.length
      · have hjc : j < cur.size := by omega
        rw [List.getElem?_take_of_lt hj, Array.getElem?_toList]
        simp only [putCells, Array.getElem?_mapIdx, Array.getElem?_eq_getElem hjc, Option.map_some, List.getElem?_map, List.getElem?_eq_getElem hj, Nat.zero_le, true_and, Nat.zero_add, Nat.sub_zero, List.size_toArray, hj, if_true]
        rw [getElem!_pos ts.toArray j (by simpa using hj)]
        simp
      · rw [List.getElem?_take_eq_none (by omega), List.getElem?_eq_none (by simp; omega)]
end Go.Proofs.Mem
