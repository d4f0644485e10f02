/- One step of the proof of a statement of this seat: plain laws and walks of the store, log, journal and halves packages; no condition. -/
import Derived.Test.YtoldogkfeimojaaDoorHvMkC
set_option linter.unusedVariables false
set_option linter.unusedSimpArgs false
open Go.RowKit
namespace Go.Proofs.YtoldogkfeimojaaDoor.Hv
open Go.Proofs.Hv Go.Proofs.Mem Go.ChangeShapes Go.WideShapes Go.ChangeAt

theorem witness_row (os : Os) {H : Type} (enc : TypeId × Value → H) :
    (Rows.OpenSpec.upto Rows.halvesMakeSpec).preRow enc Tryd.prog Tryd.f4 Rows.halvesMakeUptoRow.domain false Rows.halvesMakeUptoRow.laid ((World.doorLaid Tryd.prog 400 os).forCall (fun _ _ => 0) ⟨#[], #[.int .u8 0, .slice none 0 0, .slice none 0 0], []⟩).memory #[.int .u8 0, .slice none 0 0, .slice none 0 0] := by
  have hw : (DataW.whole enc Tryd.prog ((World.doorLaid Tryd.prog 400 os).forCall (fun _ _ => 0) ⟨#[], #[.int .u8 0, .slice none 0 0, .slice none 0 0], []⟩).memory Tryd.f4.params.toList (Rows.OpenSpec.upto Rows.halvesMakeSpec).vars false #[Value.int .u8 0, Value.slice none 0 0, Value.slice none 0 0].toList 8).map (fun x => (x.1, x.2.1)) =
      some ([.lit (.int .u8 0), .nil, .nil], []) := by kernel_rfl
  obtain ⟨⟨x1, x2, x3⟩, hx, hx1⟩ := Option.map_eq_some_iff.1 hw
  simp only [Prod.mk.injEq] at hx1
  obtain ⟨rfl, rfl⟩ := hx1
  exact OpenSpec.preRow_of_cond 8 hx (by kernel_rfl) (fun k hk => by cases hk; rfl) (by kernel_rfl) (door_met os _)

theorem str_of (s : ByteArray) : Value.string s = str s.data.toList := rfl
/-- a []string that came in -/
theorem open_arg {H : Type} {enc : TypeId × Value → H} {W : World} {a0 : Option Addr} {len cap : Nat} {d : DataW H} {ps : List MemPlace}
    (h : DataW.Trod enc Tryd.prog W 0 (fun _ => true) true 32 (.slice a0 len cap) d ps) :
    ∃ l : List Bytes, len = l.length ∧ Rd W a0 (strs l) ∧ (∀ x, a0 = some x → 0 < l.length → x.block < W.heap.size) ∧ sumL l + l.length ≤ Rows.uptoBulk d := by
  obtain ⟨fuel, hf⟩ := h
  rcases open_strings Tryd.underlying32 Tryd.underlying9 c_cellsStr hf with ⟨hcs, hx⟩ | ⟨a, len', cap', ss, hcs, _, hl, hm, hz, hx, hcell, _⟩
  · simp [Value.cells] at hcs
    obtain ⟨rfl, rfl, rfl⟩ := hcs
    exact ⟨[], rfl, ⟨fun i hi => absurd hi (by simp [strs])⟩, (fun x hx _ => by cases hx), by simp [sumL]⟩
  · simp [Value.cells] at hcs
    obtain ⟨rfl, rfl, rfl⟩ := hcs
    simp only [if_true] at hz
    simp only [Prod.mk.injEq] at hx
    obtain ⟨rfl, _⟩ := hx
    have hcl : ∀ i, i < len → W.cell? (a.add i) = some (str (((ss.take len).map (·.data.toList)).getD i [])) := by
      intro i hi
      rw [hcell i (by omega), str_of]
      simp [List.getD_eq_getElem?_getD, List.getElem?_take, hi, show i < ss.length by omega]
    have hb : ∀ l : List ByteArray, sumL (l.map (·.data.toList)) + l.length ≤ Rows.uptoBulkAll (Go.ChangeShapes.strs (H := H) l) := by
      intro l
      induction l with
      | nil => simp [sumL]
      | cons x l ih =>
        have e : Rows.uptoBulkAll (Go.ChangeShapes.strs (H := H) (x :: l)) = (x.data.toList.length + 1) + Rows.uptoBulkAll (Go.ChangeShapes.strs (H := H) l) := by
          simp [Go.ChangeShapes.strs, Rows.uptoBulkAll, Rows.uptoBulk]
        have e2 : sumL ((x :: l).map (·.data.toList)) = x.data.toList.length + sumL (l.map (·.data.toList)) := by simp [sumL]
        rw [e, e2]
        simp only [List.length_cons]
        omega
    refine ⟨(ss.take len).map (·.data.toList), by simp; omega, ⟨fun i hi => ?_⟩, fun x hx h0 => ?_, ?_⟩
    · obtain ⟨b, off, spot⟩ := a
      rw [strs_length] at hi
      simp only [List.length_map, List.length_take] at hi
      have hspot : spot = none := by simpa [Addr.add] using World.cell?_spot (hcl 0 (by omega))
      subst hspot
      refine ⟨b, off, rfl, fun j hj => ?_⟩
      rw [strs_length] at hj
      simp only [List.length_map, List.length_take] at hj
      have := hcl j (by omega)
      rw [add_lit] at this
      rw [this]
      simp [strs, List.getD_eq_getElem?_getD, hj]
    · cases hx
      simp only [List.length_map, List.length_take] at h0
      exact World.block_lt_of_cell? W _ (by have := hcl 0 (by omega); rw [show a.add 0 = a by unfold Addr.add; simp] at this; exact this)
    · have := hb (ss.take len)
      rw [show Rows.uptoBulk (DataW.slice (Go.ChangeShapes.strs (H := H) (ss.take len)) (Go.ChangeShapes.strs (ss.drop len))) = Rows.uptoBulkAll (Go.ChangeShapes.strs (H := H) (ss.take len)) + Rows.uptoBulkAll (Go.ChangeShapes.strs (H := H) (ss.drop len)) + 1 by simp [Rows.uptoBulk]]
      simp only [List.length_map]
      omega
end Go.Proofs.YtoldogkfeimojaaDoor.Hv
