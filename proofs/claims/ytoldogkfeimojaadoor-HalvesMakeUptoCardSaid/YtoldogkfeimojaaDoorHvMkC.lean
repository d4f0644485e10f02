/- One step of the proof of a statement of this seat: plain laws and walks of the store, log, journal and halves packages; no condition. -/
import Derived.Test.YtoldogkfeimojaaDoorHvMk
import Derived.Test.YtoldogkfeimojaaDoorRows
import Derived.Test.YtoldogkfeimojaaDoorTie
import Derived.Test.YtoldogkfeimojaaDoorCards
import Derived.Deep.DeepHandedRow
import Derived.ProofKit
import Derived.SizedLaws
import Derived.SliceStrings
import Derived.LaidMore
import Derived.MakeChecks
import Derived.Stop.LaidErr
set_option linter.unusedVariables false
set_option linter.unusedSimpArgs false
open Go.RowKit
namespace Go.Proofs.YtoldogkfeimojaaDoor.Hv
open Go.Proofs.Hv Go.Proofs.Mem Go.ChangeShapes Go.WideShapes Go.ChangeAt

theorem c_own : ownKnob Tryd.prog.godebug = none := by kernel_rfl
theorem c_laidOut : laidOutB Tryd.prog = true := by kernel_rfl
theorem c_tPow : (Tryd.prog.globals[0]?).map (·.type) = some 130 := by kernel_rfl
theorem c_tRng : (Tryd.prog.globals[2]?).map (·.type) = some 82 := by kernel_rfl
theorem c_tSyn : (Tryd.prog.globals[1]?).map (·.type) = some 82 := by kernel_rfl
theorem c_cells64 : Tryd.prog.cellsOf 108 = 1 := by kernel_rfl
theorem c_cells20 : Tryd.prog.cellsOf 130 = 20 := by kernel_rfl
theorem c_cellsStr : Tryd.prog.cellsOf 9 = 1 := by kernel_rfl
theorem c_cellsErr : Tryd.prog.cellsOf 143 = 1 := by kernel_rfl
theorem c_star : "*" ++ "errors.errorString" = "*errors.errorString" := by decide
theorem c_row (u : TypeId) (h : Tryd.prog.typeName? 3 u = some "*errors.errorString") : u = 141 :=
  typeName_ptr_named (nm := "errors.errorString") (by rw [c_star]; kernel_rfl) (by kernel_rfl) (by decide) u (by rw [c_star]; exact h)
/-- what the row's condition gives -/
theorem glob_of_laid {W : World} (h : laidMetH Tryd.prog Rows.halvesMakeRow.laid W) : Glob W := by
  rw [MakeChecks.laidMetH_plain _ _ _ (by kernel_rfl)] at h
  have h3 := h.tail.tail
  have h4 := h3.tail
  have h5 := h4.tail
  refine ⟨Lib.tabIs_of_head gTab c_tPow Tryd.underlying130 Tryd.underlying108 c_cells64 c_cells20 h3, ?_, ?_⟩
  · obtain ⟨a, s, hv, _⟩ := laid_sentinel h5 gSyn c_tSyn Tryd.underlying82 c_row Tryd.underlying141 Tryd.underlying143 rfl rfl Tryd.underlying9 c_cellsErr c_cellsStr
    exact ⟨_, _, hv⟩
  · obtain ⟨a, s, hv, _⟩ := laid_sentinel h4 gRng c_tRng Tryd.underlying82 c_row Tryd.underlying141 Tryd.underlying143 rfl rfl Tryd.underlying9 c_cellsErr c_cellsStr
    exact ⟨_, _, hv⟩
theorem door_met (os : Os) (args : Array Value) : laidMetH Tryd.prog Rows.halvesMakeRow.laid ((World.doorLaid Tryd.prog 400 os).forCall (fun _ _ => 0) ⟨#[], args, []⟩).memory :=
  laidMetH_of_parts3 (fuel := 8) (laidMet_of_run' 8 (by kernel_rfl) (by kernel_rfl)) (by kernel_rfl) (by kernel_rfl)
end Go.Proofs.YtoldogkfeimojaaDoor.Hv
