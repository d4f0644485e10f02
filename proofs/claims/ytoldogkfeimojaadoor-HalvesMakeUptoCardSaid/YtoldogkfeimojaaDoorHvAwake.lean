/- One step of the proof of a statement of this seat: plain laws and walks of the store, log, journal and halves packages; no condition. -/
import Derived.Test.YtoldogkfeimojaaDoorHvModel
set_option linter.unusedVariables false
set_option linter.unusedSimpArgs false
/-! the law's waking calls, in the plain model -/
namespace Go.Proofs.Hv
def dfl : Hs := ⟨0, 0, [], [], ⟨0, 0, 0, false⟩, false⟩
def A1 := openH (newSto 20)
def ah0 : Hs := A1.1.2.getD dfl
def as0 : Sto := A1.2
def A2 := appendH ah0 [97] as0
def A3 := appendH A2.2.1 [98] A2.2.2
def A4 := compactH A3.2.1 [[97, 98]] A3.2.2
def A5 := appendH A4.2.1 [99] A4.2.2
def A6 := openH A5.2.2
def ak0 : Hs := A6.1.2.getD dfl
def A7 := compactH ak0 [[97, 98, 99], [100]] (setFuse A6.2 2 9)
def A8 := appendH A7.2.1 [101] A7.2.2
def A9 := openH (up A8.2.2)
def al0 : Hs := A9.1.2.getD dfl
set_option maxRecDepth 100000
theorem aq1 : openH (newSto 20) = ((0, some ah0), as0) := by decide +kernel
theorem ar1 : ah0.j.room = 297 := by decide +kernel
theorem aq2 : appendH ah0 [97] as0 = (0, A2.2.1, A2.2.2) := by decide +kernel
theorem aq3 : appendH A2.2.1 [98] A2.2.2 = (0, A3.2.1, A3.2.2) := by decide +kernel
theorem aq4 : compactH A3.2.1 [[97, 98]] A3.2.2 = (0, A4.2.1, A4.2.2) := by decide +kernel
theorem aq5 : appendH A4.2.1 [99] A4.2.2 = (0, A5.2.1, A5.2.2) := by decide +kernel
theorem aq6 : openH A5.2.2 = ((0, some ak0), A6.2) := by decide +kernel
theorem aq7 : compactH ak0 [[97, 98, 99], [100]] (setFuse A6.2 2 9) = (16, A7.2.1, A7.2.2) := by decide +kernel
theorem aq8 : appendH A7.2.1 [101] A7.2.2 = (16, A8.2.1, A8.2.2) := by decide +kernel
theorem aq9 : openH (up A8.2.2) = ((0, some al0), A9.2) := by decide +kernel
theorem ae1 : A5.2.1.age = 2 ∧ A5.2.1.snap = [[97, 98]] ∧ A5.2.1.tail = [[99]] := by decide +kernel
theorem ae2 : A8.2.1.snap = [[97, 98]] ∧ A8.2.1.tail = [[99]] := by decide +kernel
theorem ae3 : al0.age = 2 ∧ al0.tail = [[99]] := by decide +kernel
theorem al1 : as0.blocks.length = 20 ∧ A2.2.2.blocks.length = 20 ∧ A3.2.2.blocks.length = 20 ∧ A4.2.2.blocks.length = 20 ∧ A5.2.2.blocks.length = 20 ∧ A6.2.blocks.length = 20 ∧ A7.2.2.blocks.length = 20 ∧ A8.2.2.blocks.length = 20 ∧ A9.2.blocks.length = 20 := by decide +kernel
end Go.Proofs.Hv
