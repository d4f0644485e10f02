/- One step of the proof of a statement of this seat: plain laws and walks of the store, log, journal and halves packages; no condition. -/
import Derived.Test.YtoldogkfeimojaaDoorHvJr1
set_option linter.unusedVariables false
set_option linter.unusedSimpArgs false
open Go.RowKit
namespace Go.Proofs.YtoldogkfeimojaaDoor.Hv
open Go.Proofs.Hv Go.Proofs.Mem

theorem repeat_any (k : Nat) (w : World) (hk : k ≤ 1000000) : Calls Tryd.prog 35 #[str [0], .int .i64 (k : Int)] w (RetB (str (zeros k)) w) := by
  refine (Tryd.strings_Repeat ⟨[(0 : UInt8)].toArray⟩ k w (by omega) (by simp [ByteArray.size]; omega)).mono ?_
  rintro e w' ⟨h1, h2⟩
  refine ⟨?_, h2⟩
  have := Lib.repeatL_replicate 0 1 k
  simp only [List.replicate_one, Nat.mul_one] at this
  rw [h1]
  show Ending.returned (.string ⟨(Lib.repeatL [0] k).toArray⟩) = _
  rw [this]
  rfl

attribute [local go_sem] bs_append
set_option maxHeartbeats 400000 in
set_option maxRecDepth 20000 in
theorem cleared_any (s : Bytes) (m : Nat) (w : World) (hm : m ≤ s.length) (hs : s.length ≤ 1000000) :
    Calls Tryd.prog 39 #[str s, .int .i64 (m : Int)] w (RetB (str (cleared s m)) w) := by
  have e1 : IntKind.i64.wrap ((s.length : Int) - (m : Int)) = ((s.length - m : Nat) : Int) := by rw [IntKind.wrap_i64]; omega
  have l1 : (m : Int) ≤ (s.length : Int) := by omega
  have hex : (⟨s.toArray⟩ : ByteArray).extract 0 m = ⟨(s.take m).toArray⟩ := by rw [bs_extract]; rfl
  have hl : (s.take m).length ≤ 1000000 := by rw [List.length_take]; omega
  have hz : (zeros (s.length - m)).length ≤ 1000000 := by simp [zeros]; omega
  have hk : s.length - m ≤ 1000000 := by omega
  have hq : ¬ 9223372036854775807 < m + (zeros (s.length - m)).length := by omega
  have hq2 : ¬ 9223372036854775807 < (s.take m).length + (zeros (s.length - m)).length := by omega
  have hq3 : ¬ 9223372036854775807 < min m s.length + (zeros (s.length - m)).length := by omega
  go_enter Tryd.func39, Tryd.ntmps39
  go_wp2
  go_region_held3 (fun _ => True) (trivial) ((go_at_call 35; refine (repeat_any _ _ hk).mono ?_; rintro e w1 ⟨rfl, hb1⟩))
  have HE := Lib.hid (((((Keeps.refl none' w).drew)).below hb1).to_below0)
  clear hb1
  go_wp2
  go_ret
  exact ⟨rfl, HE.out⟩
end Go.Proofs.YtoldogkfeimojaaDoor.Hv
