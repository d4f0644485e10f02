/- One step of the proof of a statement of this seat: plain laws and walks of the store, log, journal and halves packages; no condition. -/
import Derived.Test.YtoldogkfeimojaaDoorHvHs2
import Derived.Deep.RegionHeldLaw
set_option linter.unusedVariables false
set_option linter.unusedSimpArgs false
open Go.RowKit
namespace Go.Proofs.YtoldogkfeimojaaDoor.Hv
open Go.Proofs.Hv Go.Proofs.Mem

theorem toolong_one (x : Bytes) (w : World) : Calls Tryd.prog 26 #[str x] w fun e w' => e = .returned (.bool (decide (398 < x.length))) ∧ w = w' := by
  have e : decide ((398 : Int) < (x.length : Int)) = decide (398 < x.length) := decide_eq_decide.2 (by omega)
  go_enter Tryd.func26, Tryd.ntmps26
  go_wp2
  go_ret
  exact ⟨by rw [← e]; rfl, rfl⟩
/-- IndexFunc at that closure answers a number that says whether one is too long -/
def IdxPost (w : World) (l : List Bytes) (e : Ending) (w' : World) : Prop := ∃ k : Int, e = .returned (.int .i64 k) ∧ tooLong l = decide (0 ≤ k) ∧ w = w'
theorem tooLong_at {l : List Bytes} {k : Nat} (hk : k < l.length) (h : 398 < l[k].length) : tooLong l = true := by
  unfold tooLong; rw [List.any_eq_true]; exact ⟨l[k], by simp, by simpa using h⟩
set_option maxHeartbeats 400000 in
theorem index_any (A : Option Addr) (l : List Bytes) (c : Nat) (w : World) (hl : l.length ≤ 1000000) (hr : Rd w A (strs l)) :
    Calls Tryd.prog 41 #[.slice A l.length c, .func (.func 26) #[] #[]] w (IdxPost w l) := by
  have HR := Lib.hid hr
  clear hr
  go_enter Tryd.func41, Tryd.ntmps41
  go_wp2
  go_loopg [8] (l.length + 1) (fun f v8 W => ∃ k : Nat, k + f = l.length + 1 ∧ k ≤ l.length ∧ v8 = .int .i64 (k : Int) ∧ W = w ∧ tooLong (l.take k) = false)
  case atStart => exact ⟨0, by omega, by omega, rfl, rfl, rfl⟩
  case round =>
    obtain ⟨k, hk, hkl, rfl, rfl, hb⟩ := hrel
    have HB := Lib.hid hb
    clear hb
    by_cases hlt : k < l.length
    · obtain ⟨bA, oA, hAe, hcell⟩ := HR.out.at_ k (by rw [strs_length]; exact hlt)
      have hck : wr.cell? ⟨bA, oA + k, none⟩ = some (str l[k]) := by rw [hcell k (by rw [strs_length]; exact hlt)]; simp [strs]
      subst hAe
      have HT := Lib.hid (show tooLong (l.take (k + 1)) = (tooLong (l.take k) || decide (398 < l[k].length)) from by
        unfold tooLong; rw [List.take_succ_eq_append_getElem hlt, List.any_append]; simp)
      have HW := Lib.hid (fun h => tooLong_at hlt h)
      clear hcell
      generalize l[k] = x at *
      by_cases hx : 398 < x.length
      · have hd : decide (398 < x.length) = true := decide_eq_true hx
        have HX := Lib.hid (HW.out hx)
        clear hx
        go_wp2_with (go_at_call 26; refine (toolong_one x wr).mono ?_; rintro e w' ⟨rfl, rfl⟩; rw [hd])
        go_ret
        exact ⟨k, rfl, by rw [HX.out]; simp, rfl⟩
      · have hd : decide (398 < x.length) = false := decide_eq_false hx
        have HX := Lib.hid (show tooLong (l.take (k + 1)) = false from by rw [HT.out, HB.out, hd]; rfl)
        clear hx
        go_wp2_with (go_at_call 26; refine (toolong_one x wr).mono ?_; rintro e w' ⟨rfl, rfl⟩; rw [hd])
        go_roundg (gk - 1)
        case measure => omega
        case rel => exact ⟨k + 1, by omega, by omega, by go_num, rfl, HX.out⟩
    · have hkk : k = l.length := by omega
      have HF := Lib.hid (show tooLong l = false from by have := HB.out; rw [hkk, List.take_length] at this; exact this)
      clear hkk
      go_wp2
      go_ret
      exact ⟨-1, rfl, by rw [HF.out]; rfl, rfl⟩
theorem contains_any (A : Option Addr) (l : List Bytes) (c : Nat) (w : World) (hl : l.length ≤ 1000000) (hr : Rd w A (strs l)) :
    Calls Tryd.prog 25 #[.slice A l.length c, .func (.func 26) #[] #[]] w fun e w' => e = .returned (.bool (tooLong l)) ∧ w = w' := by
  have HR := Lib.hid hr
  clear hr
  go_enter Tryd.func25, Tryd.ntmps25
  go_wp2_with fail
  refine (index_any A l c w hl HR.out).mono ?_
  rintro e w1 ⟨k, rfl, hk, rfl⟩
  have HK := Lib.hid hk
  clear hk
  go_wp2
  go_ret
  exact ⟨by rw [HK.out]; rfl, rfl⟩
end Go.Proofs.YtoldogkfeimojaaDoor.Hv
