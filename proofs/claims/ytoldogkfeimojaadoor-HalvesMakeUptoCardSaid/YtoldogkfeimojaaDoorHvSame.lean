/- One step of the proof of a statement of this seat: plain laws and walks of the store, log, journal and halves packages; no condition. -/
import Derived.Test.YtoldogkfeimojaaDoorHvHs6
set_option linter.unusedVariables false
set_option linter.unusedSimpArgs false
open Go.RowKit
namespace Go.Proofs.YtoldogkfeimojaaDoor.Hv
open Go.Proofs.Hv Go.Proofs.Mem

def SamePost (w : World) (a b : List Bytes) (e : Ending) (w' : World) : Prop := e = .returned (.bool (decide (a = b))) ∧ Keeps none' w w'
theorem same_at {a b : List Bytes} {k : Nat} (h1 : k < a.length) (h2 : k < b.length) (h : a[k] ≠ b[k]) : a ≠ b := by
  rintro rfl; exact h rfl
set_option maxHeartbeats 400000 in
set_option maxRecDepth 20000 in
theorem same_any (A B : Option Addr) (a b : List Bytes) (c d : Nat) (w : World) (ha : Rd w A (strs a)) (hb : Rd w B (strs b)) (hl : a.length ≤ 1000000) (hl2 : b.length ≤ 1000000) :
    Calls Tryd.prog 13 #[.slice A a.length c, .slice B b.length d] w (SamePost w a b) := by
  have HH := Lib.hid (And.intro ha hb)
  clear ha hb
  by_cases hn : a.length = b.length
  · have hne : ((a.length : Int) != (b.length : Int)) = false := by simp [hn]
    have HN := Lib.hid hn
    clear hn
    go_enter Tryd.func13, Tryd.ntmps13
    go_wp2_with fail
    go_loopg [5] (a.length + 1) (fun f v5 W => ∃ k : Nat, k + f = a.length + 1 ∧ k ≤ a.length ∧ v5 = .int .i64 (k : Int) ∧ Keeps none' w W ∧ a.take k = b.take k)
    case atStart => exact ⟨0, by omega, by omega, rfl, Keeps.refl _ _, rfl⟩
    case round =>
      obtain ⟨k, hk, hkl, rfl, hkp, htk⟩ := hrel
      have HK := Lib.hid (And.intro hkp htk)
      clear hkp htk
      by_cases hlt : k < a.length
      · have hlt2 : k < b.length := by have := HN.out; omega
        obtain ⟨bA, oA, hAe, hcA⟩ := HH.out.1.at_ k (by rw [strs_length]; exact hlt)
        obtain ⟨bB, oB, hBe, hcB⟩ := HH.out.2.at_ k (by rw [strs_length]; exact hlt2)
        have hcka : wr.cell? ⟨bA, oA + k, none⟩ = some (str a[k]) := by rw [HK.out.1.cell (hcA k (by rw [strs_length]; exact hlt)) (fun h => h)]; simp [strs]
        have hckb : wr.cell? ⟨bB, oB + k, none⟩ = some (str b[k]) := by rw [HK.out.1.cell (hcB k (by rw [strs_length]; exact hlt2)) (fun h => h)]; simp [strs]
        subst hAe
        subst hBe
        have HT := Lib.hid (show a[k] = b[k] → a.take (k + 1) = b.take (k + 1) from fun h => by rw [List.take_succ_eq_append_getElem hlt, List.take_succ_eq_append_getElem hlt2, HK.out.2, h])
        have HW := Lib.hid (fun h => same_at hlt hlt2 h)
        clear hcA hcB
        generalize a[k] = x at *
        generalize b[k] = y at *
        by_cases hx : x = y
        · have HX := Lib.hid (HT.out hx)
          have hq2 : (x == y) = true := by simpa using hx
          have hlt' : (k : Int) < (a.length : Int) := by omega
          have hlt2' : (k : Int) < (b.length : Int) := by omega
          subst hx
          go_wp2_with fail
          go_quiet (fail)
          go_wp2
          go_roundg (gk - 1)
          case measure => omega
          case rel => exact ⟨k + 1, by omega, by omega, by go_num, HK.out.1.drewN _, HX.out⟩
        · have HX := Lib.hid (HW.out hx)
          have hq : (x == y) = false := by simpa using hx
          have HXX := Lib.hid hx
          clear hx
          go_wp2_with fail
          go_quiet (fail)
          go_wp2
          go_ret
          exact ⟨by rw [decide_eq_false HX.out]; rfl, HK.out.1.drewN _⟩
      · have hkk : k = a.length := by omega
        have HX := Lib.hid (show a = b from by have := HK.out.2; rw [hkk, List.take_length, HN.out, List.take_length] at this; exact this)
        clear hkk
        go_wp2
        go_ret
        exact ⟨by rw [decide_eq_true HX.out]; rfl, HK.out.1⟩
  · have hne : ((a.length : Int) != (b.length : Int)) = true := by simp; omega
    have HN := Lib.hid hn
    clear hn
    go_enter Tryd.func13, Tryd.ntmps13
    go_wp2
    go_ret
    exact ⟨by rw [decide_eq_false (fun h => HN.out (by rw [h]))]; rfl, Keeps.refl _ _⟩
end Go.Proofs.YtoldogkfeimojaaDoor.Hv
