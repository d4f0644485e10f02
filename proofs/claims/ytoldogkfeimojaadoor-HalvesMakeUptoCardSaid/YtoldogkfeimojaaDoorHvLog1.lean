/- One step of the proof of a statement of this seat: plain laws and walks of the store, log, journal and halves packages; no condition. -/
import Derived.Test.YtoldogkfeimojaaDoorHvBase
import Derived.Test.YtoldogkfeimojaaDoorHvKeep
import Derived.Test.YtoldogkfeimojaaDoorHvModel
set_option linter.unusedVariables false
set_option linter.unusedSimpArgs false
open Go.RowKit
namespace Go.Proofs.YtoldogkfeimojaaDoor.Hv
open Go.Proofs.Hv Go.Proofs.Mem

theorem crcBit_lt {n : Nat} (h : n < 4294967296) : crcBit n < 4294967296 := by
  unfold crcBit
  split
  · exact Nat.xor_lt_two_pow (n := 32) (by omega) (by omega)
  · omega
theorem rep_lt {n : Nat} (h : n < 4294967296) (k : Nat) : Nat.repeat crcBit k n < 4294967296 := by
  induction k with
  | zero => exact h
  | succ k ih => exact crcBit_lt ih
theorem crcByte_lt {n : Nat} (h : n < 4294967296) (c : UInt8) : crcByte n c < 4294967296 :=
  rep_lt (Nat.xor_lt_two_pow (n := 32) h (by have := c.toNat_lt; omega)) 8

def StepPost (w : World) (g n : Nat) (e : Ending) (w' : World) : Prop := (∃ v, e = .returned v) ∧ Blk w' g 102 [.int .u32 n] ∧ Keeps (· = g) w w'

set_option maxHeartbeats 400000 in
theorem step_any (c : UInt8) (n g : Nat) (w : World) (hn : n < 4294967296) (hb : Blk w g 102 [.int .u32 n]) :
    Calls Tryd.prog 66 #[.int .u8 c.toNat, .pointer (some ⟨g, 0, none⟩)] w (StepPost w g (crcByte n c)) := by
  have hc := hb.cell0
  have hf := hb.free 0
  have hcl := c.toNat_lt
  have hx := u32_xor n (c.toNat % 4294967296 : Nat) (by omega) (by omega) (by omega) (by omega)
  rw [Int.toNat_natCast, Int.toNat_natCast, Nat.mod_eq_of_lt (by omega : c.toNat < 4294967296)] at hx
  have hxl : n ^^^ c.toNat < 4294967296 := Nat.xor_lt_two_pow (n := 32) hn (by omega)
  have HB := Lib.hid hb
  clear hb
  have hmod : ((c.toNat : Nat) : Int) % 4294967296 = (c.toNat : Int) := by omega
  go_enter Tryd.func66, Tryd.ntmps66
  go_wp2
  go_loopg [8] 9 (fun f v wr => ∃ k : Nat, k + f = 9 ∧ k ≤ 8 ∧ v = .int .i64 k ∧ Blk wr g 102 [.int .u32 (Nat.repeat crcBit k (n ^^^ c.toNat) : Nat)] ∧ Keeps (· = g) w wr)
  case atStart => exact ⟨0, by omega, by omega, rfl, HB.out.set 0 _, (Keeps.refl _ w).setCell (by simp) _⟩
  case round =>
    obtain ⟨k, hk, hk8, rfl, hb, hkp⟩ := hrel
    clear hc hf hmod
    by_cases hlt : k < 8
    · have hml := rep_lt hxl k
      have hs : Nat.repeat crcBit (k + 1) (n ^^^ c.toNat) = crcBit (Nat.repeat crcBit k (n ^^^ c.toNat)) := rfl
      generalize Nat.repeat crcBit k (n ^^^ c.toNat) = m at hb hml hs
      have HS := Lib.hid hs
      have hc := hb.cell0
      have hf := hb.free 0
      have HBB := Lib.hid hb
      clear hs hb hx
      have hA : bits .and .u32 (m : Int) 1 = ((m % 2 : Nat) : Int) := by
        have := u32_and_nat m 1 hml (by omega)
        rw [Nat.and_one_is_mod] at this
        exact this
      by_cases hp : m % 2 = 1
      · have hX : bits .xor .u32 ((m : Int) / 2) 3988292384 = ((crcBit m : Nat) : Int) := by
          have hv : crcBit m = (m / 2) ^^^ 3988292384 := by unfold crcBit; rw [if_pos hp]
          rw [hv]; exact u32_xor_nat (m / 2) 3988292384 (by omega) (by omega)
        rw [hp] at hA
        clear hp
        go_wp2
        go_roundg (gk - 1)
        case measure => omega
        case rel => exact ⟨k + 1, by omega, by omega, by go_num, by rw [HS.out]; exact HBB.out.set 0 _, hkp.setCell (by simp) _⟩
      · have hX : bits .xor .u32 ((m : Int) / 2) 0 = ((crcBit m : Nat) : Int) := by
          have hv : crcBit m = (m / 2) ^^^ 0 := by unfold crcBit; rw [if_neg hp]; simp
          rw [hv]; exact u32_xor_nat (m / 2) 0 (by omega) (by omega)
        rw [show m % 2 = 0 by omega] at hA
        clear hp
        go_wp2
        go_roundg (gk - 1)
        case measure => omega
        case rel => exact ⟨k + 1, by omega, by omega, by go_num, by rw [HS.out]; exact HBB.out.set 0 _, hkp.setCell (by simp) _⟩
    · obtain rfl : k = 8 := by omega
      have HBB := Lib.hid hb
      clear hb
      go_wp2
      go_end0
      exact ⟨⟨_, rfl⟩, HBB.out, hkp⟩
end Go.Proofs.YtoldogkfeimojaaDoor.Hv
