/- One step of the proof of a statement of this seat: plain laws and walks of the store, log, journal and halves packages; no condition. -/
import Derived.Test.YtoldogkfeimojaaDoorHvLog2
set_option linter.unusedVariables false
set_option linter.unusedSimpArgs false
open Go.RowKit
namespace Go.Proofs.YtoldogkfeimojaaDoor.Hv
open Go.Proofs.Hv Go.Proofs.Mem

theorem E90 : Elem Tryd.prog 90 5 (.int .u8 0) 1 := elem_of Tryd.underlying90 (by kernel_rfl) rfl
def laidL (n b : Nat) : Bytes := (List.range b).map fun i => byteAt n (b - 1 - i)
theorem laidL_len (n b : Nat) : (laidL n b).length = b := by simp [laidL]

def partly (n b k : Nat) : List Value := (List.range b).map fun i => if i < k then Value.int .u8 ((byteAt n (b - 1 - i)).toNat : Int) else .int .u8 0
theorem partly_len (n b k : Nat) : (partly n b k).length = b := by simp [partly]
theorem partly_zero (n b : Nat) : List.replicate b (Value.int .u8 0) = partly n b 0 := by
  apply List.ext_getElem <;> simp [partly]
theorem partly_all (n b : Nat) : partly n b b = u8s (laidL n b) := by
  apply List.ext_getElem
  · simp [partly, u8s, laidL]
  · intro i h1 h2
    have : i < b := by simpa [partly] using h1
    simp [partly, u8s, laidL, this]
theorem partly_set (n b k : Nat) (z : Int) (hk : k < b) (hz : z = ((byteAt n (b - 1 - k)).toNat : Int)) : (partly n b k).set k (.int .u8 z) = partly n b (k + 1) := by
  apply List.ext_getElem
  · simp [partly]
  · intro i h1 h2
    have : i < b := by simpa [partly] using h2
    rw [List.getElem_set]
    simp only [partly, List.getElem_map, List.getElem_range]
    by_cases h : k = i
    · subst h; simp [hz]
    · rw [if_neg h]
      by_cases h' : i < k
      · rw [if_pos h', if_pos (by omega)]
      · rw [if_neg h', if_neg (by omega)]

theorem byteAt_int (n j : Nat) : (n : Int) / 2 ^ (8 * j) % 256 = ((byteAt n j).toNat : Int) := by
  unfold byteAt
  rw [UInt8.toNat_ofNat']
  rw [Int.natCast_emod, Int.natCast_ediv, Int.natCast_pow]
  rfl

set_option maxHeartbeats 400000 in
theorem laid_any (n b : Nat) (w : World) (hn : n < 4294967296) (hb : b ≤ 4) :
    Calls Tryd.prog 55 #[.int .u32 n, .int .i64 b] w fun e w' => e = .returned (str (laidL n b)) ∧ Below w.heap.size w w' := by
  go_enter Tryd.func55, Tryd.ntmps55
  go_wp2_with (refine wp_make E90 rfl _ _ rfl w.heap.size _ _ b rfl rfl rfl rfl (by omega) (by unfold maxLen; omega) (Nat.le_refl _) ?_)
  intro w1 hown1 hb1 hsz1
  rw [partly_zero n] at hown1
  have HS := Lib.hid (And.intro hown1 hb1)
  clear hown1 hb1
  go_wp2_with fail
  go_loopg [11] (b + 1) (fun f v wr => ∃ k : Nat, k + f = b + 1 ∧ k ≤ b ∧ v = .int .i64 k ∧ Own w.heap.size wr 5 (.slice (some ⟨w.heap.size, 0, none⟩) b b) (partly n b k) ∧ Below w.heap.size w wr)
  case atStart => exact ⟨0, by omega, by omega, rfl, HS.out.1, HS.out.2⟩
  case round =>
    obtain ⟨k, hk, hkb, rfl, hown, hbw⟩ := hrel
    by_cases hlt : k < b
    · have hf := Own.frozen hown (partly_len n b k).symm k
      obtain ⟨v0, hc⟩ : ∃ v0, wr.cell? ⟨w.heap.size, k, none⟩ = some v0 := ⟨_, Own.cell hown (partly_len n b k).symm k (by rw [partly_len]; exact hlt)⟩
      have HH := Lib.hid (And.intro hown hbw)
      clear hown hbw
      go_wp2
      obtain ⟨hown, hbw⟩ := HH.out
      go_roundg (gk - 1)
      case measure => omega
      case rel =>
        refine ⟨k + 1, by omega, by omega, by go_num, ?_, hbw.setCell (by simp) _⟩
        rw [← partly_set n b k _ hlt rfl]
        have := (Own.store hown (partly_len n b k).symm k (.int .u8 (byteAt n (b - 1 - k)).toNat)).1
        rw [byteAt_int]
        exact this
    · obtain rfl : k = b := by omega
      rw [partly_all] at hown
      obtain ⟨A, c, e, hr, _⟩ := hown.rd
      rw [u8s_length, laidL_len] at e
      cases e
      have HB := Lib.hid hbw
      clear hbw hown
      go_wp2_with (refine wp_text rfl _ _ _ _ rfl Tryd.underlying90 Tryd.underlying5 Tryd.underlying9 (laidL n k) _ k _ rfl (laidL_len n k).symm hr ?_)
      go_ret
      exact ⟨rfl, HB.out⟩
end Go.Proofs.YtoldogkfeimojaaDoor.Hv
