/- One step of the proof of a statement of this seat: plain laws and walks of the store, log, journal and halves packages; no condition. -/
import Derived.Test.YtoldogkfeimojaaDoorHvLog3
set_option linter.unusedVariables false
set_option linter.unusedSimpArgs false
open Go.RowKit
namespace Go.Proofs.YtoldogkfeimojaaDoor.Hv
open Go.Proofs.Hv Go.Proofs.Mem

attribute [local go_sem] bs_append
theorem ret_eq {a b : Value} (h : a = b) : Ending.returned a = .returned b := by rw [h]
theorem frame_laid (s : Bytes) : (1 :: (laidL s.length 2 ++ (laidL (crc s) 4 ++ (s ++ [1])))) = frameOf s := by
  simp [frameOf, laidL, List.range_succ]
def FrameYes (w : World) (s : Bytes) (e : Ending) (w' : World) : Prop := e = .returned (.tuple #[str (frameOf s), .int .i64 0]) ∧ Below w.heap.size w w'
def FrameNo (w : World) (e : Ending) (w' : World) : Prop := e = .returned (.tuple #[str [], .int .i64 3]) ∧ Below w.heap.size w w'
theorem frame_no (s : Bytes) (w : World) (hs : s.length ≤ 1000000) (h : okRec s = false) :
    Calls Tryd.prog 40 #[str s] w (FrameNo w) := by
  have h' : s = [] ∨ 400 < s.length := by
    simp [okRec] at h
    by_cases h0 : s = []
    · exact .inl h0
    · right
      have : 0 < s.length := List.length_pos_iff.2 h0
      omega
  clear h
  rcases h' with rfl | h'
  · go_enter Tryd.func40, Tryd.ntmps40
    go_wp2
    go_ret2
    exact ⟨rfl, Below.refl _ _⟩
  · have h0 : s.isEmpty = false := by cases s with | nil => simp at h' | cons => rfl
    have h1 : decide (s = []) = false := by cases s with | nil => simp at h' | cons => rfl
    go_enter Tryd.func40, Tryd.ntmps40
    go_wp2

    go_ret2
    exact ⟨rfl, Below.refl _ _⟩
set_option maxRecDepth 20000 in
set_option maxHeartbeats 400000 in
theorem frame_yes (s : Bytes) (w : World) (h : okRec s = true) :
    Calls Tryd.prog 40 #[str s] w (FrameYes w s) := by
  simp only [okRec, Bool.and_eq_true, decide_eq_true_eq] at h
  obtain ⟨h1, h2⟩ := h
  have h0 : s.isEmpty = false := by cases s with | nil => simp at h1 | cons => rfl
  have hl2 : (laidL s.length 2).length = 2 := laidL_len _ _
  have hl4 : (laidL (crc s) 4).length = 4 := laidL_len _ _
  go_enter Tryd.func40, Tryd.ntmps40
  go_wp2_with (refine wp_text rfl _ _ _ _ rfl Tryd.underlying90 Tryd.underlying5 Tryd.underlying9 [1] _ 1 _ rfl rfl (Blk.new w 5 [.int .u8 1]).rd ?_)
  go_wp2_with (go_at_call 55; refine (laid_any s.length 2 _ (by omega) (by omega)).mono ?_; rintro e w1 ⟨rfl, hb1⟩)
  go_wp2_with (go_at_call 56; refine (sum_any s _ (by omega)).mono ?_; rintro e w2 ⟨rfl, hb2⟩)
  go_wp2_with (go_at_call 55; refine (laid_any (crc s) 4 _ (crc_lt s) (by omega)).mono ?_; rintro e w3 ⟨rfl, hb3⟩)
  go_ret2
  exact ⟨ret_eq (by show Value.tuple #[str (1 :: (laidL s.length 2 ++ (laidL (crc s) 4 ++ (s ++ [1])))), .int .i64 0] = _; rw [frame_laid]), (((((Keeps.refl none' w).alloc _).below hb1).below hb2).below hb3).to_below0⟩

/-- what Frame answers -/
def frameV (s : Bytes) : Value := if okRec s then .tuple #[str (frameOf s), .int .i64 0] else .tuple #[str [], .int .i64 3]
def RetB (v : Value) (w : World) (e : Ending) (w' : World) : Prop := e = .returned v ∧ Below w.heap.size w w'
theorem frame_any (s : Bytes) (w : World) (hs : s.length ≤ 1000000) : Calls Tryd.prog 40 #[str s] w (RetB (frameV s) w) := by
  cases h : okRec s with
  | true => exact (frame_yes s w h).mono fun e w' ⟨h1, h2⟩ => ⟨by rw [h1]; simp [frameV, h], h2⟩
  | false => exact (frame_no s w hs h).mono fun e w' ⟨h1, h2⟩ => ⟨by rw [h1]; simp [frameV, h], h2⟩
end Go.Proofs.YtoldogkfeimojaaDoor.Hv
