/- One step of the proof of a statement of this seat: plain laws and walks of the store, log, journal and halves packages; no condition. -/
import Derived.Test.YtoldogkfeimojaaDoorHvLog5
import Derived.Test.YtoldogkfeimojaaDoorHvPlain1
set_option linter.unusedVariables false
set_option linter.unusedSimpArgs false
open Go.RowKit
namespace Go.Proofs.YtoldogkfeimojaaDoor.Hv
open Go.Proofs.Hv Go.Proofs.Mem

abbrev strs (l : List Bytes) : List Value := l.map str
theorem strs_length (l : List Bytes) : (strs l).length = l.length := by simp [strs]
theorem strs_one (l : List Bytes) : ∀ v ∈ strs l, v.oneCell' = true := by
  intro v hv
  obtain ⟨b, _, rfl⟩ := List.mem_map.1 hv
  rfl
theorem E32 : Elem Tryd.prog 32 9 (str []) 16 := elem_of Tryd.underlying32 (by kernel_rfl) rfl
/-- a list of strings, new -/
def RetStrs (w w' : World) (v : Value) (l : List Bytes) : Prop := Own w.heap.size w' 9 v (strs l) ∧ Below w.heap.size w w'
def ScanPost (w : World) (s : Bytes) (e : Ending) (w' : World) : Prop := ∃ v, e = .returned (.tuple #[v, .int .i64 ((scan s).2 : Nat)]) ∧ RetStrs w w' v (scan s).1

attribute [local go_sem] bs_append bs_get bs_extract
set_option maxRecDepth 20000 in
set_option maxHeartbeats 400000 in
theorem scan_any (s : Bytes) (w : World) (hs : s.length ≤ 1000000) : Calls Tryd.prog 33 #[str s] w (ScanPost w s) := by
  go_enter Tryd.func33, Tryd.ntmps33
  go_wp2_with fail
  go_loopg [4, 5] (s.length + 1) (fun f v4 v5 wr => ∃ (m : Nat) (l : List Bytes), m + f = s.length + 1 ∧ m ≤ s.length ∧ v5 = .int .i64 m ∧ l.length ≤ m ∧ Own w.heap.size wr 9 v4 (strs l) ∧ Below w.heap.size w wr ∧ scan s = (l ++ (scan (s.drop m)).1, m + (scan (s.drop m)).2))
  case atStart => exact ⟨0, [], by omega, by omega, rfl, by simp, Own.nil _ _ _, Below.refl _ _, by simp⟩
  case round =>
    obtain ⟨m, l, hm, hms, rfl, hl, hown, hbw, hsc⟩ := hrel
    have HH := Lib.hid (And.intro hown (And.intro hbw hsc))
    clear hown hbw hsc
    have hdl : (s.drop m).length ≤ 1000000 := by rw [List.length_drop]; omega
    go_wp2_with fail
    refine (one_any (s.drop m) wr hdl).mono ?_
    rintro e w1 ⟨hb1, ⟨r, hr, rfl⟩ | ⟨x, hx, rfl⟩⟩
    · obtain ⟨h9, h8⟩ : (s.drop m).length + m = s.length ∧ r.length + 8 ≤ (s.drop m).length ∧ r.length ≤ 400 := ⟨by rw [List.length_drop]; omega, by have := one_some hr; omega⟩
      have HR := Lib.hid hr
      clear hr
      have hrl := h8.2
      have hb1' : w.heap.size ≤ w1.heap.size := Nat.le_trans HH.out.2.1.size hb1.size
      go_wp2_with (at_builtin; refine wp_push (w := w1) E32 rfl _ _ rfl w.heap.size u4 (strs l) rfl (str r) rfl (HH.out.1.below hb1) rfl ?c1 (by decide) ?c2 ?_)
      case c1 => rw [strs_length]; omega
      case c2 => exact hb1'
      intro v4 w4 hown4 hgr4 hmv4
      go_wp2
      go_roundg (s.length + 1 - (m + (r.length + 8)))
      case measure => omega
      case rel =>
        obtain ⟨hown, hbw, hsc⟩ := HH.out
        refine ⟨m + (r.length + 8), l ++ [r], by omega, by omega, by go_num, by simp; omega, ?_, (hbw.trans (hb1.mono hbw.size)).grown hgr4 hb1' (fun k hk => (World.ownsRow.lt (hown.below hb1) k hk).1), ?_⟩
        · have e : strs (l ++ [r]) = strs l ++ [str r] := by simp [strs]
          rw [e]; exact hown4
        · rw [hsc, scan_some HR.out]
          simp only [List.append_assoc, List.singleton_append, List.drop_drop]
          exact Prod.ext rfl (by simp only; omega)
    · obtain ⟨hown, hbw, hsc⟩ := HH.out
      rw [scan_none hx] at hsc
      simp only [List.append_nil, Nat.add_zero] at hsc
      have HF := Lib.hid (show ScanPost w s (.returned (.tuple #[u4, .int .i64 (m : Int)])) w1 from ⟨u4, by rw [hsc], by rw [hsc]; exact ⟨hown.below hb1, hbw.trans (hb1.mono hbw.size)⟩⟩)
      clear hx hown hbw hsc
      go_wp2
      go_ret2
      exact HF.out
end Go.Proofs.YtoldogkfeimojaaDoor.Hv
