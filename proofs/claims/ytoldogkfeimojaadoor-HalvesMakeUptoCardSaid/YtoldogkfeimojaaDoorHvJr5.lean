/- One step of the proof of a statement of this seat: plain laws and walks of the store, log, journal and halves packages; no condition. -/
import Derived.Test.YtoldogkfeimojaaDoorHvJr4
set_option linter.unusedVariables false
set_option linter.unusedSimpArgs false
open Go.RowKit
namespace Go.Proofs.YtoldogkfeimojaaDoor.Hv
open Go.Proofs.Hv Go.Proofs.Mem

def RetList (w : World) (l : List Bytes) (e : Ending) (w' : World) : Prop := ∃ v, e = .returned v ∧ RetStrs w w' v l
theorem clone_rd (A : Option Addr) (n c : Nat) (l : List Bytes) (w : World) (hn : n = l.length) (hr : Rd w A (strs l)) (hl : l.length ≤ 1000000) :
    Calls Tryd.prog 28 #[.slice A n c] w (RetList w l) := by
  subst hn
  cases A with
  | none =>
    have h0 : l = [] := by
      cases l with
      | nil => rfl
      | cons x r => obtain ⟨b, o, h, _⟩ := hr.at_ 0 (by simp); cases h
    subst h0
    refine (Tryd.slices_Clone_string_nil _ c w).mono ?_
    rintro e w' ⟨rfl, rfl⟩
    exact ⟨_, rfl, Mem.Own.nil _ _ _, Below.refl _ _⟩
  | some a =>
    by_cases h0 : l = []
    · subst h0
      refine (Tryd.slices_Clone_string_zero a c w).mono ?_
      rintro e w' ⟨v, rfl, ho, _, hb⟩
      exact ⟨v, rfl, ho, hb⟩
    · obtain ⟨b, o, e, hc⟩ := hr.at_ 0 (by rw [strs_length]; exact List.length_pos_iff.2 h0)
      cases e
      refine (Tryd.slices_Clone_string b o l.length c (l.map fun x => ⟨x.toArray⟩) w (by simp) (by omega) (fun j hj => ?_)).mono ?_
      · have hj' : j < l.length := by simpa using hj
        have := hc j (by rw [strs_length]; exact hj')
        rw [this]
        simp [strs, List.getD_eq_getElem?_getD, hj']
      · rintro e w' ⟨v, rfl, ho, _, hb⟩
        refine ⟨v, rfl, ?_, hb⟩
        unfold Mem.Own
        rw [strs_length]
        have e2 : ((l.map fun x => (⟨x.toArray⟩ : ByteArray)).take l.length).map Value.string = strs l := by
          rw [List.take_of_length_le (by simp), List.map_map]; rfl
        rw [← e2]
        exact ho
theorem clone_own (base : Nat) (v : Value) (l : List Bytes) (w : World) (h : Mem.Own base w 9 v (strs l)) (hl : l.length ≤ 1000000) :
    Calls Tryd.prog 28 #[v] w (RetList w l) := by
  obtain ⟨A, c, rfl, hr, _⟩ := h.rd
  exact clone_rd A _ c l w (strs_length l) hr hl

set_option maxHeartbeats 400000 in
set_option maxRecDepth 20000 in
theorem look_any (w : World) (p g b n : Nat) (s : Sto) (h : StoAt w p g s) (ho : PartOk s b n) :
    Calls Tryd.prog 21 #[ptr p, .int .i64 (b : Int), .int .i64 (n : Int)] w (RetList w (Hv.look b n s)) := by
  have hlen : (partBytes s b n).length ≤ 1000000 := by
    have := h.wf.hi; have := ho.le
    rw [partBytes_len h.wf b n ho.le]; omega
  have HH := Lib.hid (And.intro h ho)
  clear h ho
  go_enter Tryd.func21, Tryd.ntmps21
  go_wp2_with fail
  refine (is_any _ p g b n s (HH.out.1.alloc _) HH.out.2).mono ?_
  rintro e w1 ⟨rfl, hb1⟩
  have hst1 : StoAt w1 p g s := (HH.out.1.alloc _).below hb1
  have hB1 : Blk w1 w.heap.size 67 [ptr p, .int .i64 (b : Int), .int .i64 (n : Int)] := (Blk.new w _ _).below hb1
  have c0 := hB1.cell0
  have c1 := hB1.cell1
  have c2 := hB1.cell2
  have HK := Lib.hid (And.intro hst1 (((Keeps.refl none' w).alloc _).below hb1))
  clear hst1 hB1 hb1
  go_wp2_with fail
  refine (pbytes_any w1 p g b n s HK.out.1 HH.out.2).mono ?_
  rintro e w2 ⟨rfl, hb2⟩
  have HK2 := Lib.hid (HK.out.2.below hb2)
  clear c0 c1 c2 hb2
  go_wp2_with fail
  refine (scan_any (partBytes s b n) w2 hlen).mono ?_
  rintro e w3 ⟨v, rfl, hown, hb3⟩
  have HR : Hid (RetStrs w w3 v (Hv.look b n s)) := ⟨hown.base HK2.out.size, (HK2.out.below hb3).to_below0⟩
  clear hown hb3
  go_wp2
  go_ret
  exact ⟨v, rfl, HR.out⟩
end Go.Proofs.YtoldogkfeimojaaDoor.Hv
