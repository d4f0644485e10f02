/- One step of the proof of a statement of this seat: plain laws and walks of the ring package; no condition. -/
import Derived.Test.YthdbkilncddniaaW23
import Derived.Deep.OwnRows
set_option linter.unusedVariables false
set_option linter.unusedSimpArgs false
open Go.RowKit
namespace Go.Proofs.Ythdbkilncddniaa.Ring
open RingM Go.Proofs.Mem


section
variable {P : Program} {w : World} {a : Addr} {m : Mode}
theorem run_store_func (f : Fn) (x y : Array Value) : (store a (.func f x y) m).run P w = stored P w a (.func f x y) m := run_store P w a _ m rfl
end
attribute [local go_sem] run_store_func

/-- the eleven blocks of a search -/
def ringWorld (w : World) (A : Option Addr) (c : Nat) (n : Net) : World :=
  ((((((((((w.alloc (.cells #[.slice A n.length c] 23)).alloc (.cells #[.slice none 0 0] 22)).alloc (.cells (madeCells #[.int .i64 0] n.length) 3)).alloc (.cells #[.slice (some ⟨w.heap.size + 2, 0, none⟩) n.length n.length] 26)).alloc
    (.cells (madeCells #[.int .i64 0] n.length) 3)).alloc (.cells #[.slice (some ⟨w.heap.size + 4, 0, none⟩) n.length n.length] 26)).alloc (.cells (madeCells #[.bool false] n.length) 4)).alloc (.cells #[.slice (some ⟨w.heap.size + 6, 0, none⟩) n.length n.length] 41)).alloc
    (.cells #[.slice none 0 0] 26)).alloc (.cells #[.int .i64 0] 3)).alloc (.cells #[.func (.func 17) #[] (caps w.heap.size)] 42)
theorem ringWorld_heap (w : World) (A : Option Addr) (c : Nat) (n : Net) : (ringWorld w A c n).heap = w.heap ++ #[.cells #[.slice A n.length c] 23, .cells #[.slice none 0 0] 22, .cells (madeCells #[.int .i64 0] n.length) 3, .cells #[.slice (some ⟨w.heap.size + 2, 0, none⟩) n.length n.length] 26,
    .cells (madeCells #[.int .i64 0] n.length) 3, .cells #[.slice (some ⟨w.heap.size + 4, 0, none⟩) n.length n.length] 26, .cells (madeCells #[.bool false] n.length) 4, .cells #[.slice (some ⟨w.heap.size + 6, 0, none⟩) n.length n.length] 41,
    .cells #[.slice none 0 0] 26, .cells #[.int .i64 0] 3, .cells #[.func (.func 17) #[] (caps w.heap.size)] 42] := by
  apply Array.ext'
  simp only [ringWorld, World.alloc, Array.toList_push, Array.toList_append, List.append_assoc, List.cons_append, List.nil_append]
theorem own_made (w : World) (base g n : Nat) (e : TypeId) (z : Value) (h : w.heap[g]? = some (.cells (madeCells #[z] n) e)) (hb : base ≤ g) (hm : n ≤ maxLen) : Own base w e (.slice (some ⟨g, 0, none⟩) n n) (List.replicate n z) := by
  unfold Own
  rw [List.length_replicate]
  refine ⟨by simp, .inr ⟨g, n, madeCells #[z] n, rfl, hb, h, Nat.le_refl _, hm, by simp [madeCells], ?_⟩⟩
  have := madeCells_one z n
  rw [Nat.mul_one] at this
  rw [this]
  simp
theorem vst_start (w : World) (A : Option Addr) (c : Nat) (n : Net) (hl : n.length ≤ 24) : VSt w A c n (RingM.start n) (.slice none 0 0) (.slice none 0 0) [] (ringWorld w A c n) := by
  have hh := ringWorld_heap w A c n
  have hg : ∀ k, (ringWorld w A c n).heap[w.heap.size + k]? = (#[.cells #[.slice A n.length c] 23, .cells #[.slice none 0 0] 22, .cells (madeCells #[.int .i64 0] n.length) 3, .cells #[.slice (some ⟨w.heap.size + 2, 0, none⟩) n.length n.length] 26,
    .cells (madeCells #[.int .i64 0] n.length) 3, .cells #[.slice (some ⟨w.heap.size + 4, 0, none⟩) n.length n.length] 26, .cells (madeCells #[.bool false] n.length) 4, .cells #[.slice (some ⟨w.heap.size + 6, 0, none⟩) n.length n.length] 41,
    .cells #[.slice none 0 0] 26, .cells #[.int .i64 0] 3, .cells #[.func (.func 17) #[] (caps w.heap.size)] 42] : Array Obj)[k]? := fun k => by
    rw [hh, Array.getElem?_append_right (by omega)]
    simp
  have hsz : (ringWorld w A c n).heap.size = w.heap.size + 11 := by rw [hh]; simp
  have hm : n.length ≤ maxLen := by unfold maxLen; omega
  refine ⟨⟨rfl, rfl, rfl, by omega, fun k hk => ?_⟩, hg 0, hg 1, hg 3, hg 5, hg 7, hg 8, hg 9, hg 10, ?_, ?_, ?_, ?_, ⟨rfl, ?_, fun i hi => absurd hi (by simp)⟩, fun i hi => absurd hi (by simp), by omega⟩
  · rw [hh, Array.getElem?_append_left hk]
  · have := own_made _ w.heap.size _ n.length 3 (.int .i64 0) (hg 2) (by omega) hm
    simpa [vints, RingM.start] using this
  · have := own_made _ w.heap.size _ n.length 3 (.int .i64 0) (hg 4) (by omega) hm
    simpa [vints, RingM.start] using this
  · have := own_made _ w.heap.size _ n.length 4 (.bool false) (hg 6) (by omega) hm
    simpa [bools, RingM.start] using this
  · exact Own.nil _ _ _
  · exact Own.nil _ _ _

def RingsPost (w : World) (n : Net) (e : Ending) (w' : World) : Prop := ∃ v ro, e = .returned v ∧ OwnOut w.heap.size w' v ro (rings n) ∧ Below w.heap.size w w'
/-- in the loop over all points -/
def OutRel (w : World) (A : Option Addr) (c : Nat) (n : Net) (s1 : St) (g : Nat) (v23 : Value) (wr : World) : Prop :=
  ∃ (i : Nat) (s : St) (vs vo : Value) (ro : List Value), i + g = n.length + 1 ∧ i ≤ n.length ∧ v23 = .int .i64 i ∧ visits n (n.length + 1) ((List.range n.length).drop i) s = some s1 ∧ Wf n 0 s ∧ VSt w A c n s vs vo ro wr

set_option maxHeartbeats 4000000 in
set_option maxRecDepth 100000 in
theorem rings_any (w : World) (A : Option Addr) (c : Nat) (n : Net) (hs : Small n) (hA : RdN w A n) :
    Calls Try.prog 9 #[.slice A n.length c] w (RingsPost w n) := by
  have hl := hs.len
  obtain ⟨out, hraw, hne, hpw, htold⟩ := raw_told n
  unfold ringsRaw at hraw
  rw [Option.map_eq_some_iff] at hraw
  obtain ⟨s1, hvis, hout⟩ := hraw
  have hrings : rings n = sortL s1.out := by
    unfold rings ringsRaw
    rw [hvis, hout]
    simp [hout]
  rw [← hout] at hne hpw
  have HR := Lib.hid hrings
  have HNE := Lib.hid hne
  have HPW := Lib.hid hpw
  have HV := Lib.hid hvis
  clear hrings hne hpw hvis htold hout
  obtain ⟨i26, h2, h3, h4, h5⟩ := E26.info
  obtain ⟨i41, k2, k3, k4, k5⟩ := E41.info
  go_enter Try.func9, Try.ntmps9
  go_wp2_with (first | (refine wpList_make_row _ rfl _ _ 26 rfl 3 i26 (.int .i64 0) E26.und h2 h3 h4 E26.cell .i64 .i64 n.length rfl rfl (by rw [h5]; omega) (by omega) ?_) | (refine wpList_make_row _ rfl _ _ 41 rfl 4 i41 (.bool false) E41.und k2 k3 k4 E41.cell .i64 .i64 n.length rfl rfl (by rw [k5]; omega) (by omega) ?_))
  have hst := vst_start w A c n hl
  show Code.wp Try.prog _ _ _ (ringWorld w A c n)
  generalize ringWorld w A c n = W at hst ⊢
  simp only [Nat.add_assoc, Nat.reduceAdd]
  have hst0 : OutRel w A c n s1 (n.length + 1) (.int .i64 0) W := ⟨0, RingM.start n, _, _, _, by omega, by omega, rfl, HV.out, wf_start n, hst⟩
  have HST0 := Lib.hid hst0
  clear hst hst0 HV h2 h3 h4 h5 k2 k3 k4 k5
  go_loopg [23] (n.length + 1) (fun g v23 wr => OutRel w A c n s1 g v23 wr)
  case atStart => exact HST0.out
  case round =>
    obtain ⟨i, s, vs, vo, ro, hif, hi, rfl, hrun, hwf, hst⟩ := hrel
    by_cases hlt : i < n.length
    · have hd : (List.range n.length).drop i = i :: (List.range n.length).drop (i + 1) := by
        rw [List.drop_eq_getElem_cons (by simpa using hlt)]
        simp
      rw [hd] at hrun
      unfold visits at hrun
      have c3 := hst.ibox.cell
      have c10 := hst.vbox.cell
      have hI := vints_at hst.idx hwf.lenI.symm (i := i) (by rw [hwf.lenI]; exact hlt)
      by_cases h0 : s.idx.getD i 0 = 0
      · rw [if_pos h0, Option.bind_eq_some_iff] at hrun
        obtain ⟨s2, hv2, hrun⟩ := hrun
        rw [h0] at hI
        have hcall := visit_any w A c n hs hA (n.length + 1) 0 i s s2 vs vo ro wr hv2 hwf hlt h0 hst
        obtain ⟨hwf2, _, _⟩ := wf_visit (n.length + 1) 0 i s s2 hwf hlt h0 hv2
        have HRUN := Lib.hid hrun
        have HWF := Lib.hid hwf2
        simp only [caps, List.append_toArray, List.cons_append, List.nil_append] at hcall c10
        clear hrun hwf2 hwf hv2 hst hd h0
        go_wp2_with (go_at_call 17; refine hcall.mono ?_; rintro e w7 ⟨rfl, vs7, vo7, ro7, hst7, hk7, hm7, hmo7⟩)
        go_roundg (gk - 1)
        case measure => omega
        case rel => exact ⟨i + 1, s2, vs7, vo7, ro7, by omega, by omega, by go_num, HRUN.out, HWF.out, hst7⟩
      · rw [if_neg h0] at hrun
        have h0' : (((s.idx.getD i 0 : Nat) : Int) == 0) = false := by rw [beq_eq_false_iff_ne]; exact fun e => h0 (by omega)
        generalize s.idx.getD i 0 = xi at hI h0'
        have HRUN := Lib.hid hrun
        have HWF := Lib.hid hwf
        have HST := Lib.hid hst
        clear hrun hwf hst hd h0
        go_wp2_with fail
        go_roundg (gk - 1)
        case measure => omega
        case rel => exact ⟨i + 1, s, vs, vo, ro, by omega, by omega, by go_num, HRUN.out, HWF.out, HST.out⟩
    · have hie : i = n.length := by omega
      have hs1 : s = s1 := by
        rw [hie, List.drop_eq_nil_of_le (by simp)] at hrun
        simpa [visits] using hrun
      subst hs1
      have hstk := hwf_stk hwf
      have hsort := sortFunc_any (w.heap.size + 11) vo ro s.out wr hst.out HNE.out HPW.out (by omega)
      have c1 := hst.obox.cell
      have hc17 : ∀ w7, wr.grownBy w7 vo.ownBlock → w7.cell? ⟨w.heap.size + 1, 0, none⟩ = some vo := fun w7 hg =>
        hg.cell (a := ⟨w.heap.size + 1, 0, none⟩) c1 (by
          rcases ownBlock_ne hst.out.top (g := w.heap.size + 1) (by omega) with e | e
          · rw [e]; simp
          · exact Ne.symm e)
      have HST := Lib.hid hst
      clear hrun hwf hst
      go_wp2_with (go_at_call 22; refine hsort.mono ?_; rintro e w7 ⟨rfl, ro', hown, hgr⟩; have c17 := hc17 w7 hgr)
      go_ret
      rw [← HR.out] at hown
      have hst := HST.out
      exact ⟨vo, ro', rfl, ⟨hown.len, Own.base hown.top (by omega), fun i hi => Own.base (hown.rows i hi) (by omega)⟩, hst.old.grown hgr (by have := hst.size; omega) fun k hk => by have := (World.ownsRow.lt hst.out.top k hk).1; omega⟩
end Go.Proofs.Ythdbkilncddniaa.Ring
