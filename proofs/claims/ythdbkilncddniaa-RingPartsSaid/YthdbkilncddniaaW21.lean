/- One step of the proof of a statement of this seat: plain laws and walks of the ring package; no condition. -/
import Derived.Test.YthdbkilncddniaaW17
import Derived.Test.YthdbkilncddniaaW20
import Derived.Deep.LoopGhost
set_option linter.unusedVariables false
set_option linter.unusedSimpArgs false
open Go.RowKit
namespace Go.Proofs.Ythdbkilncddniaa.Ring
open RingM Go.Proofs.Mem

/-- where the loop over a point's ways ends -/
def LoopEnd (w0 : World) (A : Option Addr) (c : Nat) (n : Net) (v : Nat) (s0 s1 : St) (k : Nat) (vs0 vo0 : Value) (w wr : World) : Prop :=
  ∃ (vs vo : Value) (ro : List Value), Wf n (k + 1) s1 ∧ (∃ zs, s1.stk = s0.stk ++ v :: zs) ∧ VSt w0 A c n s1 vs vo ro wr ∧ Keep w0.heap.size vs0 vo0 w wr ∧ Moves w vs0 vs ∧ Moves w vo0 vo

def VisitAll (w0 : World) (A : Option Addr) (c : Nat) (n : Net) (f : Nat) : Prop := ∀ (k v : Nat) (s s' : St) (vs vo : Value) (ro : List Value) (w : World),
    visit n f v s = some s' → Wf n k s → v < n.length → s.I v = 0 → VSt w0 A c n s vs vo ro w →
    Calls Try.prog 17 (#[.int .i64 (v : Int)] ++ caps w0.heap.size) w (VisitPost w0 A c n s' vs vo w)

/-- the frame of the loop -/
def frame17 (w0 : World) (n : Net) (v : Nat) (A2 : Option Addr) (c2 : Nat) (u37 : Value) (t : Nat → Value) : Act := ⟨#[.int .i64 (v : Int), ptr (w0.heap.size + 9), ptr (w0.heap.size + 3), ptr (w0.heap.size + 5), ptr (w0.heap.size + 7), ptr (w0.heap.size + 8), ptr w0.heap.size, ptr (w0.heap.size + 10), ptr (w0.heap.size + 1), t 9, t 10, t 11, t 12, t 13, t 14, t 15, t 16, t 17, t 18, t 19, t 20, t 21, t 22, t 23, t 24, t 25, t 26, t 27, t 28, t 29, t 30, t 31, t 32, t 33, t 34, .slice A2 (waysN n v).length c2, .int .i64 ((waysN n v).length : Int), u37, t 38, t 39, t 40, t 41, t 42, t 43, t 44, t 45, t 46, t 47, t 48, t 49, t 50, t 51, t 52, t 53, t 54, t 55, t 56, t 57, t 58, t 59, t 60, t 61, t 62, t 63, t 64, t 65, t 66, t 67, t 68, t 69, t 70, t 71, t 72, t 73, t 74, t 75, t 76, t 77, t 78, t 79, t 80, t 81, t 82, t 83, t 84, t 85, t 86, t 87, t 88, t 89, t 90, t 91, t 92, t 93, t 94, t 95, t 96, t 97, t 98, t 99, t 100, t 101, t 102, t 103, t 104, t 105, t 106, t 107, t 108, t 109, t 110, t 111, t 112, t 113, t 114], []⟩

def LoopI (w0 : World) (A : Option Addr) (c : Nat) (n : Net) (f v : Nat) (s0 s1 : St) (k : Nat) (vs0 vo0 : Value) (w : World) (A2 : Option Addr) (c2 : Nat) (g : Nat) (a : Act) (wr : World) : Prop :=
  ∃ (t : Nat → Value) (u37 : Value), a = frame17 w0 n v A2 c2 u37 t ∧ VisRel w0 A c n f v s0 s1 k vs0 vo0 w A2 g u37 wr

set_option maxHeartbeats 4000000 in
set_option maxRecDepth 100000 in
theorem loop17 (w0 w wq : World) (A A2 : Option Addr) (c c2 : Nat) (n : Net) (f k v : Nat) (s0 s1 : St) (vs0 vo0 : Value) (Q : Exit → Act → World → Prop) (t : Nat → Value)
    (hs : Small n) (hv : v < n.length) (ih : VisitAll w0 A c n f) (hstart : VisRel w0 A c n f v s0 s1 k vs0 vo0 w A2 ((waysN n v).length + 1) (.int .i64 0) wq)
    (hend : ∀ (t : Nat → Value) (u37 : Value) (wr : World), LoopEnd w0 A c n v s0 s1 k vs0 vo0 w wr → Q (.exit 0) (frame17 w0 n v A2 c2 u37 t) wr) :
    Code.wp Try.prog (.loop body17) Q (frame17 w0 n v A2 c2 (.int .i64 0) t) wq := by
  refine wp_loop_ghost (LoopI w0 A c n f v s0 s1 k vs0 vo0 w A2 c2) ((waysN n v).length + 1) ⟨t, _, rfl, hstart⟩ ?_
  rintro g a wr ⟨t, u37, rfl, hrel⟩
  obtain ⟨i, sx, vs, vo', ro', hif, hi, rfl, hrun, hwf, hzs, hst, hrd, hap, hkeep, hms, hmo⟩ := hrel
  have hl := hs.len
  have hwl := ways_small hs v
  by_cases hlt : i < (waysN n v).length
  · obtain ⟨x, hxd⟩ : ∃ x, x = (waysN n v)[i] := ⟨_, rfl⟩
    have hx : x < n.length := by rw [hxd]; exact ways_lt (List.getElem_mem hlt)
    obtain ⟨b2, o2, rfl, hc2⟩ := hrd.at_ i (by rw [vints_length]; exact hlt)
    have hci : wr.cell? ⟨b2, o2 + i, none⟩ = some (.int .i64 (x : Int)) := by
      rw [hc2 i (by rw [vints_length]; exact hlt), hxd]
      simp [vints]
    rw [drop_cons hlt, ← hxd] at hrun
    unfold each at hrun
    have hI := vints_at hst.idx hwf.lenI.symm (i := x) (by rw [hwf.lenI]; exact hx)
    have hap' := hap _ rfl
    simp only at hap'
    by_cases hx0 : sx.idx.getD x 0 = 0
    · rw [if_pos hx0, Option.bind_eq_some_iff] at hrun
      obtain ⟨s2, hv2, hrun⟩ := hrun
      rw [hx0] at hI
      have hcall := ih (k + 1) x sx s2 vs vo' ro' wr hv2 hwf hx hx0 hst
      obtain ⟨hwf2, hys, hmo2⟩ := wf_visit f (k + 1) x sx s2 hwf hx hx0 hv2
      refine round_new w0 wr n v x i b2 o2 c2 _ _ (fun w7 => ∃ vs7 vo7 ro7, VSt w0 A c n s2 vs7 vo7 ro7 w7 ∧ Keep w0.heap.size vs vo' wr w7 ∧ Moves wr vs vs7 ∧ Moves wr vo' vo7) (t 9) (t 10) (t 11) (t 12) (t 13) (t 14) (t 15) (t 16) (t 17) (t 18) (t 19) (t 20) (t 21) (t 22) (t 23) (t 24) (t 25) (t 26) (t 27) (t 28) (t 29) (t 30) (t 31) (t 32) (t 33) (t 34) (t 38) (t 39) (t 40) (t 41) (t 42) (t 43) (t 44) (t 45) (t 46) (t 47) (t 48) (t 49) (t 50) (t 51) (t 52) (t 53) (t 54) (t 55) (t 56) (t 57) (t 58) (t 59) (t 60) (t 61) (t 62) (t 63) (t 64) (t 65) (t 66) (t 67) (t 68) (t 69) (t 70) (t 71) (t 72) (t 73) (t 74) (t 75) (t 76) (t 77) (t 78) (t 79) (t 80) (t 81) (t 82) (t 83) (t 84) (t 85) (t 86) (t 87) (t 88) (t 89) (t 90) (t 91) (t 92) (t 93) (t 94) (t 95) (t 96) (t 97) (t 98) (t 99) (t 100) (t 101) (t 102) (t 103) (t 104) (t 105) (t 106) (t 107) (t 108) (t 109) (t 110) (t 111) (t 112) (t 113) (t 114) hl hx hv hlt hwl hci hst.ibox.cell hst.vbox.cell hI (hcall.mono fun e w' h => ⟨h.1, h.2⟩) ?_
      rintro w7 ⟨vs7, vo7, ro7, hst7, hk7, hm7, hmo7⟩
      refine ⟨hst7.lbox.cell, _, _, vints_at hst7.low hwf2.lenL.symm (i := v) (by rw [hwf2.lenL]; exact hv), vints_at hst7.low hwf2.lenL.symm (i := x) (by rw [hwf2.lenL]; exact hx), Own.frozen hst7.low (by rw [vints_length]; exact hwf2.lenL.symm) v, ?_⟩
      intro y9 y10 y11 y12 y13 y14 y15 y16 y17 y18 y19 y20 y21 y22 y23 y24 y25 y26 y27 y28 y29 y30 y31 y32 y33 y34 y38 y39 y40 y41 y42 y43 y44 y45 y46 y47 y48 y49 y50 y51 y52 y53 y54 y55 y56 y57 y58 y59 y60 y61 y62 y63 y64 y65 y66 y67 y68 y69 y70 y71 y72 y73 y74 y75 y76 y77 y78 y79 y80 y81 y82 y83 y84 y85 y86 y87 y88 y89 y90 y91 y92 y93 y94 y95 y96 y97 y98 y99 y100 y101 y102 y103 y104 y105 y106 y107 y108 y109 y110 y111 y112 y113 y114 z hz
      have hk8 : Keep w0.heap.size vs7 vo7 w7 (w7.setCell ⟨w0.heap.size + 4, v, none⟩ (.int .i64 z)).drew := keep_low _ _ _ _ (by omega)
      refine ⟨g - 1, by omega, (fun j => [.int .i64 0, .int .i64 0, .int .i64 0, .int .i64 0, .int .i64 0, .int .i64 0, .int .i64 0, .int .i64 0, .int .i64 0, y9, y10, y11, y12, y13, y14, y15, y16, y17, y18, y19, y20, y21, y22, y23, y24, y25, y26, y27, y28, y29, y30, y31, y32, y33, y34, .int .i64 0, .int .i64 0, .int .i64 0, y38, y39, y40, y41, y42, y43, y44, y45, y46, y47, y48, y49, y50, y51, y52, y53, y54, y55, y56, y57, y58, y59, y60, y61, y62, y63, y64, y65, y66, y67, y68, y69, y70, y71, y72, y73, y74, y75, y76, y77, y78, y79, y80, y81, y82, y83, y84, y85, y86, y87, y88, y89, y90, y91, y92, y93, y94, y95, y96, y97, y98, y99, y100, y101, y102, y103, y104, y105, y106, y107, y108, y109, y110, y111, y112, y113, y114].getD j (.int .i64 0)), .int .i64 (i + 1 : Nat), rfl, i + 1, s2.lower v (s2.low.getD x 0), vs7, vo7, ro7, by omega, by omega, rfl, hrun, hwf2.lower _ _, ?_, vst_low hst7 hwf2.lenL v _ _ hz, ?_, ?_, (hkeep.trans hms hmo hk7).to ?_, Moves.trans hms hkeep.size hm7, Moves.trans hmo hkeep.size hmo7⟩
      · obtain ⟨zs, hzs⟩ := hzs
        obtain ⟨ys, hys⟩ := hys
        exact ⟨zs ++ ys, by show s2.stk = _; rw [hys, hzs]; simp⟩
      · exact hk8.rd (hk7.rd hrd (fun a ha => (hap a ha).1) (fun a ha => (hap a ha).2.1) (fun a ha => (hap a ha).2.2.1)) (fun a ha => (hap a ha).1) (fun a ha => hm7 _ (hap a ha).2.2.2 (hap a ha).2.1) (fun a ha => hmo7 _ (hap a ha).2.2.2 (hap a ha).2.2.1)
      · intro a ha
        have h4 := (hap a ha).2.2.2
        exact ⟨(hap a ha).1, hm7 _ h4 (hap a ha).2.1, hmo7 _ h4 (hap a ha).2.2.1, Nat.lt_of_lt_of_le h4 (Nat.le_trans hk7.size hk8.size)⟩
      · exact keep_low _ _ _ _ (by omega)
    · rw [if_neg hx0] at hrun
      have hx0' : (((sx.idx.getD x 0 : Nat) : Int) == 0) = false := by rw [beq_eq_false_iff_ne]; exact fun e => hx0 (by omega)
      have hO : wr.cell? ⟨w0.heap.size + 6, x, none⟩ = some (.bool (sx.opn.getD x false)) := by
        rw [Own.cell hst.opn (by rw [bools_length, hwf.lenO]) x (by rw [bools_length, hwf.lenO]; exact hx)]
        simp [bools, List.getD_eq_getElem?_getD, hwf.lenO, hx]
      by_cases ho : sx.opn.getD x false = true
      · rw [if_pos ho] at hrun
        rw [ho] at hO
        refine round_open w0 wr n v x i _ _ b2 o2 c2 _ _ (t 9) (t 10) (t 11) (t 12) (t 13) (t 14) (t 15) (t 16) (t 17) (t 18) (t 19) (t 20) (t 21) (t 22) (t 23) (t 24) (t 25) (t 26) (t 27) (t 28) (t 29) (t 30) (t 31) (t 32) (t 33) (t 34) (t 38) (t 39) (t 40) (t 41) (t 42) (t 43) (t 44) (t 45) (t 46) (t 47) (t 48) (t 49) (t 50) (t 51) (t 52) (t 53) (t 54) (t 55) (t 56) (t 57) (t 58) (t 59) (t 60) (t 61) (t 62) (t 63) (t 64) (t 65) (t 66) (t 67) (t 68) (t 69) (t 70) (t 71) (t 72) (t 73) (t 74) (t 75) (t 76) (t 77) (t 78) (t 79) (t 80) (t 81) (t 82) (t 83) (t 84) (t 85) (t 86) (t 87) (t 88) (t 89) (t 90) (t 91) (t 92) (t 93) (t 94) (t 95) (t 96) (t 97) (t 98) (t 99) (t 100) (t 101) (t 102) (t 103) (t 104) (t 105) (t 106) (t 107) (t 108) (t 109) (t 110) (t 111) (t 112) (t 113) (t 114) hl hx hv hlt hwl hci hst.ibox.cell hst.pbox.cell hst.lbox.cell hI hx0' hO (vints_at hst.low hwf.lenL.symm (i := v) (by rw [hwf.lenL]; exact hv)) (Own.frozen hst.low (by rw [vints_length]; exact hwf.lenL.symm) v) ?_
        intro y9 y10 y11 y12 y13 y14 y15 y16 y17 y18 y19 y20 y21 y22 y23 y24 y25 y26 y27 y28 y29 y30 y31 y32 y33 y34 y38 y39 y40 y41 y42 y43 y44 y45 y46 y47 y48 y49 y50 y51 y52 y53 y54 y55 y56 y57 y58 y59 y60 y61 y62 y63 y64 y65 y66 y67 y68 y69 y70 y71 y72 y73 y74 y75 y76 y77 y78 y79 y80 y81 y82 y83 y84 y85 y86 y87 y88 y89 y90 y91 y92 y93 y94 y95 y96 y97 y98 y99 y100 y101 y102 y103 y104 y105 y106 y107 y108 y109 y110 y111 y112 y113 y114 z hz
        have hk8 : Keep w0.heap.size vs vo' wr (wr.setCell ⟨w0.heap.size + 4, v, none⟩ (.int .i64 z)).drew := keep_low _ _ _ _ (by omega)
        refine ⟨g - 1, by omega, (fun j => [.int .i64 0, .int .i64 0, .int .i64 0, .int .i64 0, .int .i64 0, .int .i64 0, .int .i64 0, .int .i64 0, .int .i64 0, y9, y10, y11, y12, y13, y14, y15, y16, y17, y18, y19, y20, y21, y22, y23, y24, y25, y26, y27, y28, y29, y30, y31, y32, y33, y34, .int .i64 0, .int .i64 0, .int .i64 0, y38, y39, y40, y41, y42, y43, y44, y45, y46, y47, y48, y49, y50, y51, y52, y53, y54, y55, y56, y57, y58, y59, y60, y61, y62, y63, y64, y65, y66, y67, y68, y69, y70, y71, y72, y73, y74, y75, y76, y77, y78, y79, y80, y81, y82, y83, y84, y85, y86, y87, y88, y89, y90, y91, y92, y93, y94, y95, y96, y97, y98, y99, y100, y101, y102, y103, y104, y105, y106, y107, y108, y109, y110, y111, y112, y113, y114].getD j (.int .i64 0)), .int .i64 (i + 1 : Nat), rfl, i + 1, sx.lower v (sx.idx.getD x 0), vs, vo', ro', by omega, by omega, rfl, hrun, hwf.lower _ _, hzs, vst_low hst hwf.lenL v _ _ hz, ?_, ?_, hkeep.trans hms hmo hk8, hms, hmo⟩
        · exact hk8.rd hrd (fun a ha => (hap a ha).1) (fun a ha => (hap a ha).2.1) (fun a ha => (hap a ha).2.2.1)
        · intro a ha
          exact ⟨(hap a ha).1, (hap a ha).2.1, (hap a ha).2.2.1, Nat.lt_of_lt_of_le (hap a ha).2.2.2 hk8.size⟩
      · rw [if_neg ho] at hrun
        have ho' : sx.opn.getD x false = false := by simpa using ho
        rw [ho'] at hO
        refine round_past w0 wr n v x i _ b2 o2 c2 _ _ (t 9) (t 10) (t 11) (t 12) (t 13) (t 14) (t 15) (t 16) (t 17) (t 18) (t 19) (t 20) (t 21) (t 22) (t 23) (t 24) (t 25) (t 26) (t 27) (t 28) (t 29) (t 30) (t 31) (t 32) (t 33) (t 34) (t 38) (t 39) (t 40) (t 41) (t 42) (t 43) (t 44) (t 45) (t 46) (t 47) (t 48) (t 49) (t 50) (t 51) (t 52) (t 53) (t 54) (t 55) (t 56) (t 57) (t 58) (t 59) (t 60) (t 61) (t 62) (t 63) (t 64) (t 65) (t 66) (t 67) (t 68) (t 69) (t 70) (t 71) (t 72) (t 73) (t 74) (t 75) (t 76) (t 77) (t 78) (t 79) (t 80) (t 81) (t 82) (t 83) (t 84) (t 85) (t 86) (t 87) (t 88) (t 89) (t 90) (t 91) (t 92) (t 93) (t 94) (t 95) (t 96) (t 97) (t 98) (t 99) (t 100) (t 101) (t 102) (t 103) (t 104) (t 105) (t 106) (t 107) (t 108) (t 109) (t 110) (t 111) (t 112) (t 113) (t 114) hl hx hlt hwl hci hst.ibox.cell hst.pbox.cell hI hx0' hO ?_
        intro y9 y10 y11 y12 y13 y14 y15 y16 y17 y18 y19 y20 y21 y22 y23 y24 y25 y26 y27 y28 y29 y30 y31 y32 y33 y34 y38 y39 y40 y41 y42 y43 y44 y45 y46 y47 y48 y49 y50 y51 y52 y53 y54 y55 y56 y57 y58 y59 y60 y61 y62 y63 y64 y65 y66 y67 y68 y69 y70 y71 y72 y73 y74 y75 y76 y77 y78 y79 y80 y81 y82 y83 y84 y85 y86 y87 y88 y89 y90 y91 y92 y93 y94 y95 y96 y97 y98 y99 y100 y101 y102 y103 y104 y105 y106 y107 y108 y109 y110 y111 y112 y113 y114
        refine ⟨g - 1, by omega, (fun j => [.int .i64 0, .int .i64 0, .int .i64 0, .int .i64 0, .int .i64 0, .int .i64 0, .int .i64 0, .int .i64 0, .int .i64 0, y9, y10, y11, y12, y13, y14, y15, y16, y17, y18, y19, y20, y21, y22, y23, y24, y25, y26, y27, y28, y29, y30, y31, y32, y33, y34, .int .i64 0, .int .i64 0, .int .i64 0, y38, y39, y40, y41, y42, y43, y44, y45, y46, y47, y48, y49, y50, y51, y52, y53, y54, y55, y56, y57, y58, y59, y60, y61, y62, y63, y64, y65, y66, y67, y68, y69, y70, y71, y72, y73, y74, y75, y76, y77, y78, y79, y80, y81, y82, y83, y84, y85, y86, y87, y88, y89, y90, y91, y92, y93, y94, y95, y96, y97, y98, y99, y100, y101, y102, y103, y104, y105, y106, y107, y108, y109, y110, y111, y112, y113, y114].getD j (.int .i64 0)), .int .i64 (i + 1 : Nat), rfl, i + 1, sx, vs, vo', ro', by omega, by omega, rfl, hrun, hwf, hzs, hst, hrd, hap, hkeep, hms, hmo⟩
  · have hie : i = (waysN n v).length := by omega
    have hr : sx = s1 := by
      rw [hie, List.drop_length] at hrun
      simpa [each] using hrun
    subst hr
    refine round_end w0 wr n v i A2 c2 _ _ (t 9) (t 10) (t 11) (t 12) (t 13) (t 14) (t 15) (t 16) (t 17) (t 18) (t 19) (t 20) (t 21) (t 22) (t 23) (t 24) (t 25) (t 26) (t 27) (t 28) (t 29) (t 30) (t 31) (t 32) (t 33) (t 34) (t 38) (t 39) (t 40) (t 41) (t 42) (t 43) (t 44) (t 45) (t 46) (t 47) (t 48) (t 49) (t 50) (t 51) (t 52) (t 53) (t 54) (t 55) (t 56) (t 57) (t 58) (t 59) (t 60) (t 61) (t 62) (t 63) (t 64) (t 65) (t 66) (t 67) (t 68) (t 69) (t 70) (t 71) (t 72) (t 73) (t 74) (t 75) (t 76) (t 77) (t 78) (t 79) (t 80) (t 81) (t 82) (t 83) (t 84) (t 85) (t 86) (t 87) (t 88) (t 89) (t 90) (t 91) (t 92) (t 93) (t 94) (t 95) (t 96) (t 97) (t 98) (t 99) (t 100) (t 101) (t 102) (t 103) (t 104) (t 105) (t 106) (t 107) (t 108) (t 109) (t 110) (t 111) (t 112) (t 113) (t 114) hlt ?_
    intro y9 y10 y11 y12 y13 y14 y15 y16 y17 y18 y19 y20 y21 y22 y23 y24 y25 y26 y27 y28 y29 y30 y31 y32 y33 y34 y38 y39 y40 y41 y42 y43 y44 y45 y46 y47 y48 y49 y50 y51 y52 y53 y54 y55 y56 y57 y58 y59 y60 y61 y62 y63 y64 y65 y66 y67 y68 y69 y70 y71 y72 y73 y74 y75 y76 y77 y78 y79 y80 y81 y82 y83 y84 y85 y86 y87 y88 y89 y90 y91 y92 y93 y94 y95 y96 y97 y98 y99 y100 y101 y102 y103 y104 y105 y106 y107 y108 y109 y110 y111 y112 y113 y114
    exact hend (fun j => [.int .i64 0, .int .i64 0, .int .i64 0, .int .i64 0, .int .i64 0, .int .i64 0, .int .i64 0, .int .i64 0, .int .i64 0, y9, y10, y11, y12, y13, y14, y15, y16, y17, y18, y19, y20, y21, y22, y23, y24, y25, y26, y27, y28, y29, y30, y31, y32, y33, y34, .int .i64 0, .int .i64 0, .int .i64 0, y38, y39, y40, y41, y42, y43, y44, y45, y46, y47, y48, y49, y50, y51, y52, y53, y54, y55, y56, y57, y58, y59, y60, y61, y62, y63, y64, y65, y66, y67, y68, y69, y70, y71, y72, y73, y74, y75, y76, y77, y78, y79, y80, y81, y82, y83, y84, y85, y86, y87, y88, y89, y90, y91, y92, y93, y94, y95, y96, y97, y98, y99, y100, y101, y102, y103, y104, y105, y106, y107, y108, y109, y110, y111, y112, y113, y114].getD j (.int .i64 0)) _ wr ⟨vs, vo', ro', hwf, hzs, hst, hkeep, hms, hmo⟩
end Go.Proofs.Ythdbkilncddniaa.Ring
