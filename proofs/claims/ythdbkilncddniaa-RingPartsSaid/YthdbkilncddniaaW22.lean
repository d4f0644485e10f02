/- One step of the proof of a statement of this seat: plain laws and walks of the ring package; no condition. -/
import Derived.Test.YthdbkilncddniaaW21
import Derived.Test.YthdbkilncddniaaW19
set_option linter.unusedVariables false
set_option linter.unusedSimpArgs false
open Go.RowKit
namespace Go.Proofs.Ythdbkilncddniaa.Ring
open RingM Go.Proofs.Mem

set_option maxHeartbeats 4000000 in
set_option maxRecDepth 100000 in
theorem rest17 (w0 w wr : World) (A A2 : Option Addr) (c c2 : Nat) (n : Net) (k v : Nat) (s0 s1 : St) (vs0 vo0 : Value) (t : Nat → Value) (u37 : Value)
    (hs : Small n) (hv : v < n.length) (hvl : v ∉ s0.stk) (h : LoopEnd w0 A c n v s0 s1 k vs0 vo0 w wr) :
    Code.wp Try.prog (.seq mid17 tail17) (bodyPost Try.prog Try.f17 (VisitPost w0 A c n (s1.close v) vs0 vo0 w)) (frame17 w0 n v A2 c2 u37 t) wr := by
  obtain ⟨vs, vo, ro, hwf, ⟨zs, hzs⟩, hst, hkeep, hms, hmo⟩ := h
  have hI := vints_at hst.idx hwf.lenI.symm (i := v) (by rw [hwf.lenI]; exact hv)
  have hL := vints_at hst.low hwf.lenL.symm (i := v) (by rw [hwf.lenL]; exact hv)
  refine wp_seq ?_
  refine part12 w0 wr n v (s1.low.getD v 0) (s1.idx.getD v 0) _ _ (t 9) (t 10) (t 11) (t 12) (t 13) (t 14) (t 15) (t 16) (t 17) (t 18) (t 19) (t 20) (t 21) (t 22) (t 23) (t 24) (t 25) (t 26) (t 27) (t 28) (t 29) (t 30) (t 31) (t 32) (t 33) (t 34) (.slice A2 (waysN n v).length c2) (.int .i64 ((waysN n v).length : Int)) u37 (t 38) (t 39) (t 40) (t 41) (t 42) (t 43) (t 44) (t 45) (t 46) (t 47) (t 48) (t 49) (t 50) (t 51) (t 52) (t 53) (t 54) (t 55) (t 56) (t 57) (t 58) (t 59) (t 60) (t 61) (t 62) (t 63) (t 64) (t 65) (t 66) (t 67) (t 68) (t 69) (t 70) (t 71) (t 72) (t 73) (t 74) (t 75) (t 76) (t 77) (t 78) (t 79) (t 80) (t 81) (t 82) (t 83) (t 84) (t 85) (t 86) (t 87) (t 88) (t 89) (t 90) (t 91) (t 92) (t 93) (t 94) (t 95) (t 96) (t 97) (t 98) (t 99) (t 100) (t 101) (t 102) (t 103) (t 104) (t 105) (t 106) (t 107) (t 108) (t 109) (t 110) (t 111) (t 112) (t 113) (t 114) hv hs.len hst.ibox.cell hst.lbox.cell hI hL ?_ ?_
  · intro hne y9 y10 y11 y12 y13 y14 y15 y16 y17 y18 y19 y20 y21 y22 y23 y24 y25 y26 y27 y28 y29 y30 y31 y32 y33 y34 y35 y36 y37 y38 y39 y40 y41 y42 y43 y44 y45 y46 y47 y48 y49 y50 y51 y52 y53 y54 y55 y56 y57 y58 y59 y60 y61 y62 y63 y64 y65 y66 y67 y68 y69 y70 y71 y72 y73 y74 y75 y76 y77 y78 y79 y80 y81 y82 y83 y84 y85 y86 y87 y88 y89 y90 y91 y92 y93 y94 y95 y96 y97 y98 y99 y100 y101 y102 y103 y104 y105 y106 y107 y108 y109 y110 y111 y112 y113 y114 q
    have hcl : s1.close v = s1 := by unfold St.close; rw [if_pos hne]
    go_end0
    rw [hcl]
    exact ⟨rfl, vs, vo, ro, hst.frame (below_drewN (Below.refl _ _) _), hkeep.to (Keep.below (below_drewN (Below.refl _ _) _)), hms, hmo⟩
  · intro heq y9 y10 y11 y12 y13 y14 y15 y16 y17 y18 y19 y20 y21 y22 y23 y24 y25 y26 y27 y28 y29 y30 y31 y32 y33 y34 y35 y36 y37 y38 y39 y40 y41 y42 y43 y44 y45 y46 y47 y48 y49 y50 y51 y52 y53 y54 y55 y56 y57 y58 y59 y60 y61 y62 y63 y64 y65 y66 y67 y68 y69 y70 y71 y72 y73 y74 y75 y76 y77 y78 y79 y80 y81 y82 y83 y84 y85 y86 y87 y88 y89 y90 y91 y92 y93 y94 y95 y96 y97 y98 y99 y100 y101 y102 y103 y104 y105 y106 y107 y108 y109 y110 y111 y112 y113 y114 q
    have hcl : s1.close v = { s1 with opn := unopen s1.opn (v :: zs), stk := s0.stk, out := s1.out ++ [sortN (v :: zs)] } := by
      unfold St.close
      rw [if_neg (by simpa using heq), hzs, idxOf_split hvl, List.take_left', List.drop_left']
      all_goals rfl
    refine tail_any w0 (wr.drewN q) A c n (k + 1) v s1 vs vo ro s0.stk zs _ _ _ _ _ _ _ _ _ _ _ _ _ _ _ _ _ _ _ _ _ _ _ _ _ _ _ _ _ _ _ _ _ _ _ _ _ _ _ _ _ _ _ _ _ _ _ _ _ _ _ _ _ _ _ _ _ _ _ _ _ _ _ _ _ _ _ _ _ _ _ _ _ _ _ _ _ _ _ _ _ _ _ _ _ _ _ _ _ _ _ _ _ _ _ _ _ _ _ _ _ _ _ _ _ _ _ hs.len hv hwf (hst.frame (below_drewN (Below.refl _ _) _)) hzs hvl ?_
    intro vs' vo' ro' w' hst' hk' hm' hmo'
    rw [hcl]
    have hd : Below wr.heap.size wr (wr.drewN q) := below_drewN (Below.refl _ _) _
    exact ⟨rfl, vs', vo', ro', hst', hkeep.trans hms hmo ((Keep.below hd).to hk'), Moves.trans hms hkeep.size fun g hg => hm' g (Nat.lt_of_lt_of_le hg hd.size), Moves.trans hmo hkeep.size fun g hg => hmo' g (Nat.lt_of_lt_of_le hg hd.size)⟩

theorem loop17' (w0 w wq : World) (A A2 : Option Addr) (c c2 : Nat) (n : Net) (f k v : Nat) (s0 s1 : St) (vs0 vo0 : Value) (Q : Exit → Act → World → Prop) (a : Act) (ha : a = frame17 w0 n v A2 c2 (.int .i64 0) (fun j => a.tmps.toList.getD j (.int .i64 0)))
    (hs : Small n) (hv : v < n.length) (ih : VisitAll w0 A c n f) (hstart : VisRel w0 A c n f v s0 s1 k vs0 vo0 w A2 ((waysN n v).length + 1) (.int .i64 0) wq)
    (hend : ∀ (t : Nat → Value) (u37 : Value) (wr : World), LoopEnd w0 A c n v s0 s1 k vs0 vo0 w wr → Q (.exit 0) (frame17 w0 n v A2 c2 u37 t) wr) :
    Code.wp Try.prog (.loop body17) Q a wq := by
  rw [ha]
  exact loop17 w0 w wq A A2 c c2 n f k v s0 s1 vs0 vo0 Q _ hs hv ih hstart hend

set_option maxHeartbeats 4000000 in
set_option maxRecDepth 100000 in
theorem visit_any (w0 : World) (A : Option Addr) (c : Nat) (n : Net) (hs : Small n) (hA : RdN w0 A n) (f : Nat) : ∀ (k v : Nat) (s s' : St) (vs vo : Value) (ro : List Value) (w : World),
    visit n f v s = some s' → Wf n k s → v < n.length → s.I v = 0 → VSt w0 A c n s vs vo ro w →
    Calls Try.prog 17 (#[.int .i64 v] ++ caps w0.heap.size) w (VisitPost w0 A c n s' vs vo w) := by
  induction f with
  | zero => intro _ _ _ _ _ _ _ _ h; simp [visit] at h
  | succ f ih =>
    intro k v s s' vs vo ro w hrun hwf hv hv0 hst
    have IH := Lib.hid ih
    clear ih
    unfold visit at hrun
    rw [Option.map_eq_some_iff] at hrun
    obtain ⟨s1, hrun, rfl⟩ := hrun
    have hmet := hwf.met_le
    have hl := hs.len
    have hsz := hst.size
    have c1 := hst.mbox.cell
    have f1 := hst.mbox.free
    have c2 := hst.ibox.cell
    have c3 := hst.lbox.cell
    have c4 := hst.pbox.cell
    have hI := vints_at hst.idx hwf.lenI.symm (i := v) (by rw [hwf.lenI]; exact hv)
    have hL := vints_at hst.low hwf.lenL.symm (i := v) (by rw [hwf.lenL]; exact hv)
    have hO : w.cell? ⟨w0.heap.size + 6, v, none⟩ = some (.bool (s.opn.getD v false)) := by
      rw [Own.cell hst.opn (by rw [bools_length, hwf.lenO]) v (by rw [bools_length, hwf.lenO]; exact hv)]
      simp [bools, List.getD_eq_getElem?_getD, hwf.lenO, hv]
    have fI := Own.frozen hst.idx (by rw [vints_length]; exact hwf.lenI.symm) v
    have fL := Own.frozen hst.low (by rw [vints_length]; exact hwf.lenL.symm) v
    have fO := Own.frozen hst.opn (by rw [bools_length]; exact hwf.lenO.symm) v
    have HRUN := Lib.hid hrun
    have HWF := Lib.hid hwf
    have HV0 := Lib.hid hv0
    have HST := Lib.hid hst
    clear hrun hwf hv0 hst
    generalize s.idx.getD v 0 = xi at hI
    generalize s.low.getD v 0 = xl at hL
    generalize s.opn.getD v false = xo at hO
    simp only [caps, List.append_toArray, List.cons_append, List.nil_append]
    go_enter Try.func17, Try.ntmps17
    go_wp2
    go_region
    have hE := vst_enter HST.out HWF.out.lenI HWF.out.lenL HWF.out.lenO v
    have hK := keep_enter (w0 := w0) (vs := vs) (vo := vo) (w := w) v (.int .i64 ((s.met : Int) + 1)) (.int .i64 ((s.met : Int) + 1)) (.int .i64 ((s.met : Int) + 1)) (.bool true)
    generalize ((((w.setCell ⟨w0.heap.size + 9, 0, none⟩ (.int .i64 ((s.met : Int) + 1))).setCell ⟨w0.heap.size + 2, v, none⟩ (.int .i64 ((s.met : Int) + 1))).setCell ⟨w0.heap.size + 4, v, none⟩ (.int .i64 ((s.met : Int) + 1))).setCell ⟨w0.heap.size + 6, v, none⟩ (.bool true)).drew = W at hE hK ⊢
    clear c1 f1 c2 c3 c4 hI hL hO fI fL fO
    have c8 := hE.sbox.cell
    have hstk := hwf_stk HWF.out
    obtain ⟨As, cs, es, _⟩ := hE.stk.rd
    rw [vints_length] at es
    have es : vs = .slice As s.stk.length cs := es
    have HE := Lib.hid hE
    have HK := Lib.hid hK
    have hEs := hE.size
    clear hE hK
    subst es
    have hsW : Own (w0.heap.size + 11) W 3 (.slice As s.stk.length cs) (vints s.stk) := HE.out.stk
    go_wp2_with (at_builtin; refine wp_push (w := W) E26 rfl _ _ rfl (w0.heap.size + 11) (.slice As s.stk.length cs) (vints s.stk) rfl (.int .i64 (v : Int)) rfl hsW rfl ?c1 (by decide) hEs ?_)
    case c1 => rw [vints_length]; omega
    intro v5 w5 hown5 hgr5 hmv5
    rw [← ownBlock_slice As s.stk.length cs] at hgr5
    have e5 : vints s.stk ++ [Value.int .i64 (v : Int)] = vints (s.stk ++ [v]) := by rw [vints_append]; rfl
    rw [e5] at hown5
    clear e5
    obtain ⟨A5, cc5, rfl, _⟩ := hown5.rd
    have hlow5 := HE.out.lowS hgr5
    have c85 := (HE.out.sbox.same (hlow5 _ (by omega))).cell
    have f85 := (HE.out.sbox.same (hlow5 _ (by omega))).free
    have hN : VSt w0 A c n (s.enter v) (.slice A5 (vints (s.stk ++ [v])).length cc5) vo ro (w5.setCell ⟨w0.heap.size + 8, 0, none⟩ (.slice A5 (vints (s.stk ++ [v])).length cc5)) := HE.out.newStk hown5 hgr5 hmv5
    have hKN : Keep w0.heap.size (.slice As s.stk.length cs) vo w (w5.setCell ⟨w0.heap.size + 8, 0, none⟩ (.slice A5 (vints (s.stk ++ [v])).length cc5)) := (HK.out.to (Keep.grownS hgr5)).to (Keep.set (by omega))
    have hMN : Moves w (.slice As s.stk.length cs) (.slice A5 (vints (s.stk ++ [v])).length cc5) := fun g hg hne => hmv5 g (Nat.lt_of_lt_of_le hg HK.out.size) hne
    have HN := Lib.hid hN
    have HKN := Lib.hid hKN
    have HMN := Lib.hid hMN
    have c6 := (HE.out.nbox.same (hlow5 _ (by omega))).cell
    clear hN hKN hMN hlow5 hmv5 c8 hown5 hgr5
    go_wp2_with fail
    generalize (w5.setCell ⟨w0.heap.size + 8, 0, none⟩ (.slice A5 (vints (s.stk ++ [v])).length cc5)) = W2 at HN HKN ⊢
    have hN2 := HN.out
    have hold2 := hN2.old
    have hs2 := hN2.size
    obtain ⟨hen, hmono⟩ := wf_enter HWF.out hv HV0.out
    have HEN := Lib.hid hen
    clear hen hmono hold2
    refine (waysN_any A n c v W2 hs hv (hA.below hN2.old)).mono ?_
    rintro e w6 ⟨A2, c2, rfl, hown6, hrd6, hnil6, hblk6, hb6⟩
    have hst6 : VisRel w0 A c n f v s s1 k (.slice As s.stk.length cs) vo w A2 ((waysN n v).length + 1) (.int .i64 0) w6 := by
      refine ⟨0, s.enter v, _, vo, ro, by omega, by omega, rfl, HRUN.out, HEN.out, ⟨[], rfl⟩, hN2.frame hb6, hrd6, fun a ha => ?_, HKN.out.to (Keep.below hb6), HMN.out, Moves.refl _ _⟩
      have h1 := hblk6 a ha
      have hl6 : a.block < w6.heap.size := by
        subst ha
        rcases hown6.shape with ⟨hh, _⟩ | ⟨g, cc, hh, _, hg, _⟩
        · simp at hh
        · simp only [Value.slice.injEq, Option.some.injEq] at hh
          rw [hh.1]
          exact hg
      refine ⟨by omega, fun hh => ?_, fun hh => ?_, hl6⟩
      · have := (World.ownsRow.lt hN2.stk _ hh).2
        omega
      · have := (World.ownsRow.lt hN2.out.top _ hh).2
        omega
    have HST6 := Lib.hid hst6
    have hwl := ways_small hs v
    clear hst6 hown6 hrd6 hblk6 hb6 hN2 hs2 c6 c85 f85 hEs hsW
    go_wp2_with fail
    rename_i K hK
    refine loop17' w0 w w6 A A2 c c2 n f k v s s1 (.slice As s.stk.length cs) vo _ _ rfl hs hv IH.out HST6.out ?_
    intro t u37 wr hle
    show K _ wr
    exact hK _ _ (rest17 w0 w wr A A2 c c2 n k v s s1 (.slice As s.stk.length cs) vo t u37 hs hv (fun hh => (HWF.out.stkV v hh).2 HV0.out) hle)
end Go.Proofs.Ythdbkilncddniaa.Ring
