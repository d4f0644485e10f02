/- One step of the proof of a statement of this seat: plain laws and walks of the ring package; no condition. -/
import Derived.Test.YthdbkilncddniaaW18
set_option linter.unusedVariables false
set_option linter.unusedSimpArgs false
open Go.RowKit
namespace Go.Proofs.Ythdbkilncddniaa.Ring
open RingM Go.Proofs.Mem

theorem nth_cast {l : List Nat} {i : Nat} (h : i < l.length) : nth (RingM.cast l) i = (l[i] : Int) := by
  unfold nth RingM.cast
  simp [List.getD_eq_getElem?_getD, h]

/-- in the loop that closes a ring's points -/
def TailRel (w0 : World) (A : Option Addr) (c : Nat) (n : Net) (s : St) (vs vo : Value) (ro : List Value) (wr : World) (ring : List Nat) (v5 : Value) (f : Nat) (v98 : Value) (w6 : World) : Prop :=
  ∃ (i : Nat) (o : List Bool), i + f = ring.length + 1 ∧ i ≤ ring.length ∧ v98 = .int .i64 i ∧ unopen o (ring.drop i) = unopen s.opn ring ∧ o.length = n.length ∧ VSt w0 A c n { s with opn := o } vs vo ro w6 ∧ OwnI wr.heap.size w6 v5 (RingM.cast ring) ∧ Keep w0.heap.size vs vo wr w6

set_option maxHeartbeats 4000000 in
set_option maxRecDepth 100000 in
theorem tail_any (w0 wr : World) (A : Option Addr) (c : Nat) (n : Net) (k v : Nat) (s : St) (vs vo : Value) (ro : List Value) (l zs : List Nat) (R : Ending → World → Prop) (z9 z10 z11 z12 z13 z14 z15 z16 z17 z18 z19 z20 z21 z22 z23 z24 z25 z26 z27 z28 z29 z30 z31 z32 z33 z34 z35 z36 z37 z38 z39 z40 z41 z42 z43 z44 z45 z46 z47 z48 z49 z50 z51 z52 z53 z54 z55 z56 z57 z58 z59 z60 z61 z62 z63 z64 z65 z66 z67 z68 z69 z70 z71 z72 z73 z74 z75 z76 z77 z78 z79 z80 z81 z82 z83 z84 z85 z86 z87 z88 z89 z90 z91 z92 z93 z94 z95 z96 z97 z98 z99 z100 z101 z102 z103 z104 z105 z106 z107 z108 z109 z110 z111 z112 z113 z114 : Value)
    (hl : n.length ≤ 24) (hv : v < n.length) (hwf : Wf n k s) (hst : VSt w0 A c n s vs vo ro wr) (hstk : s.stk = l ++ v :: zs) (hvl : v ∉ l)
    (hR : ∀ vs' vo' ro' w', VSt w0 A c n { s with opn := unopen s.opn (v :: zs), stk := l, out := s.out ++ [sortN (v :: zs)] } vs' vo' ro' w' → Keep w0.heap.size vs vo wr w' → Moves wr vs vs' → Moves wr vo vo' → R (.returned (.tuple #[])) w') :
    Code.wp Try.prog tail17 (bodyPost Try.prog Try.f17 R) ⟨#[.int .i64 (v : Int), ptr (w0.heap.size + 9), ptr (w0.heap.size + 3), ptr (w0.heap.size + 5), ptr (w0.heap.size + 7), ptr (w0.heap.size + 8), ptr w0.heap.size, ptr (w0.heap.size + 10), ptr (w0.heap.size + 1), z9, z10, z11, z12, z13, z14, z15, z16, z17, z18, z19, z20, z21, z22, z23, z24, z25, z26, z27, z28, z29, z30, z31, z32, z33, z34, z35, z36, z37, z38, z39, z40, z41, z42, z43, z44, z45, z46, z47, z48, z49, z50, z51, z52, z53, z54, z55, z56, z57, z58, z59, z60, z61, z62, z63, z64, z65, z66, z67, z68, z69, z70, z71, z72, z73, z74, z75, z76, z77, z78, z79, z80, z81, z82, z83, z84, z85, z86, z87, z88, z89, z90, z91, z92, z93, z94, z95, z96, z97, z98, z99, z100, z101, z102, z103, z104, z105, z106, z107, z108, z109, z110, z111, z112, z113, z114], []⟩ wr := by
  have hsl := hwf.stkLe
  have hml := hwf.met_le
  have hlen : s.stk.length = l.length + (zs.length + 1) := by rw [hstk]; simp
  obtain ⟨p, hp⟩ : ∃ p, p = l.length := ⟨_, rfl⟩
  obtain ⟨m, hm⟩ : ∃ m, m = s.stk.length := ⟨_, rfl⟩
  have hmp : p + (zs.length + 1) = m := by omega
  have hm24 : m ≤ 24 := by omega
  rcases hst.stk.shape with ⟨_, h0⟩ | ⟨g, cs, rfl, hg, hgl, hgc, hgm, hob⟩
  · exfalso
    have h1 : (vints s.stk).length = 0 := by rw [h0]; rfl
    rw [vints_length] at h1
    omega
  · have hvm : (vints s.stk).length = m := by rw [vints_length]; exact hm.symm
    rw [hvm] at hst hgc hob
    have hrd : Rd wr (some ⟨g, 0, none⟩) (vints s.stk) := ⟨fun i hi => ⟨g, 0, rfl, fun j hj => by rw [Nat.zero_add]; exact Own.cell hst.stk hvm.symm j hj⟩⟩
    have hri := rdI_of_nat hrd
    have hix : idxI (RingM.cast s.stk) (v : Int) = (p : Int) := by
      refine idxI_found (by rw [cast_length]; omega) (fun j hj => ?_) ?_
      · rw [nth_cast (by omega)]
        simp only [hstk]
        rw [List.getElem_append_left (by omega)]
        intro e
        have e' : l[j]'(by omega) = v := by omega
        exact hvl (e' ▸ List.getElem_mem _)
      · rw [nth_cast (by omega)]
        simp only [hstk]
        rw [List.getElem_append_right (by omega)]
        simp [hp]
    have hidx := index_any (some ⟨g, 0, none⟩) (RingM.cast s.stk) cs (v : Int) wr (by rw [cast_length]; omega) hri
    rw [cast_length, ← hm, hix] at hidx
    have hrd2 : RdI wr (some ⟨g, p, none⟩) (RingM.cast (v :: zs)) := by
      refine ⟨fun i hi => ⟨g, p, rfl, fun j hj => ?_⟩⟩
      rw [cast_length] at hj
      simp only [List.length_cons] at hj
      rw [Own.cell hst.stk hvm.symm (p + j) (by rw [hvm]; omega)]
      have : p + j < s.stk.length := by omega
      rw [nth_cast (by simpa using hj)]
      simp only [vints, List.getElem_map, Option.some.injEq, Value.int.injEq, true_and]
      congr 1
      simp only [hstk]
      rw [List.getElem_append_right (by omega)]
      congr 1
      omega
    have hcl := clone_any (some ⟨g, p, none⟩) (RingM.cast (v :: zs)) (cs - p) wr (by rw [cast_length]; simp; omega) hrd2
    have hcl2 : (RingM.cast (v :: zs)).length = m - p := by rw [cast_length]; simp; omega
    rw [hcl2] at hcl
    have c8 := hst.sbox.cell
    have HST := Lib.hid hst
    have HWF := Lib.hid hwf
    have HSTK := Lib.hid hstk
    have HR := Lib.hid hR
    have HM := Lib.hid hm
    have HSZ := Lib.hid HST.out.size
    have HP := Lib.hid hp
    have HMP := Lib.hid hmp
    have hpm : p < m := by omega
    have hpc : p ≤ cs := by omega
    have hmc : m ≤ cs := hgc
    unfold maxLen at hgm
    clear hst hwf hstk hR hm hp hmp hrd hri hrd2 hix hcl2 hvm hlen hob hsl hml hvl
    conv => arg 2; whnf
    go_wp2_with (first | (go_at_call 19; refine hidx.mono ?_; rintro e w5 ⟨rfl, rfl⟩) | (go_at_call 20; refine hcl.mono ?_; rintro e w5 ⟨v5, rfl, hown5, hb5⟩; obtain ⟨A5, c5, rfl, hr5, _, _, hA5⟩ := hown5.shape))
    have hrl : (RingM.cast (v :: zs)).length = zs.length + 1 := by rw [cast_length]; simp
    have hst5 : TailRel w0 A c n s (.slice (some ⟨g, 0, none⟩) m cs) vo ro wr (v :: zs) (.slice A5 (RingM.cast (v :: zs)).length c5) (zs.length + 2) (.int .i64 0) w5 := by
      refine ⟨0, s.opn, by simp, by simp, rfl, rfl, HWF.out.lenO, HST.out.frame hb5, hown5, Keep.below hb5⟩
    have HST5 := Lib.hid hst5
    have HA5 := Lib.hid hA5
    clear hst5 hown5 hb5 hA5 hr5 hcl hidx c8
    rw [hrl]
    have HRL := Lib.hid hrl
    clear hrl
    obtain ⟨w1, hw1⟩ : ∃ w1, w1 = wr := ⟨_, rfl⟩
    subst hw1
    go_loopg [98] (zs.length + 2) (fun f v98 w6 => TailRel w0 A c n s (.slice (some ⟨g, 0, none⟩) m cs) vo ro w1 (v :: zs) (.slice A5 (RingM.cast (v :: zs)).length c5) f v98 w6)
    case atStart => exact HST5.out
    case round =>
      obtain ⟨i, o, hiw, hle, rfl, hun, hol, hvst, hown6, hkeep⟩ := hrel
      obtain ⟨A6, c6, e6, hr6, -, -, -⟩ := hown6.shape
      simp only [Value.slice.injEq] at e6
      obtain ⟨rfl, -, rfl⟩ := e6
      have hrl := HRL.out
      by_cases hlt : i < (v :: zs).length
      · obtain ⟨x, hxd⟩ : ∃ x, x = (v :: zs)[i] := ⟨_, rfl⟩
        have hx : x < n.length := (HWF.out.stkV x (by rw [HSTK.out, hxd]; exact List.mem_append_right _ (List.getElem_mem _))).1
        obtain ⟨b6, o6, rfl, hc6⟩ := hr6.at_ i (by rw [cast_length]; exact hlt)
        have hci := hc6 i (by rw [cast_length]; exact hlt)
        rw [nth_cast hlt, ← hxd] at hci
        have c4 := hvst.pbox.cell
        have fO := Own.frozen hvst.opn (by rw [bools_length]; exact hol.symm) x
        obtain ⟨ob, cP⟩ : ∃ ob, wr.cell? ⟨w0.heap.size + 6, x, none⟩ = some ob := ⟨_, Own.cell hvst.opn (by rw [bools_length]; exact hol.symm) x (by rw [bools_length, hol]; exact hx)⟩
        have hlt' : i < zs.length + 1 := by simpa using hlt
        have hiw' : i + gk = zs.length + 2 := by simpa using hiw
        clear hiw
        have HU := Lib.hid hun
        have HOL := Lib.hid hol
        have HV := Lib.hid hvst
        have HO6 := Lib.hid hown6
        have HK := Lib.hid hkeep
        have hxd2 : (v :: zs).drop i = x :: (v :: zs).drop (i + 1) := by rw [List.drop_eq_getElem_cons hlt, ← hxd]
        have HX := Lib.hid hxd2
        clear hun hol hvst hown6 hkeep hxd2 hxd hlt hc6 hr6 hle hrl
        go_wp2
        go_roundg (gk - 1)
        case measure => omega
        case rel =>
          have hmp := HMP.out
          refine ⟨i + 1, o.set x false, by simp only [List.length_cons]; omega, by simp only [List.length_cons]; omega, ?_, ?_, by simp [HOL.out], VSt.setOpn HV.out HOL.out x false, ?_, HK.out.to (Keep.set (by omega))⟩
          · have e : wrap64 ((i : Int) + 1) = ((i + 1 : Nat) : Int) := by unfold wrap64; omega
            rw [e]
          · rw [← HU.out, HX.out]; rfl
          · have h6 := own_of_ownI HO6.out
            have hsz := HSZ.out
            exact World.ownsRow.kept HO6.out (grownBy_setCell _ _ _ _) (ownBlock_ne h6 (g := w0.heap.size + 6) (by omega))
      · have hlt' : ¬ i < zs.length + 1 := by simpa using hlt
        have hie : i = zs.length + 1 := by have : i ≤ zs.length + 1 := by simpa using hle
                                           omega
        have hd : (v :: zs).drop i = [] := by rw [List.drop_eq_nil_iff]; simp; omega
        rw [hd] at hun
        have hos := own_of_ownI hown6
        rw [ints_cast, cast_length, List.length_cons] at hos
        have c8 := hvst.sbox.cell
        have f8 := hvst.sbox.free
        have hp := HP.out
        have hmp := HMP.out
        have hcut := Own.cut hvst.stk (m := p) (by rw [vints_length]; simp only [HSTK.out, List.length_append, List.length_cons]; omega)
        have htk : (vints s.stk).take p = vints l := by
          unfold vints
          rw [← List.map_take, HSTK.out, hp, List.take_left']
          rfl
        rw [show (vints ({ s with opn := o } : St).stk).take p = vints l from htk] at hcut
        have hvW := hvst.newStk hcut (grownBy_refl _ _) (fun _ _ h => h)
        have hosz := HSZ.out
        have hkW : Keep w0.heap.size (.slice (some ⟨g, 0, none⟩) m cs) vo w1 (wr.setCell ⟨w0.heap.size + 8, 0, none⟩ (.slice (some ⟨g, 0, none⟩) p cs)) := hkeep.to (Keep.set (by omega))
        have hosW := Own.grown hos (grownBy_setCell wr (w0.heap.size + 8) 0 (.slice (some ⟨g, 0, none⟩) p cs)) (ownBlock_ne hos (by omega))
        have hosrt := sort_any w1.heap.size (.slice A5 (zs.length + 1) c5) (v :: zs) _ hosW (by simp; omega)
        have hnew := HST.out
        have hsort : ∀ w7, Own w1.heap.size w7 3 (.slice A5 (zs.length + 1) c5) (vints (sortN (v :: zs))) → (wr.setCell ⟨w0.heap.size + 8, 0, none⟩ (.slice (some ⟨g, 0, none⟩) p cs)).grownBy w7 (Value.slice A5 (zs.length + 1) c5).ownBlock →
            VSt w0 A c n { s with opn := o, stk := l } (.slice (some ⟨g, 0, none⟩) p cs) vo ro w7 ∧ Keep w0.heap.size (.slice (some ⟨g, 0, none⟩) m cs) vo w1 w7 := by
          intro w7 ho7 hg7
          have hlow : ∀ kk, (Value.slice A5 (zs.length + 1) c5).ownBlock = some kk → w1.heap.size ≤ kk := fun kk e => (World.ownsRow.lt ho7 kk e).1
          have hapart : ∀ {b e v xs kk}, Own b w1 e v xs → (Value.slice A5 (zs.length + 1) c5).ownBlock = some kk → v.ownBlock ≠ some kk := fun hv e e2 => by
            have := hlow _ e
            have := (World.ownsRow.lt hv _ e2).2
            omega
          have hst := HST.out
          refine ⟨hvW.other hg7 fun kk e => ⟨by have := hlow kk e; omega, ?_, hapart hst.out.top e, fun i hi => hapart (hst.out.rows i hi) e⟩, ⟨Nat.le_trans hkW.size hg7.size, fun kk h1 h2 h3 h4 => (hg7.block kk (by have := hkW.size; omega) (fun e => by have := hlow kk e.symm; omega)).trans (hkW.block kk h1 h2 h3 h4)⟩⟩
          have := hlow kk e
          simp only [Value.ownBlock, ne_eq, Option.some.injEq]
          omega
        have hu2 : o = unopen s.opn (v :: zs) := by rw [← hun]; rfl
        have HU2 := Lib.hid hu2
        clear hu2
        have HSORT := Lib.hid hsort
        clear hsort hnew hosW hkW hvW htk hcut hp hmp hos hun hol hvst hown6 hkeep hlt hr6 hle hrl hd hiw hosz
        go_wp2_with (first | (go_at_call 21; refine hosrt.mono ?_; rintro e w7 ⟨rfl, ho7, hg7⟩; obtain ⟨hv7, hk7⟩ := HSORT.out w7 ho7 hg7; have c1 := hv7.obox.cell; have f1 := hv7.obox.free; have ho8 := hv7.out.top) | (at_builtin; refine wp_push (w := w7) E22 rfl _ _ rfl (w0.heap.size + 11) vo ro rfl (.slice A5 (zs.length + 1) c5) rfl ho8 rfl ?c1 (by decide) ?c2 ?_))
        case c1 => have := hv7.out.len; have := hwf_stk HWF.out; simp only at *; omega
        case c2 => exact hv7.size
        intro v8 w8 hown8 hgr8 hmv8
        have hb18 : w8.heap[w0.heap.size + 1]? = w7.heap[w0.heap.size + 1]? := hgr8.block _ (by have := hv7.size; omega) (by
          rcases ownBlock_ne ho8 (g := w0.heap.size + 1) (by omega) with e | e
          · rw [e]; simp
          · exact Ne.symm e)
        have c9 := (hv7.obox.same hb18).cell
        have f9 := (hv7.obox.same hb18).free
        have hvf := VSt.newOut (r := .slice A5 (zs.length + 1) c5) (l := sortN (v :: zs)) hv7 hown8 hgr8 hmv8 (Own.base ho7 (by have := HSZ.out; omega)) (by
          have h1 := World.ownsRow.lt ho7
          right
          intro e
          have h2 := (h1 g e.symm).1
          omega)
        obtain ⟨A8, c8, rfl, -, -, -, -, -⟩ := hown8.rd
        have HVF := Lib.hid hvf
        have HK7 := Lib.hid hk7
        have HG8 := Lib.hid hgr8
        have HM8 := Lib.hid hmv8
        have HV7 := Lib.hid hv7
        clear hvf hk7 hgr8 hmv8 hb18 hown8 hv7 ho8 c1 f1 hosrt
        go_wp2
        go_end0
        have hv8 := HVF.out
        rw [List.length_append, List.length_singleton, HU2.out] at hv8
        have hk8 := HK7.out.to ((Keep.grownO HG8.out).to (Keep.set (g := w0.heap.size + 1) (o := 0) (u := Value.slice A8 (ro.length + 1) c8) (by omega)))
        have hm8 := Moves.trans (Moves.refl w1 vo) HK7.out.size HM8.out
        rw [List.length_append, List.length_singleton] at hm8
        exact HR.out _ _ _ _ hv8 ⟨hk8.size, hk8.block⟩ (fun _ _ h => h) hm8
end Go.Proofs.Ythdbkilncddniaa.Ring
