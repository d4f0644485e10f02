/- One step of the proof of a statement of this seat: plain laws and walks of the store, log, journal and halves packages; no condition. -/
import Derived.Test.YtoldogkfeimojaaDoorHvHs1
set_option linter.unusedVariables false
set_option linter.unusedSimpArgs false
open Go.RowKit
namespace Go.Proofs.YtoldogkfeimojaaDoor.Hv
open Go.Proofs.Hv Go.Proofs.Mem

/-- what a call on the halves leaves -/
def HPost (F : Nat → Prop) (w : World) (hp p g : Nat) (q : Int × Hs × Sto) (e : Ending) (w' : World) : Prop :=
  e = .returned (.int .i64 q.1) ∧ HsAt (more F w) w' hp p g q.2.1 q.2.2 ∧ Keeps (hsF F p g) w w'

theorem putF_len' (from_ : Nat) (x : Bytes) (hi : Nat) (must : Bool) (f i : Nat) (s : Sto) : (putF from_ x hi must f i s).2.blocks.length = s.blocks.length := putF_len _ _ _ _ _ _ _
theorem appendJ_fin (j : Jr) (r : Bytes) (s : Sto) : ((appendJ j r s).1 = 0 → (appendJ j r s).2.1.fin = j.fin + (r.length + 8)) ∧ j.fin ≤ (appendJ j r s).2.1.fin := by
  unfold appendJ
  by_cases h1 : okRec r = false
  · rw [if_pos h1]; exact ⟨fun h => by simp at h, Nat.le_refl _⟩
  · rw [if_neg h1]
    by_cases h2 : j.room < (r.length + 8 : Nat)
    · rw [if_pos h2]; exact ⟨fun h => by simp at h, Nat.le_refl _⟩
    · rw [if_neg h2]
      by_cases h3 : j.down = true
      · rw [if_pos h3]; exact ⟨fun h => by simp at h, Nat.le_refl _⟩
      · rw [if_neg h3]
        simp only
        split
        · exact ⟨fun _ => rfl, by simp⟩
        · rename_i h0; exact ⟨fun h => absurd h h0, Nat.le_refl _⟩

section
variable {F : Nat → Prop} {w w1 W' : World} {hp p g : Nat} {h : Hs} {s s' : Sto} {jp : Nat} {lv lv' : Value} {l l' : List Bytes} {snv tlv v' : Value} {j' : Jr} {r : Bytes} {o : Obj}
theorem HsIn.jstep (hi : HsIn F w hp p g h s jp lv l snv tlv) (hst : StoAt w1 p g s') (hj : JAt 0 w1 jp p j' lv' l') (hmv : ∀ k, k < w.heap.size → lv'.ownBlock = some k → lv.ownBlock = some k) (hk : Keeps (fun k => stoF p g k ∨ k = jp ∨ lv.ownBlock = some k) w w1)
    (h1 : s'.blocks.length = s.blocks.length) (h2 : j'.from_ = h.j.from_) (h3 : j'.n = h.j.n) (h4 : j'.fin ≤ 32 * j'.n) (h5 : h.j.fin ≤ j'.fin) : HsIn (more F w) w1 hp p g { h with j := j' } s' jp lv' l' snv tlv := by
  have hsz := hk.size
  have hpw := hi.sto.lt.1
  have hgw := hi.sto.lt.2
  refine { blk := ?_, sto := hst, jr := hj, sn := ?_, tl := ?_, fp := ?_, fg := ?_, fh := .inl hi.fh, fj := .inl hi.fj, fl := ?_, fs := ?_, ft := ?_, hj := hi.hj, use := hi.use, age := hi.age, n4 := (by rw [h1]; exact hi.n4), ok := ⟨by simp only; rw [h3]; exact hi.ok.n1, by simp only; rw [h2, h3, h1]; exact hi.ok.le⟩, jf := h4, sl := hi.sl, tt := Nat.le_trans hi.tt h5 }
  · exact hi.blk.keeps hk (by
      rintro ((e | e) | e | e)
      · exact hi.fp (e ▸ hi.fh)
      · exact hi.fg (e ▸ hi.fh)
      · exact hi.hj e
      · exact (hi.fl _ e).2 rfl)
  · refine hk.own hi.sn (fun k hk2 => ?_)
    have := hi.fs k hk2
    rintro ((e | e) | e | e)
    · exact hi.fp (e ▸ this.1)
    · exact hi.fg (e ▸ this.1)
    · exact this.2.2.1 e
    · exact this.2.2.2 e
  · refine hk.own hi.tl (fun k hk2 => ?_)
    have := hi.ft k hk2
    rintro ((e | e) | e | e)
    · exact hi.fp (e ▸ this.1)
    · exact hi.fg (e ▸ this.1)
    · exact this.2.2.1 e
    · exact this.2.2.2.1 e
  · rintro (e | e)
    · exact hi.fp e
    · omega
  · rintro (e | e)
    · exact hi.fg e
    · omega
  · intro k e
    by_cases hlt : k < w.heap.size
    · have := hi.fl k (hmv k hlt e); exact ⟨.inl this.1, this.2⟩
    · exact ⟨.inr (by omega), by have := hi.blk.lt; omega⟩
  · intro k e
    have := hi.fs k e
    have hlt := (World.ownsRow.lt hi.sn k e).2
    exact ⟨.inl this.1, this.2.1, this.2.2.1, fun e2 => this.2.2.2 (hmv k hlt e2)⟩
  · intro k e
    have := hi.ft k e
    have hlt := (World.ownsRow.lt hi.tl k e).2
    exact ⟨.inl this.1, this.2.1, this.2.2.1, (fun e2 => this.2.2.2.1 (hmv k hlt e2)), this.2.2.2.2⟩
theorem HsIn.push (hi : HsIn F w hp p g h s jp lv l snv tlv) (hown : Mem.Own 0 W' 9 v' (strs h.tail ++ [str r])) (hgr : w.grownBy W' tlv.ownBlock) (hmv : Moves w tlv v') (hfin : h.tail.length + 1 ≤ h.j.fin) :
    HsIn (more F w) (W'.setCell ⟨hp, 4, none⟩ v') hp p g { h with tail := h.tail ++ [r] } s jp lv l snv v' ∧ Keeps F w (W'.setCell ⟨hp, 4, none⟩ v') := by
  have hk2 : Keeps (fun q => tlv.ownBlock = some q) w W' := (Keeps.refl _ w).grown hgr (fun q hq => .inl hq)
  have hk3 : Keeps (fun q => q = hp) W' (W'.setCell ⟨hp, 4, none⟩ v') := (Keeps.refl _ W').setCell (by simp) _
  have hpw := hi.sto.lt.1
  have hgw := hi.sto.lt.2
  have hhw := hi.blk.lt
  have hjw := hi.jr.blk.lt
  have nt : ∀ k, F k → True := fun _ _ => trivial
  have e : strs (h.tail ++ [r]) = strs h.tail ++ [str r] := by simp [strs]
  have hv : ∀ k, v'.ownBlock = some k → tlv.ownBlock = some k ∨ w.heap.size ≤ k := by
    intro k hk
    by_cases hlt : k < w.heap.size
    · by_cases ht : tlv.ownBlock = some k
      · exact .inl ht
      · exact absurd hk (hmv k hlt ht)
    · exact .inr (by omega)
  have hvh : ∀ k, v'.ownBlock = some k → F k ∧ k ≠ hp ∧ k ≠ jp ∧ lv.ownBlock ≠ some k ∧ snv.ownBlock ≠ some k ∨ w.heap.size ≤ k := by
    intro k hk
    rcases hv k hk with h | h
    · exact .inl (hi.ft k h)
    · exact .inr h
  refine ⟨{ blk := ?_, sto := ?_, jr := ?_, sn := ?_, tl := ?_, fp := ?_, fg := ?_, fh := .inl hi.fh, fj := .inl hi.fj, fl := ?_, fs := ?_, ft := ?_, hj := hi.hj, use := hi.use, age := hi.age, n4 := hi.n4, ok := hi.ok, jf := hi.jf, sl := hi.sl, tt := by simp only [List.length_append, List.length_singleton]; exact hfin }, ?_⟩
  · exact (hi.blk.keeps hk2 (fun e => (hi.ft _ e).2.1 rfl)).set 4 v'
  · exact (hi.sto.keeps hk2 (fun e => hi.fp (hi.ft _ e).1) (fun e => hi.fg (hi.ft _ e).1)).keeps hk3 (fun e => hi.fp (e ▸ hi.fh)) (fun e => hi.fg (e ▸ hi.fh))
  · exact (hi.jr.keeps hk2 (fun e => (hi.ft _ e).2.2.1 rfl) (fun k hk e => (hi.ft k e).2.2.2.1 hk)).keeps hk3 (fun e => hi.hj e.symm) (fun k hk e => (hi.fl k hk).2 e)
  · exact hk3.own (hk2.own hi.sn (fun k hk e => (hi.ft k e).2.2.2.2 hk)) (fun k hk e => (hi.fs k hk).2.1 e)
  · rw [e]
    exact hk3.own hown (fun k hk e => by
      rcases hvh k hk with h | h
      · exact h.2.1 e
      · omega)
  · rintro (e | e)
    · exact hi.fp e
    · omega
  · rintro (e | e)
    · exact hi.fg e
    · omega
  · intro k e; exact ⟨.inl (hi.fl k e).1, (hi.fl k e).2⟩
  · intro k e; exact ⟨.inl (hi.fs k e).1, (hi.fs k e).2⟩
  · intro k e
    rcases hvh k e with h | h
    · exact ⟨.inl h.1, h.2⟩
    · exact ⟨.inr h, by omega, by omega, fun e2 => by have := (World.ownsRow.lt hi.jr.own k e2).2; omega, fun e2 => by have := (World.ownsRow.lt hi.sn k e2).2; omega⟩
  · exact (hk2.mono (fun k _ h => (hi.ft k h).1)).step hk3 (fun k _ e => e ▸ hi.fh)
theorem HsIn.dead (hi : HsIn F w hp p g h s jp lv l snv tlv) : HsIn F (w.setCell ⟨hp, 6, none⟩ (.bool true)) hp p g { h with down := true } s jp lv l snv tlv ∧ Keeps F w (w.setCell ⟨hp, 6, none⟩ (.bool true)) := by
  have hk3 : Keeps (fun q => q = hp) w (w.setCell ⟨hp, 6, none⟩ (.bool true)) := (Keeps.refl _ w).setCell (by simp) _
  refine ⟨{ hi with blk := ?_, sto := ?_, jr := ?_, sn := ?_, tl := ?_ }, ?_⟩
  · exact hi.blk.set 6 _
  · exact hi.sto.keeps hk3 (fun e => hi.fp (e ▸ hi.fh)) (fun e => hi.fg (e ▸ hi.fh))
  · exact hi.jr.keeps hk3 (fun e => hi.hj e.symm) (fun k hk e => (hi.fl k hk).2 e)
  · exact hk3.own hi.sn (fun k hk e => (hi.fs k hk).2.1 e)
  · exact hk3.own hi.tl (fun k hk e => (hi.ft k hk).2.1 e)
  · exact (Keeps.refl _ w).setCell (.inl hi.fh) _
theorem more_more {w1 : World} (hs : w.heap.size ≤ w1.heap.size) (k : Nat) (h : more (more F w) w1 k) : more F w k := by
  rcases h with h | h
  · exact h
  · exact .inr (by omega)
theorem HsIn.lower (hi : HsIn (more (more F w) w1) W' hp p g h s jp lv l snv tlv) (hs : w.heap.size ≤ w1.heap.size) (h1 : ¬ F p) (h2 : ¬ F g) (h3 : p < w.heap.size) (h4 : g < w.heap.size) : HsIn (more F w) W' hp p g h s jp lv l snv tlv :=
  hi.mono (more_more hs) (by rintro (h | h); exact h1 h; omega) (by rintro (h | h); exact h2 h; omega)
end

attribute [local go_sem] bs_append
section
variable {F : Nat → Prop} {w : World} {hp p g : Nat} {h : Hs} {s : Sto} {jp : Nat} {lv : Value} {l : List Bytes} {snv tlv : Value} {r : Bytes}
theorem hpost_same (hi : HsIn F w hp p g h s jp lv l snv tlv) (e : Int) {w' : World} (hb : Below w.heap.size w w') : HPost F w hp p g (e, h, s) (.returned (.int .i64 e)) w' :=
  ⟨rfl, ⟨jp, lv, l, snv, tlv, (hi.below hb).toMore w hi.sto.lt.1 hi.sto.lt.2⟩, .of_below hb⟩
theorem happ_long (hi : HsIn F w hp p g h s jp lv l snv tlv) (hr : 398 < r.length) : Calls Tryd.prog 10 #[ptr hp, str r] w (HPost F w hp p g (3, h, s)) := by
  have HH := Lib.hid hi
  have hr' : (398 : Int) < (r.length : Int) := by omega
  clear hi hr
  go_enter Tryd.func10, Tryd.ntmps10
  go_wp2
  go_ret
  exact hpost_same HH.out _ (Below.refl _ _)
theorem happ_down (hi : HsIn F w hp p g h s jp lv l snv tlv) (hr : r.length ≤ 398) (hd : h.down = true) : Calls Tryd.prog 10 #[ptr hp, str r] w (HPost F w hp p g (16, h, s)) := by
  have c6 := hi.blk.cell6
  rw [hd] at c6
  have HH := Lib.hid hi
  have hr' : ¬ (398 : Int) < (r.length : Int) := by omega
  clear hi hr hd
  go_enter Tryd.func10, Tryd.ntmps10
  go_wp2
  go_ret
  exact hpost_same HH.out _ (Below.refl _ _)
set_option maxHeartbeats 1000000 in
set_option maxRecDepth 20000 in
theorem happ_main (hi : HsIn F w hp p g h s jp lv l snv tlv) (hr : r.length ≤ 398) (hd : h.down = false) (q : Int × Jr × Sto) (hq : q = appendJ h.j (pre2 116 32 r) s) (h' : Hs) (hh' : h' = { h with j := q.2.1, tail := if q.1 = 0 then h.tail ++ [r] else h.tail, down := q.1 == 16 }) :
    Calls Tryd.prog 10 #[ptr hp, str r] w (HPost F w hp p g (q.1, h', q.2.2)) := by
  have hxl : (pre2 116 32 r).length ≤ 1000000 := by simp [pre2]; omega
  have hinv := appendJ_inv h.j (pre2 116 32 r) s hi.jf
  have hfin := appendJ_fin h.j (pre2 116 32 r) s
  have hjn := hi.ok.le
  have hbn := hi.sto.wf.hi
  have hjf := hi.jf
  have htt := hi.tt
  have happ := append_any (r := pre2 116 32 r) hi.sto hi.jr hxl hi.ok (by omega) (Nat.zero_le _) (by rintro (e | e); exact hi.fp (e ▸ hi.fj); exact hi.fg (e ▸ hi.fj)) (fun k hk => by have := (hi.fl k hk).1; rintro (e | e); exact hi.fp (e ▸ this); exact hi.fg (e ▸ this))
  have hpl : (pre2 116 32 r).length = r.length + 2 := by simp [pre2]
  rw [← hq] at happ hinv hfin
  obtain ⟨e, j', s'⟩ := q
  simp only at hh'
  have HJ' := Lib.hid hh'
  clear hh'
  simp only at hinv hfin happ
  have c5 := hi.blk.cell5
  have c6 := hi.blk.cell6
  rw [hd] at c6
  have hhw := hi.blk.lt
  have HH := Lib.hid (And.intro hi (And.intro hinv (And.intro hfin (And.intro happ (And.intro hpl hq)))))
  have hr' : ¬ (398 : Int) < (r.length : Int) := by omega
  have l1 : ¬ 9223372036854775807 < 2 + r.length := by omega
  have l2 : ¬ 9223372036854775807 < r.length + 2 := by omega
  clear hi hinv hfin happ hpl hq hjn hbn hjf hxl
  have HD := Lib.hid (And.intro hd htt)
  clear hd htt
  go_enter Tryd.func10, Tryd.ntmps10
  go_wp2_with fail
  refine HH.out.2.2.2.1.mono ?_
  rintro e1 w1 ⟨rfl, hst1, ⟨lv', l', hj1, hmv1⟩, hk1⟩
  have hi1 := HH.out.1.jstep hst1 hj1 hmv1 hk1 HH.out.2.1.2.2.1 HH.out.2.1.1 HH.out.2.1.2.1 HH.out.2.1.2.2.2 HH.out.2.2.1.2
  have hkw : Keeps (hsF F p g) w w1 := hk1.mono (fun k _ h => by
    rcases h with h | h | h
    · exact .inl h
    · exact .inr (h ▸ HH.out.1.fj)
    · exact .inr (HH.out.1.fl k h).1)
  have HI := Lib.hid (And.intro hi1 hkw)
  clear hst1 hj1 hmv1 hk1 hkw c5 c6
  have c4 := hi1.blk.cell4
  have z4 := hi1.blk.free 4
  have c6 := hi1.blk.cell6
  have z6 := hi1.blk.free 6
  have hhw1 := hi1.blk.lt
  clear hi1
  obtain ⟨A2, m2, c2, rfl⟩ := own_shape HI.out.1.tl
  by_cases h0 : e = 0
  · subst h0
    go_wp2_with (at_builtin; refine wp_push (w := w1) E32 rfl _ _ rfl 0 (.slice A2 m2 c2) (strs h.tail) rfl (str r) rfl HI.out.1.tl rfl ?c1 (by decide) (Nat.zero_le _) ?_)
    case c1 => rw [strs_length]; have := HI.out.1.tt; have := HI.out.1.jf; have := HI.out.1.ok.le; have := HI.out.1.sto.wf.hi; simp only at *; omega
    intro v4 w4 hown4 hgr4 hmv4
    have hB4 := HI.out.1.blk.grown hgr4 (fun e => (HI.out.1.ft _ e).2.1 rfl)
    have k1 := hB4.cell4
    have z1 := hB4.free 4
    have HP := Lib.hid (HI.out.1.push hown4 hgr4 hmv4 (by have := HD.out.2; have := HH.out.2.2.1.1 (by simp); simp only; omega))
    obtain ⟨A4, m4, c4', rfl⟩ := own_shape hown4
    clear hown4 hgr4 hmv4 hB4 c4 z4
    go_wp2
    go_ret
    have hp1 := HP.out
    have hp2 := hp1.1.lower (HI.out.2.size) HH.out.1.fp HH.out.1.fg HH.out.1.sto.lt.1 HH.out.1.sto.lt.2
    have he : h' = { h with j := j', tail := h.tail ++ [r] } := by rw [HJ'.out, HD.out.1]; simp
    rw [he]
    exact ⟨rfl, ⟨_, _, _, _, _, hp2⟩, HI.out.2.step hp1.2 (fun k hk hh => by rcases hh with hh | hh; exact .inr hh; omega)⟩
  · by_cases h16 : e = 16
    · subst h16
      go_wp2
      go_ret
      have hp1 := HI.out.1.dead
      have he : h' = { h with j := j', down := true } := by rw [HJ'.out]; simp
      rw [he]
      exact ⟨rfl, ⟨_, _, _, _, _, hp1.1⟩, HI.out.2.step hp1.2 (fun k hk hh => by rcases hh with hh | hh; exact .inr hh; omega)⟩
    · have h0' : (e == 0) = false := by simpa using h0
      have h16' : (e == 16) = false := by simpa using h16
      have HE := Lib.hid (And.intro h0 h16')
      clear h0 h16
      go_wp2
      go_ret
      have he : h' = { h with j := j' } := by rw [HJ'.out, if_neg HE.out.1, HE.out.2, HD.out.1]
      rw [he]
      exact ⟨rfl, ⟨_, _, _, _, _, HI.out.1⟩, HI.out.2⟩
theorem happend_any (hi : HsAt F w hp p g h s) : Calls Tryd.prog 10 #[ptr hp, str r] w (HPost F w hp p g (appendH h r s)) := by
  obtain ⟨jp, lv, l, snv, tlv, hi⟩ := hi
  by_cases hr : 398 < r.length
  · have e : appendH h r s = (3, h, s) := by unfold appendH; rw [if_pos hr]
    rw [e]
    exact happ_long hi hr
  · cases hd : h.down with
    | true =>
      have e : appendH h r s = (16, h, s) := by unfold appendH; rw [if_neg hr, if_pos hd]
      rw [e]
      exact happ_down hi (by omega) hd
    | false =>
      have e : appendH h r s = ((appendJ h.j (pre2 116 32 r) s).1, { h with j := (appendJ h.j (pre2 116 32 r) s).2.1, tail := if (appendJ h.j (pre2 116 32 r) s).1 = 0 then h.tail ++ [r] else h.tail, down := (appendJ h.j (pre2 116 32 r) s).1 == 16 }, (appendJ h.j (pre2 116 32 r) s).2.2) := by
        unfold appendH; rw [if_neg hr, if_neg (by simp [hd])]
      rw [e]
      exact happ_main hi (by omega) hd _ rfl _ rfl
end
end Go.Proofs.YtoldogkfeimojaaDoor.Hv
