/- One step of the proof of a statement of this seat: plain laws and walks of the store, log, journal and halves packages; no condition. -/
import Derived.Test.YtoldogkfeimojaaDoorHvHs3
set_option linter.unusedVariables false
set_option linter.unusedSimpArgs false
open Go.RowKit
namespace Go.Proofs.YtoldogkfeimojaaDoor.Hv
open Go.Proofs.Hv Go.Proofs.Mem

theorem write_len' (s : Sto) (i : Int) (d : Bytes) : (write s i d).2.blocks.length = s.blocks.length := by
  unfold write
  split
  · rfl
  · split
    · rfl
    · split
      · rfl
      · split <;> simp
theorem wipe_len : ∀ (f i : Nat) (s : Sto), (wipeF f i s).2.blocks.length = s.blocks.length := by
  intro f
  induction f with
  | zero => intro i s; rfl
  | succ f ih =>
    intro i s
    rw [wipeF]
    split
    · exact ih _ _
    · simp only
      split
      · rw [ih]; exact write_len' _ _ _
      · exact write_len' _ _ _
theorem appendJ_len (j : Jr) (r : Bytes) (s : Sto) : (appendJ j r s).2.2.blocks.length = s.blocks.length := by
  unfold appendJ
  split
  · rfl
  · split
    · rfl
    · split
      · rfl
      · simp only
        split
        · exact putF_len _ _ _ _ _ _ _
        · exact putF_len _ _ _ _ _ _ _
theorem appendAll_len : ∀ (l : List Bytes) (j : Jr) (s : Sto), (appendAll l j s).2.2.blocks.length = s.blocks.length := by
  intro l
  induction l with
  | nil => intro j s; rfl
  | cons r l ih =>
    intro j s
    rw [appendAll]
    split
    · rw [ih]; exact appendJ_len _ _ _
    · exact appendJ_len _ _ _
theorem fresh_len (k : Nat) (l : List Bytes) (s : Sto) : (fresh k l s).2.blocks.length = s.blocks.length := by
  unfold fresh
  simp only
  split
  · split
    · simp only; rw [appendAll_len, (part_len _ _ _).1, wipe_len]
    · simp only; rw [(part_len _ _ _).1, wipe_len]
  · exact wipe_len _ _ _
theorem fresh_some (k : Nat) (l : List Bytes) (s : Sto) (h : (fresh k l s).1.1 = 0) : ∃ j, (fresh k l s).1.2 = some j := by
  unfold fresh at h ⊢
  simp only at h ⊢
  split at h
  · split at h
    · rename_i h1 h2; rw [if_pos h1, if_pos h2]; exact ⟨_, rfl⟩
    · rename_i h1 h2; exact absurd h h2
  · rename_i h1; exact absurd h h1

section
variable {F : Nat → Prop} {w w2 w3 : World} {hp p g : Nat} {h : Hs} {s s2 : Sto} {jp jp2 : Nat} {lv lv2 : Value} {l l2 L : List Bytes} {snv tlv v : Value} {j2 : Jr} {r : Bytes} {o : Obj}
/-- the store was written, the halves lie as they lay -/
theorem HsIn.wrote (hi : HsIn F w hp p g h s jp lv l snv tlv) (hst : StoAt w2 p g s2) (hk : Keeps (stoF p g) w w2) (h1 : s2.blocks.length = s.blocks.length) : HsIn F w2 hp p g h s2 jp lv l snv tlv :=
  have ns : ∀ k, F k → ¬ stoF p g k := fun k hk e => by
    rcases e with e | e
    · exact hi.fp (e ▸ hk)
    · exact hi.fg (e ▸ hk)
  { hi with
    blk := hi.blk.keeps hk (ns _ hi.fh)
    sto := hst
    jr := hi.jr.keeps hk (ns _ hi.fj) (fun k e => ns _ (hi.fl k e).1)
    sn := hk.own hi.sn (fun k e => ns _ (hi.fs k e).1)
    tl := hk.own hi.tl (fun k e => ns _ (hi.ft k e).1)
    n4 := by rw [h1]; exact hi.n4
    ok := ⟨hi.ok.n1, by rw [h1]; exact hi.ok.le⟩ }
theorem HsIn.flag (hi : HsIn F w hp p g h s jp lv l snv tlv) (b : Bool) : HsIn F (w.setCell ⟨hp, 6, none⟩ (.bool b)) hp p g { h with down := b } s jp lv l snv tlv ∧ Keeps F w (w.setCell ⟨hp, 6, none⟩ (.bool b)) := by
  have hk3 : Keeps (fun q => q = hp) w (w.setCell ⟨hp, 6, none⟩ (.bool b)) := (Keeps.refl _ w).setCell (by simp) _
  refine ⟨{ hi with blk := ?_, sto := ?_, jr := ?_, sn := ?_, tl := ?_ }, ?_⟩
  · exact hi.blk.set 6 _
  · exact hi.sto.keeps hk3 (fun e => hi.fp (e ▸ hi.fh)) (fun e => hi.fg (e ▸ hi.fh))
  · exact hi.jr.keeps hk3 (fun e => hi.hj e.symm) (fun k hk e => (hi.fl k hk).2 e)
  · exact hk3.own hi.sn (fun k hk e => (hi.fs k hk).2.1 e)
  · exact hk3.own hi.tl (fun k hk e => (hi.ft k hk).2.1 e)
  · exact (Keeps.refl _ w).setCell (.inl hi.fh) _
/-- another half was made and is used -/
theorem HsIn.renew (hi : HsIn F w hp p g h s jp lv l snv tlv) (hst : StoAt w2 p g s2) (hk : Keeps (stoF p g) w w2) (h1 : s2.blocks.length = s.blocks.length) (hj : JAt w.heap.size w2 jp2 p j2 lv2 l2) (ok : PartOk s2 j2.from_ j2.n) (fl : j2.fin ≤ 32 * j2.n) (ha : h.age + 1 ≤ 999999999999999999) (hL : L.length ≤ 1000000)
    (hk3 : Keeps none' ((w2.setCell ⟨hp, 1, none⟩ (.int .i64 ((1 - h.use : Nat) : Int))).setCell ⟨hp, 5, none⟩ (ptr jp2)) w3) (hown : Mem.Own w2.heap.size w3 9 v (strs L)) :
    HsIn (more F w) (((w3.setCell ⟨hp, 2, none⟩ (.int .i64 ((h.age + 1 : Nat) : Int))).setCell ⟨hp, 3, none⟩ v).setCell ⟨hp, 4, none⟩ (.slice none 0 0)) hp p g ⟨1 - h.use, h.age + 1, L, [], j2, h.down⟩ s2 jp2 lv2 l2 v (.slice none 0 0) ∧
      Keeps (hsF F p g) w (((w3.setCell ⟨hp, 2, none⟩ (.int .i64 ((h.age + 1 : Nat) : Int))).setCell ⟨hp, 3, none⟩ v).setCell ⟨hp, 4, none⟩ (.slice none 0 0)) := by
  have ns : ∀ k, F k → ¬ stoF p g k := fun k hk e => by
    rcases e with e | e
    · exact hi.fp (e ▸ hk)
    · exact hi.fg (e ▸ hk)
  have hsz := hk.size
  have hhw := hi.blk.lt
  have hpw := hi.sto.lt.1
  have hgw := hi.sto.lt.2
  have hge := hj.ge
  have hkA : Keeps (fun q => q = hp) w2 ((w2.setCell ⟨hp, 1, none⟩ (.int .i64 ((1 - h.use : Nat) : Int))).setCell ⟨hp, 5, none⟩ (ptr jp2)) := ((Keeps.refl _ w2).setCell (by simp) _).setCell (by simp) _
  have hkB : Keeps (fun q => q = hp) w2 w3 := hkA.step hk3 (fun _ _ e => e.elim)
  have hkC : Keeps (fun q => q = hp) w3 (((w3.setCell ⟨hp, 2, none⟩ (.int .i64 ((h.age + 1 : Nat) : Int))).setCell ⟨hp, 3, none⟩ v).setCell ⟨hp, 4, none⟩ (.slice none 0 0)) := (((Keeps.refl _ w3).setCell (by simp) _).setCell (by simp) _).setCell (by simp) _
  have hkD := hkB.trans hkC
  have hb2 := hi.blk.keeps hk (ns _ hi.fh)
  have hb3 := ((hb2.set 1 (.int .i64 ((1 - h.use : Nat) : Int))).set 5 (ptr jp2)).keeps hk3 (fun e => e)
  refine ⟨{ blk := ?_, sto := ?_, jr := ?_, sn := ?_, tl := Mem.Own.nil _ _ _, fp := ?_, fg := ?_, fh := .inl hi.fh, fj := .inr hge, fl := ?_, fs := ?_, ft := (fun k e => by simp [Value.ownBlock] at e), hj := (by omega), use := (by simp only; omega), age := ha, n4 := (by rw [h1]; exact hi.n4), ok := ok, jf := fl, sl := hL, tt := by simp }, ?_⟩
  · exact ((hb3.set 2 _).set 3 _).set 4 _
  · exact hst.keeps hkD (fun e => hi.fp (e ▸ hi.fh)) (fun e => hi.fg (e ▸ hi.fh))
  · have := hj.keeps hkD (by omega) (fun k e => by have := (World.ownsRow.lt hj.own k e).1; omega)
    exact ⟨this.blk, this.own.base (Nat.zero_le _), this.ne, Nat.zero_le _, this.len⟩
  · exact (hkC.own hown (fun k e => by have := (World.ownsRow.lt hown k e).1; omega)).base (Nat.zero_le _)
  · rintro (e | e)
    · exact hi.fp e
    · omega
  · rintro (e | e)
    · exact hi.fg e
    · omega
  · intro k e
    have := (World.ownsRow.lt hj.own k e).1
    exact ⟨.inr (by omega), by omega⟩
  · intro k e
    have h1 := (World.ownsRow.lt hown k e).1
    have h2 := hj.blk.lt
    exact ⟨.inr (by omega), by omega, by omega, fun e2 => by have := (World.ownsRow.lt hj.own k e2).2; omega⟩
  · exact (hk.mono (fun _ _ e => .inl e)).step hkD (fun k _ e => .inr (e ▸ hi.fh))
end
end Go.Proofs.YtoldogkfeimojaaDoor.Hv
