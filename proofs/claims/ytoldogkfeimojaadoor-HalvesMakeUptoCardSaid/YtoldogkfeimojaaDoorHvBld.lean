/- One step of the proof of a statement of this seat: plain laws and walks of the store, log, journal and halves packages; no condition. -/
import Derived.Test.YtoldogkfeimojaaDoorHvLog6
import Derived.Lib.MakeNoZero
import Derived.Laws.Externs
set_option linter.unusedVariables false
set_option linter.unusedSimpArgs false
open Go.RowKit
namespace Go.Proofs.YtoldogkfeimojaaDoor.Hv
open Go.Proofs.Hv Go.Proofs.Mem

abbrev ptr' (g : Nat) : Value := .pointer (some ⟨g, 0, none⟩)
theorem bldSize : (Tryd.prog.info? 92).map (·.size) = some 2 := by kernel_rfl
theorem bldLies : liesAt Tryd.prog Tryd.prog.depth 92 (2 / Tryd.prog.cellsOf 92) 0 92 1 = true := by kernel_rfl
set_option maxHeartbeats 1000000 in
set_option maxRecDepth 100000 in
theorem copyCheck_used (b : Nat) (w : World) (h0 : w.cell? ⟨b, 0, none⟩ = some (.pointer (some ⟨b, 0, none⟩))) :
    Calls Tryd.prog 63 #[.pointer (some ⟨b, 0, none⟩)] w fun e w' => (∃ v, e = .returned v) ∧ w = w' := by
  obtain ⟨j, hj, _⟩ := Option.map_eq_some_iff.1 bldSize
  go_enter Tryd.func63, Tryd.ntmps63
  go_wp2
  rw [Lib.run_neq_ptr_same w _ Tryd.underlying89 hj]
  go_wp2
  go_end0
  exact ⟨⟨_, rfl⟩, rfl⟩
set_option maxHeartbeats 1000000 in
set_option maxRecDepth 100000 in
theorem copyCheck_fresh (b : Nat) (w : World) (h0 : w.cell? ⟨b, 0, none⟩ = some (.pointer none)) (hsh : w.shape? b = some (92, 2)) (hfz : w.frozen? ⟨b, 0, none⟩ = false) :
    Calls Tryd.prog 63 #[.pointer (some ⟨b, 0, none⟩)] w fun e w' => (∃ v, e = .returned v) ∧ w' = w.setCell ⟨b, 0, none⟩ (.pointer (some ⟨b, 0, none⟩)) := by
  obtain ⟨j, hj, hjs⟩ := Option.map_eq_some_iff.1 bldSize
  go_enter Tryd.func63, Tryd.ntmps63
  go_wp2
  rw [Lib.run_to_unsafe w ⟨b, 0, none⟩ Tryd.underlying89 Tryd.underlying125 hj (by rw [hjs]; decide) hsh (Nat.zero_lt_succ 1)]
  simp only [Result.andThen]
  rw [Oper.upon_value]
  go_wp2
  rw [run_callFunc_extern Tryd.func76 (by kernel_rfl) (by kernel_rfl) (by kernel_rfl) (e := Extern.AbiNoEscape.same) (by kernel_rfl)]
  rw [Lib.run_noEscape]
  simp only [Result.andThen]
  rw [Oper.upon_value]
  go_wp2
  rw [Lib.run_from_unsafe w ⟨b, 0, none⟩ Tryd.underlying125 Tryd.underlying89 hj hsh bldLies]
  simp only [Result.andThen]
  rw [Oper.upon_value]
  go_wp2
  go_end0
  exact ⟨⟨_, rfl⟩, rfl⟩

/-- a builder of the call's own -/
def Bld (base : Nat) (w : World) (b : Nat) (l : Bytes) : Prop := Lib.IsBuilder 92 5 base b (u8s l) w
theorem Bld.new {w : World} {base : Nat} (hb : base ≤ w.heap.size) : Bld base (w.alloc (.cells #[.pointer none, .slice none 0 0] 92)) w.heap.size [] :=
  .inl ⟨hb, .slice none 0 0, heap_alloc_new w _, World.ownsRow_nil _ _ _ _, by simp [Value.ownBlock]⟩
theorem Bld.open {base : Nat} {w : World} {b : Nat} {l : Bytes} (h : Bld base w b l) : ∃ p v, Blk w b 92 [p, v] ∧ (p = .pointer none ∨ p = ptr' b) ∧ Own base w 5 v (u8s l) ∧ v.ownBlock ≠ some b ∧ base ≤ b := by
  rcases h with h | h
  all_goals
    obtain ⟨hB, v, hb, hown, hne⟩ := h
    exact ⟨_, v, hb, by first | exact .inl rfl | exact .inr rfl, hown, hne, hB⟩
theorem Bld.shut {base : Nat} {w : World} {b : Nat} {l : Bytes} {v : Value} (hb : Blk w b 92 [ptr' b, v]) (hown : Own base w 5 v (u8s l)) (hne : v.ownBlock ≠ some b) (hB : base ≤ b) : Bld base w b l :=
  .inr ⟨hB, v, hb, hown, hne⟩
theorem Bld.lt {base : Nat} {w : World} {b : Nat} {l : Bytes} (h : Bld base w b l) : b < w.heap.size := by
  obtain ⟨p, v, hb, _⟩ := h.open
  exact hb.lt
theorem Bld.below {base : Nat} {w w' : World} {b : Nat} {l : Bytes} (h : Bld base w b l) (hk : Below w.heap.size w w') : Bld base w' b l := by
  rcases h with h | h
  · obtain ⟨hB, v, hb, hown, hne⟩ := h
    exact .inl ⟨hB, v, (hk.block b (Array.getElem?_eq_some_iff.1 hb).1).trans hb, Own.below hown hk, hne⟩
  · obtain ⟨hB, v, hb, hown, hne⟩ := h
    exact .inr ⟨hB, v, (hk.block b (Array.getElem?_eq_some_iff.1 hb).1).trans hb, Own.below hown hk, hne⟩

theorem copyCheck_any (base b : Nat) (l : Bytes) (w : World) (h : Bld base w b l) :
    Calls Tryd.prog 63 #[.pointer (some ⟨b, 0, none⟩)] w fun e w' => (∃ v, e = .returned v) ∧ ∃ v, Blk w' b 92 [ptr' b, v] ∧ Own base w' 5 v (u8s l) ∧ v.ownBlock ≠ some b ∧ Keeps (fun k => k = b) w w' := by
  obtain ⟨p, v, hb, hp, hown, hne, hB⟩ := h.open
  rcases hp with rfl | rfl
  · refine (copyCheck_fresh b w hb.cell0 ?_ (hb.free 0)).mono ?_
    · unfold Blk at hb; simp [World.shape?, hb]
    · rintro e w' ⟨hv, rfl⟩
      exact ⟨hv, v, hb.set 0 _, Keeps.own (S := fun k => k = b) ((Keeps.refl _ w).setCell (by simp) _) hown (fun g hg e => hne (by rw [hg, e])), hne, (Keeps.refl _ w).setCell (by simp) _⟩
  · refine (copyCheck_used b w hb.cell0).mono ?_
    rintro e w' ⟨hv, rfl⟩
    exact ⟨hv, v, hb, hown, hne, Keeps.refl _ _⟩

theorem E90' : Elem Tryd.prog 90 5 (.int .u8 0) 1 := elem_of Tryd.underlying90 (by kernel_rfl) rfl
def WritePost (base b : Nat) (l d : Bytes) (w : World) (e : Ending) (w' : World) : Prop := (∃ v, e = .returned v) ∧ Bld base w' b (l ++ d) ∧ Below base w w'
set_option maxHeartbeats 400000 in
set_option maxRecDepth 20000 in
theorem bwrite_any (base b : Nat) (l d : Bytes) (A : Option Addr) (c : Nat) (w : World) (h : Bld base w b l) (hA : Rd w A (u8s d)) (hnil : A = none → c = 0) (hne' : ∀ a, A = some a → a.block ≠ b) (hlen : l.length + d.length ≤ 1000000) (hbase : base ≤ w.heap.size) (n : Nat) (hn : n = d.length) :
    Calls Tryd.prog 52 #[.pointer (some ⟨b, 0, none⟩), .slice A n c] w (WritePost base b l d w) := by
  subst hn
  have hB : base ≤ b := h.open.choose_spec.choose_spec.2.2.2.2
  have HH := Lib.hid (And.intro h (And.intro hA (And.intro hnil hne')))
  clear h hA hnil hne'
  go_enter Tryd.func52, Tryd.ntmps52
  go_wp2_with fail
  refine (copyCheck_any base b l _ HH.out.1).mono ?_
  rintro e w1 ⟨⟨v0, rfl⟩, v, hb1, hown1, hne1, hk1⟩
  have c1 := hb1.cell1
  have z1 := hb1.free 1
  have HO := Lib.hid (And.intro hb1 (And.intro hown1 (And.intro hne1 hk1)))
  clear hb1 hown1 hne1 hk1
  go_wp2_with (at_builtin; refine wp_append (w := w1) E90' rfl _ _ rfl base v (u8s l) rfl HO.out.2.1 A d.length c (u8s d) rfl (u8s_length d).symm HH.out.2.2.1 ?c0 (u8s_one d) ?c1 (by decide) ?c2 ?_)
  case c0 => exact HO.out.2.2.2.rd HH.out.2.1 HH.out.2.2.2
  case c1 => rw [u8s_length, u8s_length]; omega
  case c2 => exact Nat.le_trans hbase HO.out.2.2.2.size
  intro v2 w2 hown2 hgr2 hmv2
  have hb2 := HO.out.1.grown hgr2 HO.out.2.2.1
  have c2 := hb2.cell1
  have z2 := hb2.free 1
  have hne2 := hmv2 b HO.out.1.lt HO.out.2.2.1
  have hbw : Below base w w2 := (HO.out.2.2.2.to_below base hbase (fun i hi e => by omega)).grown hgr2 (Nat.le_trans hbase HO.out.2.2.2.size) (fun k hk => (World.ownsRow.lt HO.out.2.1 k hk).1)
  rw [← u8s_append] at hown2
  have HF := Lib.hid (And.intro hb2 (And.intro hown2 (And.intro hne2 hbw)))
  clear hb2 hne2 hbw hgr2 hmv2
  rcases hown2.shape with ⟨rfl, _⟩ | ⟨g2, cc2, rfl, _⟩
  all_goals
    clear hown2
    go_wp2
    go_ret2
    obtain ⟨hb2, hown2, hne2, hbw⟩ := HF.out
    refine ⟨⟨_, rfl⟩, Bld.shut (hb2.set 1 _) ?_ hne2 hB, hbw.setCell hB _⟩
    exact hown2.kept (grownBy_setCell w2 b 1 _) (.inr hne2)
end Go.Proofs.YtoldogkfeimojaaDoor.Hv
