/- One step of the proof of a statement of this seat: plain laws and walks of the store, log, journal and halves packages; no condition. -/
import Derived.Test.YtoldogkfeimojaaDoorHvFr
set_option linter.unusedVariables false
set_option linter.unusedSimpArgs false
open Go.RowKit
namespace Go.Proofs.YtoldogkfeimojaaDoor.Hv
open Go.Proofs.Hv Go.Proofs.Mem

/-- halves in memory: all blocks but the store's are of F -/
structure HsIn (F : Nat → Prop) (w : World) (hp p g : Nat) (h : Hs) (s : Sto) (jp : Nat) (lv : Value) (l : List Bytes) (snv tlv : Value) : Prop where
  blk : Blk w hp 55 [ptr p, .int .i64 (h.use : Int), .int .i64 (h.age : Int), snv, tlv, ptr jp, .bool h.down]
  sto : StoAt w p g s
  jr : JAt 0 w jp p h.j lv l
  sn : Mem.Own 0 w 9 snv (strs h.snap)
  tl : Mem.Own 0 w 9 tlv (strs h.tail)
  fp : ¬ F p
  fg : ¬ F g
  fh : F hp
  fj : F jp
  fl : ∀ k, lv.ownBlock = some k → F k ∧ k ≠ hp
  fs : ∀ k, snv.ownBlock = some k → F k ∧ k ≠ hp ∧ k ≠ jp ∧ lv.ownBlock ≠ some k
  ft : ∀ k, tlv.ownBlock = some k → F k ∧ k ≠ hp ∧ k ≠ jp ∧ lv.ownBlock ≠ some k ∧ snv.ownBlock ≠ some k
  hj : hp ≠ jp
  use : h.use ≤ 1
  age : h.age ≤ 999999999999999999
  n4 : 4 ≤ s.blocks.length
  ok : PartOk s h.j.from_ h.j.n
  jf : h.j.fin ≤ 32 * h.j.n
  sl : h.snap.length ≤ 1000000
  tt : h.tail.length ≤ h.j.fin
def HsAt (F : Nat → Prop) (w : World) (hp p g : Nat) (h : Hs) (s : Sto) : Prop := ∃ jp lv l snv tlv, HsIn F w hp p g h s jp lv l snv tlv
abbrev more (F : Nat → Prop) (w : World) : Nat → Prop := fun k => F k ∨ w.heap.size ≤ k
/-- what is not the store's and not the halves' stays -/
abbrev hsF (F : Nat → Prop) (p g : Nat) : Nat → Prop := fun k => stoF p g k ∨ F k

section
variable {F : Nat → Prop} {w w' : World} {hp p g : Nat} {h : Hs} {s : Sto} {jp : Nat} {lv : Value} {l : List Bytes} {snv tlv : Value}
theorem HsIn.keeps {S : Nat → Prop} (hi : HsIn F w hp p g h s jp lv l snv tlv) (hk : Keeps S w w') (hS : ∀ k, S k → ¬ F k ∧ k ≠ p ∧ k ≠ g) : HsIn F w' hp p g h s jp lv l snv tlv :=
  { hi with
    blk := hi.blk.keeps hk (fun e => (hS _ e).1 hi.fh)
    sto := hi.sto.keeps hk (fun e => (hS _ e).2.1 rfl) (fun e => (hS _ e).2.2 rfl)
    jr := hi.jr.keeps hk (fun e => (hS _ e).1 hi.fj) (fun k hk2 e => (hS _ e).1 (hi.fl k hk2).1)
    sn := hk.own hi.sn (fun k hk2 e => (hS _ e).1 (hi.fs k hk2).1)
    tl := hk.own hi.tl (fun k hk2 e => (hS _ e).1 (hi.ft k hk2).1) }
theorem HsIn.below (hi : HsIn F w hp p g h s jp lv l snv tlv) (hb : Below w.heap.size w w') : HsIn F w' hp p g h s jp lv l snv tlv := hi.keeps (S := none') (.of_below hb) (fun _ h => h.elim)
theorem HsIn.mono {F' : Nat → Prop} (hi : HsIn F w hp p g h s jp lv l snv tlv) (hF : ∀ k, F k → F' k) (h1 : ¬ F' p) (h2 : ¬ F' g) : HsIn F' w hp p g h s jp lv l snv tlv :=
  { hi with fp := h1, fg := h2, fh := hF _ hi.fh, fj := hF _ hi.fj, fl := fun k e => ⟨hF _ (hi.fl k e).1, (hi.fl k e).2⟩, fs := fun k e => ⟨hF _ (hi.fs k e).1, (hi.fs k e).2⟩, ft := fun k e => ⟨hF _ (hi.ft k e).1, (hi.ft k e).2⟩ }
theorem HsAt.keeps {S : Nat → Prop} (hi : HsAt F w hp p g h s) (hk : Keeps S w w') (hS : ∀ k, S k → ¬ F k ∧ k ≠ p ∧ k ≠ g) : HsAt F w' hp p g h s := by
  obtain ⟨jp, lv, l, snv, tlv, hi⟩ := hi
  exact ⟨jp, lv, l, snv, tlv, hi.keeps hk hS⟩
theorem HsAt.below (hi : HsAt F w hp p g h s) (hb : Below w.heap.size w w') : HsAt F w' hp p g h s := hi.keeps (S := none') (.of_below hb) (fun _ h => h.elim)
theorem HsAt.sto (hi : HsAt F w hp p g h s) : StoAt w p g s := hi.choose_spec.choose_spec.choose_spec.choose_spec.choose_spec.sto
theorem HsIn.toMore (hi : HsIn F w hp p g h s jp lv l snv tlv) (W : World) (h1 : p < W.heap.size) (h2 : g < W.heap.size) : HsIn (more F W) w hp p g h s jp lv l snv tlv :=
  hi.mono (fun _ h => .inl h) (by rintro (h | h); exact hi.fp h; omega) (by rintro (h | h); exact hi.fg h; omega)

theorem snapshot_any (hi : HsAt F w hp p g h s) : Calls Tryd.prog 14 #[ptr hp] w (RetList w h.snap) := by
  obtain ⟨jp, lv, l, snv, tlv, hi⟩ := hi
  have c3 := hi.blk.cell3
  have HH := Lib.hid hi
  obtain ⟨A, m, c, rfl⟩ := own_shape hi.sn
  clear hi
  go_enter Tryd.func14, Tryd.ntmps14
  go_wp2_with fail
  refine (clone_own 0 _ h.snap _ HH.out.sn HH.out.sl).mono ?_
  rintro e w1 ⟨v, rfl, hr⟩
  have HR := Lib.hid hr
  clear hr
  go_wp2
  go_ret
  exact ⟨v, rfl, HR.out⟩
theorem tail_any (hi : HsAt F w hp p g h s) : Calls Tryd.prog 15 #[ptr hp] w (RetList w h.tail) := by
  obtain ⟨jp, lv, l, snv, tlv, hi⟩ := hi
  have c3 := hi.blk.cell4
  have HH := Lib.hid hi
  have hn : h.tail.length ≤ 1000000 := by have := hi.tt; have := hi.jf; have := hi.ok.le; have := hi.sto.wf.hi; omega
  obtain ⟨A, m, c, rfl⟩ := own_shape hi.tl
  clear hi
  go_enter Tryd.func15, Tryd.ntmps15
  go_wp2_with fail
  refine (clone_own 0 _ h.tail _ HH.out.tl hn).mono ?_
  rintro e w1 ⟨v, rfl, hr⟩
  have HR := Lib.hid hr
  clear hr
  go_wp2
  go_ret
  exact ⟨v, rfl, HR.out⟩
theorem hage_any (hi : HsAt F w hp p g h s) : Calls Tryd.prog 17 #[ptr hp] w fun e w' => e = .returned (.int .i64 (h.age : Int)) ∧ w = w' := by
  obtain ⟨jp, lv, l, snv, tlv, hi⟩ := hi
  have c3 := hi.blk.cell2
  clear hi
  go_enter Tryd.func17, Tryd.ntmps17
  go_wp2
  go_ret
  exact ⟨rfl, rfl⟩
theorem hroom_any (hi : HsAt F w hp p g h s) : Calls Tryd.prog 16 #[ptr hp] w (RetB (.int .i64 h.j.room) w) := by
  obtain ⟨jp, lv, l, snv, tlv, hi⟩ := hi
  have c3 := hi.blk.cell5
  have HH := Lib.hid hi
  have hn : h.j.n ≤ 256 := by have := hi.ok.le; have := hi.sto.wf.hi; omega
  have hf : h.j.fin ≤ 1000000 := by have := hi.jf; omega
  clear hi
  go_enter Tryd.func16, Tryd.ntmps16
  go_wp2_with fail
  refine (jroom_any 0 w jp p h.j lv l HH.out.jr hn hf).mono ?_
  rintro e w1 ⟨rfl, q, rfl⟩
  go_wp2
  go_ret
  exact ⟨rfl, ((Keeps.refl none' w).drewN q).to_below0⟩
end
end Go.Proofs.YtoldogkfeimojaaDoor.Hv
