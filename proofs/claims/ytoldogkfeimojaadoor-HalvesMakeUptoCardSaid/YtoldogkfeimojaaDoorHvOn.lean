/- One step of the proof of a statement of this seat: plain laws and walks of the store, log, journal and halves packages; no condition. -/
import Derived.Test.YtoldogkfeimojaaDoorHvSame
import Derived.Test.YtoldogkfeimojaaDoorHvAwake
set_option linter.unusedVariables false
set_option linter.unusedSimpArgs false
open Go.RowKit
namespace Go.Proofs.YtoldogkfeimojaaDoor.Hv
open Go.Proofs.Hv Go.Proofs.Mem

/-- a law has begun at w; at W a store lies, made since -/
structure On (w W : World) (p g : Nat) (s : Sto) : Prop where
  below : Below w.heap.size w W
  sto : StoAt W p g s
  hp : w.heap.size ≤ p
  hg : w.heap.size ≤ g
  glob : Glob w
structure Hal (w W : World) (F : Nat → Prop) (p g hp : Nat) (h : Hs) (s : Sto) : Prop where
  lies : HsAt F W hp p g h s
  lo : ∀ k, F k → w.heap.size ≤ k

section
variable {w W W' : World} {p g hp : Nat} {s s' : Sto} {h h' : Hs} {F : Nat → Prop} {r : Bytes}
theorem On.globW (O : On w W p g s) : Glob W := O.glob.below (O.below.mono O.glob.size)
theorem On.step {S : Nat → Prop} (O : On w W p g s) (hst : StoAt W' p g s') (hk : Keeps S W W') (hS : ∀ k, S k → w.heap.size ≤ k) : On w W' p g s' :=
  ⟨O.below.trans (hk.to_below w.heap.size O.below.size (fun i hi e => by have := hS i e; omega)), hst, O.hp, O.hg, O.glob⟩
theorem On.on (O : On w W p g s) (hb : Below W.heap.size W W') : On w W' p g s := ⟨O.below.trans (hb.mono O.below.size), O.sto.below hb, O.hp, O.hg, O.glob⟩
theorem On.alloc (O : On w W p g s) (o : Obj) : On w (W.alloc o) p g s := O.on ((Below.refl _ _).alloc (Nat.le_refl _) o)
theorem On.stoF (O : On w W p g s) (k : Nat) (e : stoF p g k) : w.heap.size ≤ k := by rcases e with e | e; exact e ▸ O.hp; exact e ▸ O.hg
theorem HsAt.over {S : Nat → Prop} (hi : HsAt F W hp p g h s) (hst : StoAt W' p g s') (hk : Keeps S W W') (hS : ∀ k, F k → k < W.heap.size → ¬ S k) (hl : s'.blocks.length = s.blocks.length) : HsAt F W' hp p g h s' := by
  obtain ⟨jp, lv, l, snv, tlv, hi⟩ := hi
  exact ⟨jp, lv, l, snv, tlv, { hi with
    blk := hi.blk.keeps hk (hS _ hi.fh hi.blk.lt)
    sto := hst
    jr := hi.jr.keeps hk (hS _ hi.fj hi.jr.blk.lt) (fun k e => hS _ (hi.fl k e).1 (World.ownsRow.lt hi.jr.own k e).2)
    sn := hk.own hi.sn (fun k e => hS _ (hi.fs k e).1 (World.ownsRow.lt hi.sn k e).2)
    tl := hk.own hi.tl (fun k e => hS _ (hi.ft k e).1 (World.ownsRow.lt hi.tl k e).2)
    n4 := by rw [hl]; exact hi.n4
    ok := ⟨hi.ok.n1, by rw [hl]; exact hi.ok.le⟩ }⟩
theorem HsAt.cut (hi : HsAt F W hp p g h s) : HsAt (fun k => F k ∧ k < W.heap.size) W hp p g h s := by
  obtain ⟨jp, lv, l, snv, tlv, hi⟩ := hi
  exact ⟨jp, lv, l, snv, tlv, { hi with
    fp := fun e => hi.fp e.1
    fg := fun e => hi.fg e.1
    fh := ⟨hi.fh, hi.blk.lt⟩
    fj := ⟨hi.fj, hi.jr.blk.lt⟩
    fl := fun k e => ⟨⟨(hi.fl k e).1, (World.ownsRow.lt hi.jr.own k e).2⟩, (hi.fl k e).2⟩
    fs := fun k e => ⟨⟨(hi.fs k e).1, (World.ownsRow.lt hi.sn k e).2⟩, (hi.fs k e).2⟩
    ft := fun k e => ⟨⟨(hi.ft k e).1, (World.ownsRow.lt hi.tl k e).2⟩, (hi.ft k e).2⟩ }⟩
theorem Hal.cut (H : Hal w W F p g hp h s) : Hal w W (fun k => F k ∧ k < W.heap.size) p g hp h s := ⟨H.lies.cut, fun k e => H.lo k e.1⟩
theorem Hal.over {S : Nat → Prop} (H : Hal w W F p g hp h s) (O : On w W' p g s') (hk : Keeps S W W') (hS : ∀ k, F k → k < W.heap.size → ¬ S k) (hl : s'.blocks.length = s.blocks.length) : Hal w W' F p g hp h s' := ⟨H.lies.over O.sto hk hS hl, H.lo⟩
theorem Hal.on (H : Hal w W F p g hp h s) (hb : Below W.heap.size W W') : Hal w W' F p g hp h s := ⟨H.lies.below hb, H.lo⟩
theorem Hal.alloc (H : Hal w W F p g hp h s) (o : Obj) : Hal w (W.alloc o) F p g hp h s := H.on ((Below.refl _ _).alloc (Nat.le_refl _) o)
theorem HsAt.fp (hi : HsAt F W hp p g h s) : ¬ F p ∧ ¬ F g := by
  obtain ⟨jp, lv, l, snv, tlv, hi⟩ := hi
  exact ⟨hi.fp, hi.fg⟩
theorem HsAt.hlt (hi : HsAt F W hp p g h s) : hp < W.heap.size ∧ F hp := by
  obtain ⟨jp, lv, l, snv, tlv, hi⟩ := hi
  exact ⟨hi.blk.lt, hi.fh⟩
theorem Hal.nsto (H : Hal w W F p g hp h s) (k : Nat) (e : F k) : ¬ Hv.stoF p g k := by
  rintro (e2 | e2)
  · exact H.lies.fp.1 (e2 ▸ e)
  · exact H.lies.fp.2 (e2 ▸ e)

theorem on_open (O : On w W p g s) (hq : openH s = ((0, some h), s')) : Calls Tryd.prog 7 #[ptr p] W fun e W' =>
    ∃ hp, e = .returned (.tuple #[ptr hp, .int .i64 0]) ∧ On w W' p g s' ∧ Hal w W' (fun k => W.heap.size ≤ k) p g hp h s' ∧ Keeps (Hv.stoF p g) W W' := by
  refine (open_any W p g s O.sto O.globW).mono ?_
  rw [hq]
  rintro e W' ⟨hv, rfl, hst, hk, _, hs⟩
  obtain ⟨hp, rfl, hh⟩ := hs h rfl
  exact ⟨hp, rfl, O.step hst hk O.stoF, ⟨hh, fun k e => Nat.le_trans O.below.size e⟩, hk⟩
theorem on_append {e0 : Int} (O : On w W p g s) (H : Hal w W F p g hp h s) (hq : appendH h r s = (e0, h', s')) : Calls Tryd.prog 10 #[ptr hp, str r] W fun e W' =>
    e = .returned (.int .i64 e0) ∧ On w W' p g s' ∧ Hal w W' (more F W) p g hp h' s' ∧ Keeps (hsF F p g) W W' := by
  refine (happend_any H.lies).mono ?_
  rw [hq]
  rintro e W' ⟨rfl, hh, hk⟩
  exact ⟨rfl, O.step hh.sto hk (fun k e => by rcases e with e | e; exact O.stoF k e; exact H.lo k e), ⟨hh, fun k e => by rcases e with e | e; exact H.lo k e; exact Nat.le_trans O.below.size e⟩, hk⟩
theorem on_compact {e0 : Int} {A : Option Addr} {c : Nat} {L : List Bytes} (O : On w W p g s) (H : Hal w W F p g hp h s) (hr : Rd W A (strs L)) (hA : ∀ a, A = some a → 0 < L.length → ¬ Hv.stoF p g a.block ∧ a.block ≠ hp) (hl : L.length ≤ 900000) (hq : compactH h L s = (e0, h', s')) :
    Calls Tryd.prog 11 #[ptr hp, .slice A L.length c] W fun e W' =>
    e = .returned (.int .i64 e0) ∧ On w W' p g s' ∧ Hal w W' (more F W) p g hp h' s' ∧ Keeps (hsF F p g) W W' := by
  refine (hcompact_any H.lies O.globW hr hA hl).mono ?_
  rw [hq]
  rintro e W' ⟨rfl, hh, hk⟩
  exact ⟨rfl, O.step hh.sto hk (fun k e => by rcases e with e | e; exact O.stoF k e; exact H.lo k e), ⟨hh, fun k e => by rcases e with e | e; exact H.lo k e; exact Nat.le_trans O.below.size e⟩, hk⟩
theorem on_fuse (O : On w W p g s) (n m : Int) (h1 : -9223372036854775808 ≤ n) (h2 : n ≤ 9223372036854775807) (h3 : -9223372036854775808 ≤ m) (h4 : m ≤ 9223372036854775807) :
    Calls Tryd.prog 8 #[ptr p, .int .i64 n, .int .i64 m] W fun e W' => (∃ v, e = .returned v) ∧ On w W' p g (setFuse s n m) ∧ Keeps (Hv.stoF p g) W W' := by
  refine (fuse_any W p g s n m O.sto h1 h2 h3 h4).mono ?_
  rintro e W' ⟨hv, hst, hk⟩
  exact ⟨hv, O.step hst hk O.stoF, hk⟩
theorem on_up (O : On w W p g s) : Calls Tryd.prog 12 #[ptr p] W fun e W' => (∃ v, e = .returned v) ∧ On w W' p g (up s) ∧ Keeps (Hv.stoF p g) W W' := by
  refine (up_any W p g s O.sto).mono ?_
  rintro e W' ⟨hv, hst, hk⟩
  exact ⟨hv, O.step hst hk O.stoF, hk⟩
def ListPost (W : World) (l : List Bytes) (e : Ending) (W' : World) : Prop := ∃ A c, e = .returned (.slice A l.length c) ∧ Rd W' A (strs l) ∧ Below W.heap.size W W'
theorem ListPost.of {l : List Bytes} {e : Ending} (h : RetList W l e W') : ListPost W l e W' := by
  obtain ⟨v, rfl, hown, hb⟩ := h
  obtain ⟨A, c, rfl, hr, _⟩ := hown.rd
  exact ⟨A, c, by rw [strs_length], hr, hb⟩
theorem on_snap (H : Hal w W F p g hp h s) : Calls Tryd.prog 14 #[ptr hp] W (ListPost W h.snap) := (snapshot_any H.lies).mono fun _ _ h => .of h
theorem on_tail (H : Hal w W F p g hp h s) : Calls Tryd.prog 15 #[ptr hp] W (ListPost W h.tail) := (tail_any H.lies).mono fun _ _ h => .of h
theorem rd_one (W : World) (x : Bytes) : Rd (W.alloc (.cells #[str x] 9)) (some ⟨W.heap.size, 0, none⟩) (strs [x]) := (Blk.new W 9 [str x]).rd
theorem rd_two (W : World) (x y : Bytes) : Rd (W.alloc (.cells #[str x, str y] 9)) (some ⟨W.heap.size, 0, none⟩) (strs [x, y]) := (Blk.new W 9 [str x, str y]).rd
theorem same_self (A B : Option Addr) (a : List Bytes) (n m : Nat) (c d : Nat) (hn : n = a.length) (hm : m = a.length) (ha : Rd W A (strs a)) (hb : Rd W B (strs a)) (hl : a.length ≤ 1000000) :
    Calls Tryd.prog 13 #[.slice A n c, .slice B m d] W fun e W' => e = .returned (.bool true) ∧ Keeps none' W W' := by
  subst hn
  subst hm
  refine (same_any A B a a c d W ha hb hl hl).mono ?_
  rintro e W' ⟨rfl, hk⟩
  exact ⟨by rw [decide_eq_true (rfl : a = a)], hk⟩
end
end Go.Proofs.YtoldogkfeimojaaDoor.Hv
