/- One step of the proof of a statement of this seat: plain laws and walks of the store, log, journal and halves packages; no condition. -/
import Derived.Test.YtoldogkfeimojaaDoorHvHs5
import Derived.Test.YtoldogkfeimojaaDoorHvPlain3
set_option linter.unusedVariables false
set_option linter.unusedSimpArgs false
open Go.RowKit
namespace Go.Proofs.YtoldogkfeimojaaDoor.Hv
open Go.Proofs.Hv Go.Proofs.Mem

/-- what Open answers -/
def OpenPost (w : World) (p g : Nat) (q : (Int × Option Hs) × Sto) (e : Ending) (w' : World) : Prop :=
  ∃ hv, e = .returned (.tuple #[hv, .int .i64 q.1.1]) ∧ StoAt w' p g q.2 ∧ Keeps (stoF p g) w w' ∧ (q.1.2 = none → hv = .pointer none) ∧ ∀ h, q.1.2 = some h → ∃ hp, hv = ptr hp ∧ HsAt (fun k => w.heap.size ≤ k) w' hp p g h q.2

theorem open_nil (w : World) : Calls Tryd.prog 7 #[.pointer none] w fun e w' => e = .returned (.tuple #[.pointer none, .int .i64 1]) ∧ w' = w := by
  go_enter Tryd.func7, Tryd.ntmps7
  go_wp2
  go_ret2
  exact ⟨rfl, rfl⟩
theorem open_small (w : World) (p g : Nat) (s : Sto) (hst : StoAt w p g s) (h4 : s.blocks.length < 4) : Calls Tryd.prog 7 #[ptr p] w (OpenPost w p g ((1, none), s)) := by
  have hhi := hst.wf.hi
  have HH := Lib.hid hst
  clear hst
  go_enter Tryd.func7, Tryd.ntmps7
  go_wp2_with fail
  refine (blocks_any w p g s HH.out).mono ?_
  rintro e w1 ⟨rfl, rfl⟩
  go_wp2
  go_ret2
  exact ⟨_, rfl, HH.out, Keeps.refl _ _, fun _ => rfl, fun h hh => by cases hh⟩

structure HalfOk (base : Nat) (W : World) (a : Nat × List Bytes × List Bytes) (vs vt : Value) : Prop where
  s : Mem.Own base W 9 vs (strs a.2.1)
  t : Mem.Own base W 9 vt (strs a.2.2)
  ne : ∀ q, vs.ownBlock = some q → vt.ownBlock ≠ some q
theorem HalfOk.nil (base : Nat) (W : World) : HalfOk base W (0, [], []) (.slice none 0 0) (.slice none 0 0) := ⟨Mem.Own.nil _ _ _, Mem.Own.nil _ _ _, by simp [Value.ownBlock]⟩
theorem HalfOk.keeps {S : Nat → Prop} {base : Nat} {W W' : World} {a : Nat × List Bytes × List Bytes} {vs vt : Value} (h : HalfOk base W a vs vt) (hk : Keeps S W W') (hS : ∀ k, base ≤ k → k < W.heap.size → ¬ S k) : HalfOk base W' a vs vt :=
  ⟨hk.own h.s (fun k e => hS k (World.ownsRow.lt h.s k e).1 (World.ownsRow.lt h.s k e).2), hk.own h.t (fun k e => hS k (World.ownsRow.lt h.t k e).1 (World.ownsRow.lt h.t k e).2), h.ne⟩
theorem HalfOk.base {base base' : Nat} {W : World} {a : Nat × List Bytes × List Bytes} {vs vt : Value} (h : HalfOk base W a vs vt) (hb : base' ≤ base) : HalfOk base' W a vs vt := ⟨h.s.base hb, h.t.base hb, h.ne⟩

def half0 : Nat × List Bytes × List Bytes := (0, [], [])
def halfAt (k i : Nat) (r : Nat × List Bytes × List Bytes) : Nat × List Bytes × List Bytes := if i < k then r else half0
structure OpRel (w : World) (ra rb : Nat × List Bytes × List Bytes) (k : Nat) (s0 t0 s1 t1 : Value) (W : World) : Prop where
  blk : Blk W w.heap.size 48 [.int .i64 ((halfAt k 0 ra).1 : Int), s0, t0, .int .i64 ((halfAt k 1 rb).1 : Int), s1, t1]
  h0 : HalfOk (w.heap.size + 1) W (halfAt k 0 ra) s0 t0
  h1 : HalfOk (w.heap.size + 1) W (halfAt k 1 rb) s1 t1
  below : Below w.heap.size w W

theorem look_le (s : Sto) (b n : Nat) (h : SWf s) (hn : b + n ≤ s.blocks.length) : (Hv.look b n s).length ≤ 8192 ∧ ∀ x ∈ Hv.look b n s, x.length ≤ 1000000 := by
  have h1 := scan_end (partBytes s b n)
  have h2 := partBytes_len h b n hn
  have h3 := h.hi
  unfold Hv.look
  refine ⟨by omega, fun x hx => ?_⟩
  have := h1.2.2 x hx
  simp [okRec] at this
  omega
/-- one half is read -/
theorem half_call (w : World) (p g b n : Nat) (s : Sto) (hst : StoAt w p g s) (hg : Glob w) (ho : PartOk s b n) (v : Value) (base : Nat) (hown : Mem.Own base w 9 v (strs (Hv.look b n s))) :
    Calls Tryd.prog 20 #[v] w (ReadPost w (readHalf (Hv.look b n s))) := by
  have h := look_le s b n hst.wf ho.le
  exact read_any v base _ w hg hown (by omega) h.2

theorem rel_0 {w W w3 : World} {ra rb : Nat × List Bytes × List Bytes} {s0 t0 s1 t1 vs vt : Value} (h : OpRel w ra rb 0 s0 t0 s1 t1 W) (hb : Below W.heap.size W w3) (hB : Blk w3 w.heap.size 48 [.int .i64 ((halfAt 0 0 ra).1 : Int), s0, t0, .int .i64 ((halfAt 0 1 rb).1 : Int), s1, t1]) (hok : HalfOk (w.heap.size + 1) w3 ra vs vt) :
    OpRel w ra rb 1 vs vt s1 t1 (((w3.setCell ⟨w.heap.size, 0, none⟩ (.int .i64 (ra.1 : Int))).setCell ⟨w.heap.size, 1, none⟩ vs).setCell ⟨w.heap.size, 2, none⟩ vt) := by
  have hk : Keeps (fun k => k = w.heap.size) w3 (((w3.setCell ⟨w.heap.size, 0, none⟩ (.int .i64 (ra.1 : Int))).setCell ⟨w.heap.size, 1, none⟩ vs).setCell ⟨w.heap.size, 2, none⟩ vt) := (((Keeps.refl _ w3).setCell (by simp) _).setCell (by simp) _).setCell (by simp) _
  refine ⟨((hB.set 0 _).set 1 _).set 2 _, hok.keeps hk (by omega), (h.h1.keeps (Keeps.of_below hb : Keeps none' W w3) (fun _ _ _ h => h)).keeps hk (by omega), ?_⟩
  exact (((h.below.trans (hb.mono h.below.size)).setCell (Nat.le_refl _) _).setCell (Nat.le_refl _) _).setCell (Nat.le_refl _) _
theorem rel_1 {w W w3 : World} {ra rb : Nat × List Bytes × List Bytes} {s0 t0 s1 t1 vs vt : Value} (h : OpRel w ra rb 1 s0 t0 s1 t1 W) (hb : Below W.heap.size W w3) (hB : Blk w3 w.heap.size 48 [.int .i64 ((halfAt 1 0 ra).1 : Int), s0, t0, .int .i64 ((halfAt 1 1 rb).1 : Int), s1, t1]) (hok : HalfOk (w.heap.size + 1) w3 rb vs vt) :
    OpRel w ra rb 2 s0 t0 vs vt (((w3.setCell ⟨w.heap.size, 3, none⟩ (.int .i64 (rb.1 : Int))).setCell ⟨w.heap.size, 4, none⟩ vs).setCell ⟨w.heap.size, 5, none⟩ vt) := by
  have hk : Keeps (fun k => k = w.heap.size) w3 (((w3.setCell ⟨w.heap.size, 3, none⟩ (.int .i64 (rb.1 : Int))).setCell ⟨w.heap.size, 4, none⟩ vs).setCell ⟨w.heap.size, 5, none⟩ vt) := (((Keeps.refl _ w3).setCell (by simp) _).setCell (by simp) _).setCell (by simp) _
  refine ⟨((hB.set 3 _).set 4 _).set 5 _, (h.h0.keeps (Keeps.of_below hb : Keeps none' W w3) (fun _ _ _ h => h)).keeps hk (by omega), hok.keeps hk (by omega), ?_⟩
  exact (((h.below.trans (hb.mono h.below.size)).setCell (Nat.le_refl _) _).setCell (Nat.le_refl _) _).setCell (Nat.le_refl _) _
theorem open_one {s : Sto} {n : Nat} {ra rb : Nat × List Bytes × List Bytes} (h4 : 4 ≤ s.blocks.length) (hn : n = s.blocks.length / 2) (hra : ra = readHalf (Hv.look 0 n s)) (hrb : rb = readHalf (Hv.look n n s)) (hu : ra.1 < rb.1) :
    openH s = if (Hv.part n n s).1.1 = 0 then ((0, some ⟨1, rb.1, rb.2.1, rb.2.2, ⟨n, n, (Hv.part n n s).1.2.2, false⟩, false⟩), (Hv.part n n s).2) else (((Hv.part n n s).1.1, none), (Hv.part n n s).2) := by
  unfold openH
  rw [if_neg (by omega)]
  simp only
  rw [← hn, ← hra, ← hrb, if_pos hu, if_pos hu, if_neg (by omega), Nat.one_mul]
theorem open_zero {s : Sto} {n : Nat} {ra rb : Nat × List Bytes × List Bytes} (h4 : 4 ≤ s.blocks.length) (hn : n = s.blocks.length / 2) (hra : ra = readHalf (Hv.look 0 n s)) (hrb : rb = readHalf (Hv.look n n s)) (hu : ¬ ra.1 < rb.1) (hz : ra.1 ≠ 0) :
    openH s = if (Hv.part 0 n s).1.1 = 0 then ((0, some ⟨0, ra.1, ra.2.1, ra.2.2, ⟨0, n, (Hv.part 0 n s).1.2.2, false⟩, false⟩), (Hv.part 0 n s).2) else (((Hv.part 0 n s).1.1, none), (Hv.part 0 n s).2) := by
  unfold openH
  rw [if_neg (by omega)]
  simp only
  rw [← hn, ← hra, ← hrb, if_neg hu, if_neg hu, if_neg hz, Nat.zero_mul]
theorem open_fresh {s : Sto} {n : Nat} {ra rb : Nat × List Bytes × List Bytes} (h4 : 4 ≤ s.blocks.length) (hn : n = s.blocks.length / 2) (hra : ra = readHalf (Hv.look 0 n s)) (hrb : rb = readHalf (Hv.look n n s)) (hu : ¬ ra.1 < rb.1) (hz : ra.1 = 0) :
    openH s = if (fresh 0 [[103, 32, 49], live] s).1.1 = 0 then ((0, (fresh 0 [[103, 32, 49], live] s).1.2.map fun j => ⟨0, 1, [], [], j, false⟩), (fresh 0 [[103, 32, 49], live] s).2) else (((fresh 0 [[103, 32, 49], live] s).1.1, none), (fresh 0 [[103, 32, 49], live] s).2) := by
  unfold openH
  rw [if_neg (by omega)]
  simp only
  rw [← hn, ← hra, ← hrb, if_neg hu, if_pos hz]
theorem part_yes {b n : Nat} {s : Sto} (h : (Hv.part b n s).1.1 = 0) : (Hv.part b n s).1.2 = scan (partBytes s b n) := by
  unfold Hv.part at h ⊢
  simp only at h ⊢
  split at h
  · rename_i h0; rw [if_pos h0]
  · rename_i h0; exact absurd h h0
theorem Own.two (w : World) (e : TypeId) (x y : Value) (g : Nat) (hg : g = w.heap.size) : Mem.Own g (w.alloc (.cells #[x, y] e)) e (.slice (some ⟨g, 0, none⟩) 2 2) [x, y] := by
  subst hg
  exact ⟨rfl, .inr ⟨w.heap.size, 2, #[x, y], rfl, Nat.le_refl _, heap_alloc_new w _, Nat.le_refl _, by decide, rfl, rfl⟩⟩
/-- the halves as they lie at the end of Open -/
theorem open_hs {w wr w2 : World} {p g jp u a : Nat} {s s' : Sto} {m : Nat × List Bytes × List Bytes} {vs vt : Value} {j : Jr} {lv : Value} {l : List Bytes} (hok : HalfOk (w.heap.size + 1) wr m vs vt) (hb : Below w.heap.size w wr) (h0 : StoAt w p g s) (hst : StoAt w2 p g s')
    (hk : Keeps (stoF p g) (wr.alloc (.cells #[ptr p, .int .i64 (u : Int), .int .i64 (a : Int), vs, vt, .pointer none, .bool false] 55)) w2) (hj : JAt (wr.heap.size + 1) w2 jp p j lv l) (hu : u ≤ 1) (ha : a ≤ 999999999999999999) (n4 : 4 ≤ s'.blocks.length) (ok : PartOk s' j.from_ j.n) (jf : j.fin ≤ 32 * j.n) (sl : m.2.1.length ≤ 1000000) (tt : m.2.2.length ≤ j.fin) :
    HsIn (fun k => w.heap.size ≤ k) (w2.setCell ⟨wr.heap.size, 5, none⟩ (ptr jp)) wr.heap.size p g ⟨u, a, m.2.1, m.2.2, j, false⟩ s' jp lv l vs vt ∧ Keeps (stoF p g) w (w2.setCell ⟨wr.heap.size, 5, none⟩ (ptr jp)) := by
  have hs := hb.size
  have hp := h0.lt
  have hge := hj.ge
  have hkw : Keeps (stoF p g) w w2 := ((Keeps.of_below hb).alloc _).trans hk
  have hk5 : Keeps (fun k => k = wr.heap.size) w2 (w2.setCell ⟨wr.heap.size, 5, none⟩ (ptr jp)) := (Keeps.refl _ w2).setCell (by simp) _
  have nst : ∀ k, w.heap.size ≤ k → ¬ stoF p g k := fun k hk e => by rcases e with e | e <;> omega
  have hok2 : HalfOk (w.heap.size + 1) w2 m vs vt := (hok.keeps ((Keeps.refl none' wr).alloc _) (fun _ _ _ h => h)).keeps hk (fun k h1 _ => nst k (by omega))
  have hok3 := hok2.keeps hk5
  have hB2 := (Blk.new wr 55 [ptr p, .int .i64 (u : Int), .int .i64 (a : Int), vs, vt, .pointer none, .bool false]).keeps hk (nst _ hs)
  refine ⟨{ blk := hB2.set 5 (ptr jp), sto := hst.keeps hk5 (by omega) (by omega), jr := ?_, sn := ?_, tl := ?_, fp := (by omega), fg := (by omega), fh := hs, fj := (by omega), fl := ?_, fs := ?_, ft := ?_, hj := (by omega), use := hu, age := ha, n4 := n4, ok := ok, jf := jf, sl := sl, tt := tt }, ?_⟩
  · exact (hj.keeps hk5 (by omega) (fun k e => by have := (World.ownsRow.lt hj.own k e).1; omega)).to_base (Nat.zero_le _)
  · exact (hk5.own hok2.s (fun k e h => by have := (World.ownsRow.lt hok.s k e).2; omega)).base (Nat.zero_le _)
  · exact (hk5.own hok2.t (fun k e h => by have := (World.ownsRow.lt hok.t k e).2; omega)).base (Nat.zero_le _)
  · intro k e
    have := (World.ownsRow.lt hj.own k e).1
    exact ⟨by omega, by omega⟩
  · intro k e
    have h1 := World.ownsRow.lt hok.s k e
    exact ⟨by omega, by omega, by omega, fun e2 => by have := (World.ownsRow.lt hj.own k e2).1; omega⟩
  · intro k e
    have h1 := World.ownsRow.lt hok.t k e
    exact ⟨by omega, by omega, by omega, (fun e2 => by have := (World.ownsRow.lt hj.own k e2).1; omega), fun e2 => hok.ne k e2 e⟩
  · exact hkw.step hk5 (fun k hk e => by omega)
set_option maxHeartbeats 2000000 in
set_option maxRecDepth 20000 in
theorem open_main (w : World) (p g : Nat) (s : Sto) (hst : StoAt w p g s) (hg : Glob w) (h4 : 4 ≤ s.blocks.length) : Calls Tryd.prog 7 #[ptr p] w (OpenPost w p g (openH s)) := by
  obtain ⟨n, hn⟩ : ∃ n, n = s.blocks.length / 2 := ⟨_, rfl⟩
  have hhi := hst.wf.hi
  have hn2 : 2 ≤ n := by omega
  have hnn : n + n ≤ s.blocks.length := by omega
  have ho0 : PartOk s 0 n := ⟨by omega, by omega⟩
  have ho1 : PartOk s n n := ⟨by omega, by omega⟩
  obtain ⟨ra, hra⟩ : ∃ r, r = readHalf (Hv.look 0 n s) := ⟨_, rfl⟩
  obtain ⟨rb, hrb⟩ : ∃ r, r = readHalf (Hv.look n n s) := ⟨_, rfl⟩
  obtain ⟨q, hq⟩ : ∃ q, q = openH s := ⟨_, rfl⟩
  rw [← hq]
  have HH := Lib.hid (And.intro hst (And.intro hg (And.intro hn (And.intro ho0 (And.intro ho1 (And.intro hra (And.intro hrb hq)))))))
  clear hst hg hn ho0 ho1 hra hrb hq hnn
  have e4 : ¬ ((s.blocks.length : Int) < 4) := by omega
  go_enter Tryd.func7, Tryd.ntmps7
  go_wp2_with fail
  refine (blocks_any w p g s HH.out.1).mono ?_
  rintro e w1 ⟨rfl, rfl⟩
  clear h4
  go_wp2_with fail
  go_loopg [19] 3 (fun f v19 W => ∃ (k : Nat) (s0 t0 s1 t1 : Value), k + f = 3 ∧ k ≤ 2 ∧ v19 = .int .i64 (k : Int) ∧ OpRel w ra rb k s0 t0 s1 t1 W)
  case atStart => exact ⟨0, _, _, _, _, by omega, by omega, rfl, Blk.new w _ _, HalfOk.nil _ _, HalfOk.nil _ _, (Below.refl _ _).alloc (Nat.le_refl _) _⟩
  case round =>
    obtain ⟨k, s0, t0, s1, t1, hk, hk2, rfl, hR⟩ := hrel
    have q0 := hR.blk.cell0
    have q1 := hR.blk.cell1
    have q2 := hR.blk.cell2
    have q3 := hR.blk.cell3
    have q4 := hR.blk.cell4
    have q5 := hR.blk.cell5
    have z0 := hR.blk.free 0
    have z1 := hR.blk.free 1
    have z2 := hR.blk.free 2
    have z3 := hR.blk.free 3
    have z4 := hR.blk.free 4
    have z5 := hR.blk.free 5
    have hsz := hR.below.size
    have hlt := hR.blk.lt
    obtain ⟨A0, m0, c0, rfl⟩ := own_shape hR.h0.s
    obtain ⟨A1, m1, c1, rfl⟩ := own_shape hR.h0.t
    obtain ⟨A2, m2, c2, rfl⟩ := own_shape hR.h1.s
    obtain ⟨A3, m3, c3, rfl⟩ := own_shape hR.h1.t
    have HR := Lib.hid (And.intro hR (And.intro (HH.out.1.below hR.below) (HH.out.2.1.below (hR.below.mono HH.out.2.1.size))))
    clear hR
    rcases (show k = 0 ∨ k = 1 ∨ k = 2 by omega) with rfl | rfl | rfl
    · go_wp2_with fail
      refine (hblocks_any wr p g 0 s HR.out.2.1 (by omega)).mono ?_
      rintro e w2 ⟨rfl, rfl⟩
      rw [← HH.out.2.2.1]
      go_wp2_with fail
      refine (look_any wr p g 0 n s HR.out.2.1 HH.out.2.2.2.1).mono ?_
      rintro e w2 ⟨v, rfl, hown2, hb2⟩
      obtain ⟨Av, mv, cv, rfl⟩ := own_shape hown2
      have HL := Lib.hid (And.intro hown2 (And.intro hb2 (And.intro (HR.out.2.1.below hb2) (HR.out.2.2.below (hb2.mono (by have := HH.out.2.1.size; omega))))))
      clear hown2 hb2
      go_wp2_with fail
      refine (half_call w2 p g 0 n s HL.out.2.2.1 HL.out.2.2.2 HH.out.2.2.2.1 _ _ HL.out.1).mono ?_
      rw [← HH.out.2.2.2.2.2.1]
      rintro e w3 ⟨vs, vt, rfl, hs3, ht3, hne3, hb3⟩
      have hb13 := HL.out.2.1.trans (hb3.mono HL.out.2.1.size)
      have hB3 := HR.out.1.blk.below hb13
      have hok3 := (⟨hs3, ht3, hne3⟩ : HalfOk _ _ ra vs vt).base (base' := w.heap.size + 1) (by have := HL.out.2.1.size; omega)
      obtain ⟨A4, m4, c4, rfl⟩ := own_shape hs3
      obtain ⟨A5, m5, c5, rfl⟩ := own_shape ht3
      have HV := Lib.hid (And.intro hb13 (And.intro hB3 hok3))
      clear hb13 hok3 hs3 ht3 hne3 hb3 q0 q1 q2 q3 q4 q5 z0 z1 z2 z3 z4 z5
      have q0 := hB3.cell0
      have q1 := hB3.cell1
      have q2 := hB3.cell2
      have z0 := hB3.free 0
      have z1 := hB3.free 1
      have z2 := hB3.free 2
      clear hB3
      simp only [halfV]
      go_wp2_with fail
      go_roundg (gk - 1)
      case measure => omega
      case rel => exact ⟨1, _, _, _, _, by omega, by omega, by go_num, rel_0 HR.out.1 HV.out.1 HV.out.2.1 HV.out.2.2⟩
    · go_wp2_with fail
      refine (hblocks_any wr p g 1 s HR.out.2.1 (by omega)).mono ?_
      rintro e w2 ⟨rfl, rfl⟩
      rw [← HH.out.2.2.1, Nat.one_mul]
      go_wp2_with fail
      refine (look_any wr p g n n s HR.out.2.1 HH.out.2.2.2.2.1).mono ?_
      rintro e w2 ⟨v, rfl, hown2, hb2⟩
      obtain ⟨Av, mv, cv, rfl⟩ := own_shape hown2
      have HL := Lib.hid (And.intro hown2 (And.intro hb2 (And.intro (HR.out.2.1.below hb2) (HR.out.2.2.below (hb2.mono (by have := HH.out.2.1.size; omega))))))
      clear hown2 hb2
      go_wp2_with fail
      refine (half_call w2 p g n n s HL.out.2.2.1 HL.out.2.2.2 HH.out.2.2.2.2.1 _ _ HL.out.1).mono ?_
      rw [← HH.out.2.2.2.2.2.2.1]
      rintro e w3 ⟨vs, vt, rfl, hs3, ht3, hne3, hb3⟩
      have hb13 := HL.out.2.1.trans (hb3.mono HL.out.2.1.size)
      have hB3 := HR.out.1.blk.below hb13
      have hok3 := (⟨hs3, ht3, hne3⟩ : HalfOk _ _ rb vs vt).base (base' := w.heap.size + 1) (by have := HL.out.2.1.size; omega)
      obtain ⟨A4, m4, c4, rfl⟩ := own_shape hs3
      obtain ⟨A5, m5, c5, rfl⟩ := own_shape ht3
      have HV := Lib.hid (And.intro hb13 (And.intro hB3 hok3))
      clear hb13 hok3 hs3 ht3 hne3 hb3 q0 q1 q2 q3 q4 q5 z0 z1 z2 z3 z4 z5
      have q3 := hB3.cell3
      have q4 := hB3.cell4
      have q5 := hB3.cell5
      have z3 := hB3.free 3
      have z4 := hB3.free 4
      have z5 := hB3.free 5
      clear hB3
      simp only [halfV]
      go_wp2_with fail
      go_roundg (gk - 1)
      case measure => omega
      case rel => exact ⟨2, _, _, _, _, by omega, by omega, by go_num, rel_1 HR.out.1 HV.out.1 HV.out.2.1 HV.out.2.2⟩
    · simp only [show halfAt 2 0 ra = ra from rfl, show halfAt 2 1 rb = rb from rfl] at q0 q3
      by_cases hu : ra.1 < rb.1
      · have hc : (ra.1 : Int) < (rb.1 : Int) := by omega
        have hm : ((rb.1 : Int) == 0) = false := by simp; omega
        go_wp2_with fail
        refine (hblocks_any _ p g 1 s (HR.out.2.1.alloc _) (by omega)).mono ?_
        rintro e w2 ⟨rfl, rfl⟩
        rw [← HH.out.2.2.1, Nat.one_mul]
        go_wp2_with fail
        refine (part_any _ p g n n s (HR.out.2.1.alloc _) HH.out.2.2.2.2.1).mono ?_
        have hpy := part_yes (b := n) (n := n) (s := s)
        have hpl := part_len n n s
        have hop := open_one (by omega) HH.out.2.2.1 HH.out.2.2.2.2.2.1 HH.out.2.2.2.2.2.2.1 hu
        rw [← HH.out.2.2.2.2.2.2.2] at hop
        unfold PartPost PartYes PartNo
        generalize Hv.part n n s = pr at *
        obtain ⟨⟨er, lr, fin⟩, s'⟩ := pr
        simp only at hpy hpl hop ⊢
        rintro e w2 (⟨hq1, jp, lv, v2, rfl, hj, hst2, hk2⟩ | ⟨hq1, rfl, hst2, hk2⟩)
        · skip
          subst hq1
          have hpy' := hpy rfl
          have hB2 := (Blk.new wr 55 [ptr p, .int .i64 ((1 : Nat) : Int), .int .i64 ((rb.1 : Nat) : Int), .slice A2 m2 c2, .slice A3 m3 c3, .pointer none, .bool false]).keeps hk2 (fun e => by have := HH.out.1.lt; rcases e with e | e <;> omega)
          have hle := readHalf_le (Hv.look n n s)
          rw [← HH.out.2.2.2.2.2.2.1] at hle
          have hsc := scan_end (partBytes s n n)
          have hbl := partBytes_len HH.out.1.wf n n HH.out.2.2.2.2.1.le
          have hn := open_hs (u := 1) (a := rb.1) HR.out.1.h1 HR.out.1.below HH.out.1 hst2 hk2 (hj.to_base (by simp)) (by omega) (by show rb.1 ≤ _; exact hle.2.2.1) (by rw [hpl.1]; omega) ⟨HH.out.2.2.2.2.1.n1, by rw [hpl.1]; exact HH.out.2.2.2.2.1.le⟩ (by have := congrArg Prod.snd hpy'; simp only at this; rw [← this] at hsc; simp only; omega) (by show rb.2.1.length ≤ _; have := (look_le s n n HH.out.1.wf HH.out.2.2.2.2.1.le).1; omega) (by show rb.2.2.length ≤ _; have h2 := congrArg Prod.snd hpy'; simp only at h2; have h1 : (Hv.look n n s).length = (scan (partBytes s n n)).1.length := rfl; simp only; omega)
          have HN := Lib.hid (And.intro hn (And.intro hst2 hop))
          have c5 := hB2.cell5
          have f5 := hB2.free 5
          clear hB2 hn hst2 hk2 hj hpy hpy' hpl hop hle hsc hbl
          go_wp2
          go_ret2
          rw [HN.out.2.2, if_pos (by simp)]
          exact ⟨_, rfl, HN.out.1.1.sto, HN.out.1.2, (fun h => by cases h), fun h hh => by cases hh; exact ⟨_, rfl, _, _, _, _, _, HN.out.1.1⟩⟩
        · skip
          have hB2 := (Blk.new wr 55 [ptr p, .int .i64 ((1 : Nat) : Int), .int .i64 ((rb.1 : Nat) : Int), .slice A2 m2 c2, .slice A3 m3 c3, .pointer none, .bool false]).keeps hk2 (fun e => by have := HH.out.1.lt; rcases e with e | e <;> omega)
          have hkw : Keeps (stoF p g) w w2 := ((Keeps.of_below HR.out.1.below).alloc _).trans hk2
          have hlw := hB2.lt
          have HN := Lib.hid (And.intro hst2 (And.intro hkw (And.intro hq1 hop)))
          have hr' : (er != 0) = true := by simpa using hq1
          have c5 := hB2.cell5
          have f5 := hB2.free 5
          clear hB2 hst2 hk2 hpy hpl hop hq1 hkw
          go_wp2
          go_ret2
          rw [HN.out.2.2.2, if_neg HN.out.2.2.1]
          have hk5 : Keeps (fun k => k = wr.heap.size) w2 (w2.setCell ⟨wr.heap.size, 5, none⟩ (.pointer none)) := (Keeps.refl _ w2).setCell (by simp) _
          exact ⟨_, rfl, HN.out.1.keeps hk5 (by have := HH.out.1.lt; omega) (by have := HH.out.1.lt; omega), HN.out.2.1.step hk5 (fun k hk e => by omega), fun _ => rfl, fun h hh => by cases hh⟩

      · have hc : ¬ (ra.1 : Int) < (rb.1 : Int) := by omega
        by_cases hz : ra.1 = 0
        · have hm : ((ra.1 : Int) == 0) = true := by simp [hz]
          go_wp2_with fail
          have hop := open_fresh (by omega) HH.out.2.2.1 HH.out.2.2.2.2.2.1 HH.out.2.2.2.2.2.2.1 hu hz
          rw [← HH.out.2.2.2.2.2.2.2] at hop
          have hfs := fresh_some 0 [[103, 32, 49], live] s
          have hfl := fresh_len 0 [[103, 32, 49], live] s
          obtain ⟨fq, hfq⟩ : ∃ q, q = fresh 0 [[103, 32, 49], live] s := ⟨_, rfl⟩
          rw [← hfq] at hop hfs hfl
          have hra0 : ra = (0, [], []) := by
            have := (readHalf_le (Hv.look 0 n s)).2.2.2
            rw [← HH.out.2.2.2.2.2.1] at this
            exact this hz
          have hown : Mem.Own (wr.heap.size + 1) ((wr.alloc (.cells #[ptr p, .int .i64 0, .int .i64 1, .slice A0 m0 c0, .slice A1 m1 c1, .pointer none, .bool false] 55)).alloc (.cells #[.string { data := #[103, 32, 49] }, .string { data := #[108, 105, 118, 101] }] 9)) 9 (.slice (some ⟨wr.heap.size + 1, 0, none⟩) 2 2) (strs [[103, 32, 49], live]) := Own.two _ _ _ _ _ (by simp)
          have hfc := fresh_call (k := 0) (recs := [[103, 32, 49], live]) ((HR.out.2.1.alloc (.cells #[ptr p, .int .i64 0, .int .i64 1, .slice A0 m0 c0, .slice A1 m1 c1, .pointer none, .bool false] 55)).alloc (.cells #[.string { data := #[103, 32, 49] }, .string { data := #[108, 105, 118, 101] }] 9)) hown (by have := HH.out.1.lt; omega) (by omega) (by omega) rfl ⟨by simp, by simp [live]⟩ hfq
          clear hown
          refine hfc.mono ?_
          clear hfc
          clear hfq
          obtain ⟨⟨er, oj⟩, s'⟩ := fq
          rintro e w2 ⟨jv, rfl, hst2, hk2, hno, hsome⟩
          simp only at hop hfs hfl hst2 hno hsome ⊢
          have hkA := ((Keeps.refl (stoF p g) (wr.alloc (.cells #[ptr p, .int .i64 ((0 : Nat) : Int), .int .i64 ((1 : Nat) : Int), .slice A0 m0 c0, .slice A1 m1 c1, .pointer none, .bool false] 55))).alloc _).trans hk2
          have hB2 := (Blk.new wr 55 [ptr p, .int .i64 ((0 : Nat) : Int), .int .i64 ((1 : Nat) : Int), .slice A0 m0 c0, .slice A1 m1 c1, .pointer none, .bool false]).keeps hkA (fun e => by have := HH.out.1.lt; rcases e with e | e <;> omega)
          have hkw : Keeps (stoF p g) w w2 := ((Keeps.of_below HR.out.1.below).alloc _).trans hkA
          have hlw := hB2.lt
          have c5 := hB2.cell5
          have f5 := hB2.free 5
          by_cases h0 : er = 0
          · subst h0
            obtain ⟨j, rfl⟩ := hfs rfl
            obtain ⟨jp, lv, l, rfl, hj, ok, fl⟩ := hsome j rfl
            have hok0 := HR.out.1.h0
            rw [show halfAt 2 0 ra = ra from rfl, hra0] at hok0
            have hn := open_hs (u := 0) (a := 1) (m := (0, [], [])) hok0 HR.out.1.below HH.out.1 hst2 hkA (hj.to_base (by simp)) (by omega) (by omega) (by rw [hfl]; omega) ok fl (by simp) (by simp)
            have HN := Lib.hid (And.intro hn hop)
            clear hB2 hn hop hst2 hk2 hno hsome hkA hkw hj ok fl hok0 hra0 hfl hfs
            go_wp2
            go_ret2
            rw [HN.out.2, if_pos (by simp)]
            exact ⟨_, rfl, HN.out.1.1.sto, HN.out.1.2, (fun h => by cases h), fun h hh => by cases hh; exact ⟨_, rfl, _, _, _, _, _, HN.out.1.1⟩⟩
          · have HN := Lib.hid (And.intro hst2 (And.intro hkw (And.intro h0 hop)))
            have hr' : (er != 0) = true := by simpa using h0
            have hjv : ∃ a, jv = .pointer a := by
              cases oj with
              | none => exact ⟨_, hno rfl⟩
              | some j => obtain ⟨jp, _, _, h, _⟩ := hsome j rfl; exact ⟨_, h⟩
            obtain ⟨a, rfl⟩ := hjv
            clear hB2 hst2 hk2 hno hsome hop h0 hkA hkw hfl hfs hra0
            go_wp2
            go_ret2
            rw [HN.out.2.2.2, if_neg HN.out.2.2.1]
            have hk5 : Keeps (fun k => k = wr.heap.size) w2 (w2.setCell ⟨wr.heap.size, 5, none⟩ (.pointer a)) := (Keeps.refl _ w2).setCell (by simp) _
            exact ⟨_, rfl, HN.out.1.keeps hk5 (by have := HH.out.1.lt; omega) (by have := HH.out.1.lt; omega), HN.out.2.1.step hk5 (fun k hk e => by omega), fun _ => rfl, fun h hh => by cases hh⟩
        · have hm : ((ra.1 : Int) == 0) = false := by simpa using hz
          go_wp2_with fail
          refine (hblocks_any _ p g 0 s (HR.out.2.1.alloc _) (by omega)).mono ?_
          rintro e w2 ⟨rfl, rfl⟩
          rw [← HH.out.2.2.1]
          go_wp2_with fail
          refine (part_any _ p g 0 n s (HR.out.2.1.alloc _) HH.out.2.2.2.1).mono ?_
          have hpy := part_yes (b := 0) (n := n) (s := s)
          have hpl := part_len 0 n s
          have hop := open_zero (by omega) HH.out.2.2.1 HH.out.2.2.2.2.2.1 HH.out.2.2.2.2.2.2.1 hu hz
          rw [← HH.out.2.2.2.2.2.2.2] at hop
          unfold PartPost PartYes PartNo
          generalize Hv.part 0 n s = pr at *
          obtain ⟨⟨er, lr, fin⟩, s'⟩ := pr
          simp only at hpy hpl hop ⊢
          rintro e w2 (⟨hq1, jp, lv, v2, rfl, hj, hst2, hk2⟩ | ⟨hq1, rfl, hst2, hk2⟩)
          · skip
            subst hq1
            have hpy' := hpy rfl
            have hB2 := (Blk.new wr 55 [ptr p, .int .i64 ((0 : Nat) : Int), .int .i64 ((ra.1 : Nat) : Int), .slice A0 m0 c0, .slice A1 m1 c1, .pointer none, .bool false]).keeps hk2 (fun e => by have := HH.out.1.lt; rcases e with e | e <;> omega)
            have hle := readHalf_le (Hv.look 0 n s)
            rw [← HH.out.2.2.2.2.2.1] at hle
            have hsc := scan_end (partBytes s 0 n)
            have hbl := partBytes_len HH.out.1.wf 0 n HH.out.2.2.2.1.le
            have hn := open_hs (u := 0) (a := ra.1) HR.out.1.h0 HR.out.1.below HH.out.1 hst2 hk2 (hj.to_base (by simp)) (by omega) (by show ra.1 ≤ _; exact hle.2.2.1) (by rw [hpl.1]; omega) ⟨HH.out.2.2.2.1.n1, by rw [hpl.1]; exact HH.out.2.2.2.1.le⟩ (by have := congrArg Prod.snd hpy'; simp only at this; rw [← this] at hsc; simp only; omega) (by show ra.2.1.length ≤ _; have := (look_le s 0 n HH.out.1.wf HH.out.2.2.2.1.le).1; omega) (by show ra.2.2.length ≤ _; have h2 := congrArg Prod.snd hpy'; simp only at h2; have h1 : (Hv.look 0 n s).length = (scan (partBytes s 0 n)).1.length := rfl; simp only; omega)
            have HN := Lib.hid (And.intro hn (And.intro hst2 hop))
            have c5 := hB2.cell5
            have f5 := hB2.free 5
            clear hB2 hn hst2 hk2 hj hpy hpy' hpl hop hle hsc hbl
            go_wp2
            go_ret2
            rw [HN.out.2.2, if_pos (by simp)]
            exact ⟨_, rfl, HN.out.1.1.sto, HN.out.1.2, (fun h => by cases h), fun h hh => by cases hh; exact ⟨_, rfl, _, _, _, _, _, HN.out.1.1⟩⟩
          · skip
            have hB2 := (Blk.new wr 55 [ptr p, .int .i64 ((0 : Nat) : Int), .int .i64 ((ra.1 : Nat) : Int), .slice A0 m0 c0, .slice A1 m1 c1, .pointer none, .bool false]).keeps hk2 (fun e => by have := HH.out.1.lt; rcases e with e | e <;> omega)
            have hkw : Keeps (stoF p g) w w2 := ((Keeps.of_below HR.out.1.below).alloc _).trans hk2
            have hlw := hB2.lt
            have HN := Lib.hid (And.intro hst2 (And.intro hkw (And.intro hq1 hop)))
            have hr' : (er != 0) = true := by simpa using hq1
            have c5 := hB2.cell5
            have f5 := hB2.free 5
            clear hB2 hst2 hk2 hpy hpl hop hq1 hkw
            go_wp2
            go_ret2
            rw [HN.out.2.2.2, if_neg HN.out.2.2.1]
            have hk5 : Keeps (fun k => k = wr.heap.size) w2 (w2.setCell ⟨wr.heap.size, 5, none⟩ (.pointer none)) := (Keeps.refl _ w2).setCell (by simp) _
            exact ⟨_, rfl, HN.out.1.keeps hk5 (by have := HH.out.1.lt; omega) (by have := HH.out.1.lt; omega), HN.out.2.1.step hk5 (fun k hk e => by omega), fun _ => rfl, fun h hh => by cases hh⟩
theorem open_any (w : World) (p g : Nat) (s : Sto) (hst : StoAt w p g s) (hg : Glob w) : Calls Tryd.prog 7 #[ptr p] w (OpenPost w p g (openH s)) := by
  by_cases h4 : s.blocks.length < 4
  · have e : openH s = ((1, none), s) := by unfold openH; rw [if_pos h4]
    rw [e]
    exact open_small w p g s hst h4
  · exact open_main w p g s hst hg (by omega)
end Go.Proofs.YtoldogkfeimojaaDoor.Hv
