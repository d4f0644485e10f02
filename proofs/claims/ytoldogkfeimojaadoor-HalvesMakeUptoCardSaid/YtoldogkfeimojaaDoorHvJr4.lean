/- One step of the proof of a statement of this seat: plain laws and walks of the store, log, journal and halves packages; no condition. -/
import Derived.Test.YtoldogkfeimojaaDoorHvJr3
import Derived.Test.YtoldogkfeimojaaDoorHvPlain2
import Derived.Test.YtoldogkfeimojaaDoorHvRound
set_option linter.unusedVariables false
set_option linter.unusedSimpArgs false
open Go.RowKit Go.Shelf
namespace Go.Proofs.YtoldogkfeimojaaDoor.Hv
open Go.Proofs.Hv Go.Proofs.Mem
attribute [local go_sem] Oper.semAt_some

theorem blocksMk_any (lo hi : Int) (w : World) : Calls Tryd.prog 54 #[.int .i64 lo, .int .i64 hi] w fun e w' =>
    e = .returned (.func (.func 65) #[] #[ptr w.heap.size, ptr (w.heap.size + 1)]) ∧ w' = (w.alloc (.cells #[.int .i64 lo] 3)).alloc (.cells #[.int .i64 hi] 3) := by
  go_enter Tryd.func54, Tryd.ntmps54
  go_wp2
  go_ret
  exact ⟨rfl, rfl⟩

/-- what the loop of put keeps: boxes of its own -/
structure PutSt (w : World) (W : World) (p g b n : Nat) (x : Bytes) (must : Bool) (r : Int) (s : Sto) : Prop where
  sto : StoAt W p g s
  b0 : Blk W w.heap.size 67 [ptr p, .int .i64 (b : Int), .int .i64 (n : Int)]
  b1 : Blk W (w.heap.size + 1) 9 [str x]
  b2 : Blk W (w.heap.size + 2) 4 [.bool must]
  b3 : Blk W (w.heap.size + 3) 25 [.int .i64 r]
  keep : Keeps (stoF p g) w W

theorem ext_blk (x : Bytes) (i : Nat) : (⟨x.toArray⟩ : ByteArray).extract (i * 32) ((i + 1) * 32) = ⟨(blkOf x i).toArray⟩ := by
  rw [bs_extract, List.drop_take, show (i + 1) * 32 - i * 32 = 32 by omega, Nat.mul_comm]
  rfl
theorem Blk.nc {W W' : World} {row : Option Nat} {g : Nat} {t : TypeId} {cs : List Value} (h : Blk W g t cs) (hg : W.grownBy W' row) (hr : ∀ r, row = some r → ∃ o : Obj, W.heap[r]? = some o ∧ o.isCells = false) : Blk W' g t cs := by
  refine h.grown hg ?_
  rintro rfl
  obtain ⟨o, ho, hc⟩ := hr g rfl
  unfold Blk at h
  rw [h] at ho
  cases ho
  cases hc
theorem PutSt.nc {w W W' : World} {row : Option Nat} {p g b n : Nat} {x : Bytes} {must : Bool} {r : Int} {s : Sto} (h : PutSt w W p g b n x must r s) (hg : W.grownBy W' row) (hr : ∀ r, row = some r → w.heap.size ≤ r ∧ ∃ o : Obj, W.heap[r]? = some o ∧ o.isCells = false) : PutSt w W' p g b n x must r s := by
  have hr' := fun r e => (hr r e).2
  exact ⟨⟨h.sto.wf, h.sto.top.imp fun _ hb => Blk.nc hb hg hr', Blk.nc h.sto.row hg hr', h.sto.ne⟩, Blk.nc h.b0 hg hr', Blk.nc h.b1 hg hr', Blk.nc h.b2 hg hr', Blk.nc h.b3 hg hr', h.keep.grown hg (fun r e => .inr (hr r e).1)⟩
theorem PutSt.keeps {w W W' : World} {p g b n : Nat} {x : Bytes} {must : Bool} {r : Int} {s s' : Sto} (h : PutSt w W p g b n x must r s) (hs : StoAt W' p g s') (hk : Keeps (stoF p g) W W') (hp : p < w.heap.size) (hg : g < w.heap.size) : PutSt w W' p g b n x must r s' := by
  refine ⟨hs, h.b0.keeps hk ?_, h.b1.keeps hk ?_, h.b2.keeps hk ?_, h.b3.keeps hk ?_, h.keep.trans hk⟩
  all_goals
    simp only [stoF]
    omega
theorem PutSt.setR {w W : World} {p g b n : Nat} {x : Bytes} {must : Bool} {r0 : Int} {s : Sto} (h : PutSt w W p g b n x must r0 s) (r : Int) (hp : p < w.heap.size := by omega) (hg : g < w.heap.size := by omega) : PutSt w (W.setCell ⟨w.heap.size + 3, 0, none⟩ (.int .i64 r)) p g b n x must r s := by
  have hk : Keeps (fun k => k = w.heap.size + 3) W (W.setCell ⟨w.heap.size + 3, 0, none⟩ (.int .i64 r)) := (Keeps.refl _ W).setCell (by simp) _
  exact ⟨h.sto.keeps hk (by omega) (by omega), h.b0.keeps hk (by omega), h.b1.keeps hk (by omega), h.b2.keeps hk (by omega), h.b3.set 0 _, h.keep.setCell (by simp) _⟩
theorem blk_was {s : Sto} {b n hi : Nat} (h : SWf s) (ho : PartOk s b n) (hhi : hi ≤ 32 * n) : ∀ i, 32 * i < hi → blkOf (partBytes s b n) i = s.blk (b + i) := by
  intro i hi'
  have hle := ho.le
  have := blk_flat ((s.blocks.drop b).take n) (fun j hj => by
    have hj' : j < n ∧ b + j < s.blocks.length := by rw [List.length_take, List.length_drop] at hj; omega
    have := h.each (b + j) hj'.2
    simpa [Sto.blk, List.getD_eq_getElem?_getD, List.getElem?_take, hj'.1, List.getElem?_drop] using this) i (by rw [List.length_take, List.length_drop]; omega)
  unfold blkOf partBytes
  rw [Nat.mul_comm, this]
  simp [Sto.blk, List.getD_eq_getElem?_getD, List.getElem?_take, show i < n by omega, List.getElem?_drop]
/-- the cells of the store and nothing that is no cells -/
theorem KeepsOthers.sto {W W' : World} {p g : Nat} {s : Sto} (h : StoAt W p g s) (hk : Keeps (stoF p g) W W') : KeepsOthers W W' := by
  refine ⟨hk.size, fun k o ho hc => ?_⟩
  refine (hk.block k (Array.getElem?_eq_some_iff.1 ho).1 ?_).trans ho
  rintro (rfl | rfl)
  · obtain ⟨_, hb⟩ := h.top
    unfold Blk at hb
    rw [hb] at ho
    cases ho
    cases hc
  · have hb := h.row
    unfold Blk at hb
    rw [hb] at ho
    cases ho
    cases hc
theorem put_start (w : World) (p g b n : Nat) (x : Bytes) (must : Bool) (s : Sto) (h : StoAt w p g s) :
    PutSt w ((((w.alloc (.cells #[ptr p, .int .i64 (b : Int), .int .i64 (n : Int)] 67)).alloc (.cells #[str x] 9)).alloc (.cells #[.bool must] 4)).alloc (.cells #[.int .i64 0] 25)) p g b n x must 0 s := by
  have k := ((((Keeps.refl (stoF p g) w).alloc (.cells #[ptr p, .int .i64 (b : Int), .int .i64 (n : Int)] 67)).alloc (.cells #[str x] 9)).alloc (.cells #[.bool must] 4)).alloc (.cells #[.int .i64 0] 25)
  refine ⟨(((h.alloc _).alloc _).alloc _).alloc _, (((Blk.new w _ [ptr p, .int .i64 (b : Int), .int .i64 (n : Int)]).alloc _).alloc _).alloc _, ?_, ?_, ?_, k⟩
  · have := Blk.new (w.alloc (.cells #[ptr p, .int .i64 (b : Int), .int .i64 (n : Int)] 67)) 9 [str x]
    exact ((by simpa using this : Blk _ (w.heap.size + 1) _ _).alloc _).alloc _
  · have := Blk.new ((w.alloc (.cells #[ptr p, .int .i64 (b : Int), .int .i64 (n : Int)] 67)).alloc (.cells #[str x] 9)) 4 [.bool must]
    exact (by simpa using this : Blk _ (w.heap.size + 2) _ _).alloc _
  · have := Blk.new (((w.alloc (.cells #[ptr p, .int .i64 (b : Int), .int .i64 (n : Int)] 67)).alloc (.cells #[str x] 9)).alloc (.cells #[.bool must] 4)) 25 [.int .i64 0]
    exact (by simpa using this : Blk _ (w.heap.size + 3) _ _)
set_option maxRecDepth 100000 in
set_option maxHeartbeats 2000000 in
theorem put_any (w : World) (p g b n lo hi : Nat) (s : Sto) (x : Bytes) (must : Bool) (h : StoAt w p g s) (ho : PartOk s b n) (hx : x.length = 32 * n) (hhi : hi ≤ 32 * n) (hlo : lo ≤ 1000000) :
    Calls Tryd.prog 38 #[partV p b n, str x, .int .i64 (lo : Int), .int .i64 (hi : Int), .bool must] w (StoPost w p g (put b x lo hi must s).2 (.int .i64 (put b x lo hi must s).1)) := by
  refine (callsIn_wide (n := 4)).1 ?_
  refine callsIn_of_wp_marks Tryd.func38 rfl trivial ?_ rfl
  simp only [Tryd.ntmps38, List.size_toArray, List.length_cons, List.length_nil, Nat.reduceAdd, Nat.reduceSub, Array.replicate_succ, Array.replicate_zero, List.push_toArray, List.append_toArray, List.nil_append, List.cons_append]
  have hle := ho.le
  have hhi256 := h.wf.hi
  gi_wp2
  refine ⟨trivial, ?_⟩
  obtain ⟨W4, hW4⟩ : ∃ W4, W4 = ((((w.alloc (.cells #[ptr p, .int .i64 (b : Int), .int .i64 (n : Int)] 67)).alloc (.cells #[str x] 9)).alloc (.cells #[.bool must] 4)).alloc (.cells #[.int .i64 0] 25)) := ⟨_, rfl⟩
  have hst : PutSt w W4 p g b n x must 0 s := by rw [hW4]; exact put_start w p g b n x must s h
  have hs4 : W4.heap.size = w.heap.size + 4 := by rw [hW4]; simp
  rw [← hW4]
  clear hW4
  refine (callsIn_wide.2 (pbytes_any W4 p g b n s hst.sto ho)).mono ?_
  rintro e w1 ⟨rfl, hb1⟩
  gi_wp2
  refine ⟨trivial, ?_⟩
  refine (callsIn_wide.2 (blocksMk_any lo hi _)).mono ?_
  rintro e w2 ⟨rfl, rfl⟩
  gi_wp2
  have hst1 : PutSt w w1 p g b n x must 0 s := hst.nc (grownBy_of_below hb1 none) (fun r e => by cases e)
  have hsz1 : w.heap.size + 4 ≤ w1.heap.size := by have := hb1.size; omega
  have hpl := h.lt
  obtain ⟨W0, hW0⟩ : ∃ W0, W0 = (((w1.alloc (.cells #[str (partBytes s b n)] 9)).alloc (.cells #[.int .i64 (lo : Int)] 3)).alloc (.cells #[.int .i64 (hi : Int)] 3)) := ⟨_, rfl⟩
  have hst0 : PutSt w W0 p g b n x must 0 s := by
    rw [hW0]
    exact hst1.nc (row := none) (grownBy_of_below ((((Keeps.refl none' w1).alloc _).alloc _).alloc _).to_below0 none) (fun r e => by cases e)
  have hws : Blk W0 w1.heap.size 9 [str (partBytes s b n)] := by rw [hW0]; exact ((Blk.new w1 _ [str (partBytes s b n)]).alloc _).alloc _
  have hbl : Blk W0 (w1.heap.size + 1) 3 [.int .i64 (lo : Int)] := by
    rw [hW0]
    have := Blk.new (w1.alloc (.cells #[str (partBytes s b n)] 9)) 3 [.int .i64 (lo : Int)]
    exact (by simpa using this : Blk _ (w1.heap.size + 1) _ _).alloc _
  have hbh : Blk W0 (w1.heap.size + 1 + 1) 3 [.int .i64 (hi : Int)] := by
    rw [hW0]
    have := Blk.new ((w1.alloc (.cells #[str (partBytes s b n)] 9)).alloc (.cells #[.int .i64 (lo : Int)] 3)) 3 [.int .i64 (hi : Int)]
    simpa using this
  have hsz0 : W0.heap.size = w1.heap.size + 3 := by rw [hW0]; simp
  rw [← hW0]
  clear hW0 hst hst1 hb1 hs4 W4
  refine wpIn_rangeFunc_ownG rfl (by omega) (gf := 65) (lb := #[ptr (w1.heap.size + 1), ptr (w1.heap.size + 1 + 1)]) rfl trivial (enters_of Tryd.func65 (by kernel_rfl) rfl)
    (blocks_stops (n := 3) (by omega) (w1.heap.size + 1) (w1.heap.size + 1 + 1) lo hi n (stoF p g) (by simp only [stoF]; omega) (by simp only [stoF]; omega) hhi (by omega) (by omega) W0 hbl.cell0 hbh.cell0) KC.trans KC.putObj (Below.refl _ _) (fun _ => rfl)
    (fun pre W => ∃ st, PutSt w W p g b n x must 0 st ∧ putW b x (partBytes s b n) must (vals pre) s = (0, st) ∧ Blk W w1.heap.size 9 [str (partBytes s b n)])
    (fun c pre W => ∃ st e, c = .ret ∧ PutSt w W p g b n x must e st ∧ putW b x (partBytes s b n) must (vals pre) s = (e, st) ∧ e ≠ 0)
    ?own ?own2 ⟨s, hst0, rfl, hws⟩
    (fun y => { tmps := #[partV p b n, str x, .int .i64 (lo : Int), .int .i64 (hi : Int), .bool must, ptr w.heap.size, ptr (w.heap.size + 1), undef, undef, ptr (w.heap.size + 1 + 1), ptr (w.heap.size + 1 + 1 + 1), ptr w1.heap.size, .int .i64 (y.1 : Int), undef, undef, undef, .agg #[ptr p, .int .i64 (b : Int), .int .i64 (n : Int)], str (partBytes s b n), .int .i64 (lo : Int), .int .i64 (hi : Int), .func (.func 65) #[] #[ptr (w1.heap.size + 1), ptr (w1.heap.size + 1 + 1)], .int .i64 (y.1 : Int), undef, undef, undef, undef, undef, undef, undef, undef, undef, undef, undef, undef, undef, undef, undef, undef, undef, undef, undef, undef, undef, undef, undef, undef, undef, undef, undef, undef, undef, undef, undef, undef], defers := [] }) ?assign ?body ?done ?stop
  case own =>
    rintro pre A B row ⟨st, h1, h2, h3⟩ hg hr
    exact ⟨st, h1.nc hg (fun r e => ⟨by have := (hr r e).1; omega, (hr r e).2⟩), h2, Blk.nc h3 hg (fun r e => (hr r e).2)⟩
  case own2 =>
    rintro c pre A B row ⟨st, e, hc, h1, h2, h3⟩ hg hr
    exact ⟨st, e, hc, h1.nc hg (fun r e => ⟨by have := (hr r e).1; omega, (hr r e).2⟩), h2, h3⟩
  case assign =>
    intro l y W K hK
    gi_wp2
    exact hK
  case body =>
    rintro l pre i W ⟨st, h1, h2, h3⟩ _
    have hi1 := i.2
    have c0 := h1.b0.cell0
    have c0' := h1.b0.cell1
    have c1 := h1.b1.cell0
    have c2 := h1.b2.cell0
    have c3 := h1.b3.cell0
    have z3 := h1.b3.free 0
    have c4 := h3.cell0
    have HH := Lib.hid (And.intro h1 (And.intro h2 h3))
    clear h1 h2 h3
    obtain ⟨i, hin⟩ := i
    simp only at hi1 ⊢
    have hxl : (i + 1) * 32 ≤ x.length := by omega
    have hwl : (i + 1) * 32 ≤ (partBytes s b n).length := by rw [partBytes_len h.wf b n hle]; omega
    have ex1 := ext_blk x i
    have ex2 := ext_blk (partBytes s b n) i
    have b1 : (i : Int) ≤ 1000000 := by omega
    have t1 : ((i : Int) * 32).toNat = i * 32 := by omega
    have t2 : (((i : Int) + 1) * 32).toNat = (i + 1) * 32 := by omega
    have k1 : (0 : Int) ≤ (i : Int) * 32 := by omega
    have k2 : (i : Int) * 32 ≤ ((i : Int) + 1) * 32 := by omega
    have k3 : ((i : Int) + 1) * 32 ≤ (x.length : Int) := by omega
    have k4 : ((i : Int) + 1) * 32 ≤ ((partBytes s b n).length : Int) := by omega
    have k5 : (0 : Int) ≤ ((i : Int) + 1) * 32 := by omega
    have k6 : (i : Int) ≤ (i : Int) + 1 := by omega
    have hmx : Tryd.prog.follows .mixedOrders = true := by kernel_rfl
    have k7 : IntKind.i64.wrap ((b : Int) + (i : Int)) = (b : Int) + (i : Int) := by rw [IntKind.wrap_i64]; omega
    have hst : StoAt W p g st := HH.out.1.sto
    have HS := Lib.hid hst
    clear hst hst0 hws hbl hbh hsz0 ho h hx
    by_cases hsk : must = false ∧ blkOf x i = blkOf (partBytes s b n) i
    · obtain ⟨rfl, hsk⟩ := hsk
      have hstep : stepW b x (partBytes s b n) false i st = (0, st) := by unfold stepW; rw [if_pos ⟨rfl, hsk⟩]
      have hq : (blkOf x i == blkOf (partBytes s b n) i) = true := by simpa using hsk
      have HP := Lib.hid hstep
      clear hstep hsk
      gi_wp2
      refine round_quiet hmx (by kernel_rfl) (by kernel_rfl) (by rintro ⟨_, _, h⟩; exact h) ?_
      repeat (first | go_big_quiet_step (fail) | quiet_step (fail))
      refine wpQuiet_nil ?_
      intro _ hw'
      obtain ⟨nq, hw''⟩ := hw'
      subst hw''
      gi_wp2
      have hk : Keeps (stoF p g) W (W.drewN nq) := (Keeps.refl _ W).drewN nq
      refine ⟨(KeepsOthers.sto HS.out hk).from _, KC.keeps hk, st, HH.out.1.keeps (HS.out.drewN nq) hk hpl.1 hpl.2, ?_, HH.out.2.2⟩
      rw [vals_snoc, putW_snoc _ _ _ (by rw [HH.out.2.1]), HH.out.2.1]
      exact HP.out
    · have hstep : stepW b x (partBytes s b n) must i st = write st ((b : Int) + (i : Int)) (blkOf x i) := by unfold stepW; rw [if_neg hsk]; simp
      have hput : putW b x (partBytes s b n) must (vals (pre ++ [⟨i, hin⟩])) s = write st ((b : Int) + (i : Int)) (blkOf x i) := by
        rw [vals_snoc, putW_snoc _ _ _ (by rw [HH.out.2.1]), HH.out.2.1]
        exact hstep
      have HP := Lib.hid hput
      clear hstep hput
      cases must
      case' true => have hq : True := trivial
      case' false => have hq : (blkOf x i == blkOf (partBytes s b n) i) = false := by simpa using hsk
      all_goals
        clear hsk
        gi_wp2
        refine round_quiet hmx (by kernel_rfl) (by kernel_rfl) (by rintro ⟨_, _, h⟩; exact h) ?_
        repeat (first | go_big_quiet_step (fail) | quiet_step (fail))
        refine wpQuiet_nil ?_
        intro _ hw'
        obtain ⟨nq, hw''⟩ := hw'
        subst hw''
        obtain ⟨W', hW'⟩ : ∃ W', W' = W.drewN nq := ⟨_, rfl⟩
        have hkW : Keeps none' W W' := by rw [hW']; exact (Keeps.refl _ W).drewN nq
        have d0 := hkW.cell c0 (fun h => h)
        have d0' := hkW.cell c0' (fun h => h)
        have d1 := hkW.cell c1 (fun h => h)
        have HW := Lib.hid hkW
        rw [← hW']
        clear hW' hkW c0 c0' c1 c2 c3 c4 z3 hq
        gi_wp2
        refine round_still_tail 10 hmx (by kernel_rfl) (by kernel_rfl) (by rintro ⟨_, _, h⟩; exact h) ?_
        simp only [List.take_succ_cons, List.take_zero, List.drop_succ_cons, List.drop_zero]
        repeat still_step
        refine wpStill_nil ?_
        go_wp2_with fail
        refine (write_any W'.drew p g st _ (blkOf x i) ((HS.out.keeps HW.out (fun h => h) (fun h => h)).keeps (S := none') (Keeps.refl none' W').drew (fun h => h) (fun h => h))).mono ?_
        rintro e W3 ⟨rfl, hst3, hk3⟩
        have hk : Keeps (stoF p g) W W3 := ((HW.out.mono (fun _ _ h => h.elim)).drew).trans (hk3.mono (fun _ _ h => h))
        have hP3 := HH.out.1.keeps hst3 hk hpl.1 hpl.2
        have hput := HP.out
        have hws3 := HH.out.2.2.keeps hk (by simp only [stoF]; omega)
        have hko := KeepsOthers.sto HS.out hk
        generalize write st ((b : Int) + (i : Int)) (blkOf x i) = rr at *
        obtain ⟨r, s3⟩ := rr
        simp only at *
        have f3 := hP3.b3.cell0
        have y3 := hP3.b3.free 0
        have HF := Lib.hid (And.intro hP3 (And.intro hput (And.intro hws3 (And.intro hko hk))))
        clear hP3 hput hws3 hko hk hst3 hk3 d0 d0' d1
        by_cases hr : r = 0
        · subst hr
          go_wp2_with fail
          gi_wp2
          exact ⟨HF.out.2.2.2.1.from _, KC.keeps HF.out.2.2.2.2, s3, HF.out.1, HF.out.2.1, HF.out.2.2.1⟩
        · have hr' : (r != 0) = true := by simpa using hr
          have HR := Lib.hid hr
          clear hr
          go_wp2_with fail
          gi_wp2
          refine ⟨(HF.out.2.2.2.1.trans (KeepsOthers.setCell _ _ _)).from _, s3, r, rfl, ?_, HF.out.2.1, HR.out⟩
          exact HF.out.1.setR r
  case done =>
    rintro D ys W hD hys ⟨st, h1, h2, h3⟩ hK
    have hput : put b x lo hi must s = (0, st) := by
      rw [put_eq s lo hi (blk_was h.wf ho hhi), ← h2, hys]
      rfl
    have f3 := h1.b3.cell0
    have y3 := h1.b3.free 0
    have HH := Lib.hid h1
    have HPut := Lib.hid hput
    clear h1 h2 h3 hput hst0 hws hbl hbh
    gi_wp2
    have hK' := (KeepsOthers.setCell W ⟨w.heap.size + 1 + 1 + 1, 0, none⟩ (.int .i64 0)).same D _ hK rfl
    refine ⟨by simp, .inl ⟨_, _, rfl, run_takeDeferred hK', ?_⟩⟩
    have hP := (HH.out.setR 0).nc (grownBy_putObj' _ D (.deferred none)) (fun r e => by cases e; exact ⟨by omega, _, hK', rfl⟩)
    have hc5 : World.cell? _ ⟨w.heap.size + 1 + 1 + 1, 0, none⟩ = _ := hP.b3.cell0
    refine ⟨.int .i64 0, ?_, by rw [HPut.out], by rw [HPut.out]; exact hP.sto, hP.keep⟩
    simp [results, Tryd.f38, go_sem, hc5]
  case stop =>
    rintro D c pre W hD ⟨k, hk, hpre⟩ ⟨st, e, rfl, h1, h2, h3⟩ hK
    have hput : put b x lo hi must s = (e, st) := by
      rw [put_eq s lo hi (blk_was h.wf ho hhi)]
      rw [hpre] at h2
      have e1 : List.range' (lo / 32) ((hi + 31) / 32 - lo / 32) = List.range' (lo / 32) k ++ List.range' (lo / 32 + k) ((hi + 31) / 32 - lo / 32 - k) := by
        have hk' : k ≤ (hi + 31) / 32 - lo / 32 := hk
        rw [List.range'_append_1]
        congr 1
        omega
      rw [e1, putW_append, h2, if_neg h3]
    have HPut := Lib.hid hput
    clear hput
    gi_wp2
    refine ⟨by simp, .inl ⟨_, _, rfl, run_takeDeferred hK, ?_⟩⟩
    have hP := h1.nc (grownBy_putObj' _ D (.deferred none)) (fun r e => by cases e; exact ⟨by omega, _, hK, rfl⟩)
    have hc5 : World.cell? _ ⟨w.heap.size + 1 + 1 + 1, 0, none⟩ = _ := hP.b3.cell0
    refine ⟨.int .i64 e, ?_, by rw [HPut.out], by rw [HPut.out]; exact hP.sto, hP.keep⟩
    simp [results, Tryd.f38, go_sem, hc5]
end Go.Proofs.YtoldogkfeimojaaDoor.Hv
