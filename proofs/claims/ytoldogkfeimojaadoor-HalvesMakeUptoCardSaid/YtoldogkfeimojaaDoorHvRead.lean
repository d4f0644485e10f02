/- One step of the proof of a statement of this seat: plain laws and walks of the store, log, journal and halves packages; no condition. -/
import Derived.Test.YtoldogkfeimojaaDoorHvAge2
import Derived.Test.YtoldogkfeimojaaDoorHvStep
import Derived.Deep.RegionLaw
set_option linter.unusedVariables false
set_option linter.unusedSimpArgs false
open Go.RowKit
namespace Go.Proofs.YtoldogkfeimojaaDoor.Hv
open Go.Proofs.Hv Go.Proofs.Mem

theorem prefix2 (s : Bytes) (a b : UInt8) : Lib.hasPrefix s [a, b] = begins s [a, b] := by
  rw [Bool.eq_iff_iff]
  unfold begins Lib.hasPrefix
  rw [List.isPrefixOf_iff_prefix, List.prefix_iff_eq_take, beq_iff_eq]
  exact ⟨fun h => h.symm, fun h => h.symm⟩
def halfV (r : Nat × List Bytes × List Bytes) (vs vt : Value) : Value := .agg #[.int .i64 (r.1 : Int), vs, vt]
def ReadPost (w : World) (r : Nat × List Bytes × List Bytes) (e : Ending) (w' : World) : Prop :=
  ∃ vs vt, e = .returned (halfV r vs vt) ∧ Mem.Own w.heap.size w' 9 vs (strs r.2.1) ∧ Mem.Own w.heap.size w' 9 vt (strs r.2.2) ∧ (∀ k, vs.ownBlock = some k → vt.ownBlock ≠ some k) ∧ Below w.heap.size w w'
theorem read_none (w w' : World) (hb : Below w.heap.size w w') : ReadPost w (0, [], []) (.returned (.agg #[.int .i64 0, .slice none 0 0, .slice none 0 0])) w' :=
  ⟨.slice none 0 0, .slice none 0 0, rfl, Mem.Own.nil _ _ _, Mem.Own.nil _ _ _, by simp [Value.ownBlock], hb⟩

set_option maxHeartbeats 400000 in
set_option maxRecDepth 20000 in
theorem read_empty (A : Option Addr) (c : Nat) (w : World) : Calls Tryd.prog 20 #[.slice A 0 c] w (ReadPost w (0, [], [])) := by
  go_enter Tryd.func20, Tryd.ntmps20
  go_wp2
  exact bodyPost_ret (v := .agg #[.int .i64 0, .slice none 0 0, .slice none 0 0]) (by simp [results, Tryd.results20, go_sem]) rfl (read_none w _ ((Below.refl _ _).alloc (Nat.le_refl _) _))

theorem rd_get {w : World} {b o : Nat} {l : List Bytes} (h : Rd w (some ⟨b, o, none⟩) (strs l)) (i : Nat) (hi : i < l.length) : w.cell? ⟨b, o + i, none⟩ = some (str l[i]) := by
  obtain ⟨b', o', e, hc⟩ := h.at_ i (by rw [strs_length]; exact hi)
  cases e
  have := hc i (by rw [strs_length]; exact hi)
  simpa [strs] using this

set_option maxHeartbeats 400000 in
set_option maxRecDepth 20000 in
theorem read_noage (b o c : Nat) (r : Bytes) (l : List Bytes) (w : World) (hg : Glob w) (hr : Rd w (some ⟨b, o, none⟩) (strs (r :: l))) (h0 : Hv.age r = 0) (hl : l.length ≤ 1000000) (hrl : r.length ≤ 1000000) :
    Calls Tryd.prog 20 #[.slice (some ⟨b, o, none⟩) (l.length + 1) c] w (ReadPost w (0, [], [])) := by
  have c0 := rd_get hr 0 (by simp)
  simp only [Nat.add_zero, List.getElem_cons_zero] at c0
  have hblt : b < w.heap.size := World.block_lt_of_cell? w _ c0
  have HH := Lib.hid (And.intro hg h0)
  have hlen : ((l.length : Int) + 1 == 0) = false := by simp; omega
  clear hg h0 hr
  go_enter Tryd.func20, Tryd.ntmps20
  go_wp2_with fail
  refine (age_any r _ (HH.out.1.below ((Below.refl _ _).alloc HH.out.1.size _)) hrl).mono ?_
  rintro e w1 ⟨rfl, hb1⟩
  rw [HH.out.2]
  have hk := ((Keeps.refl none' w).alloc (.cells #[.int .i64 0, .slice none 0 0, .slice none 0 0] 47)).below hb1
  have hB := (Blk.new w 47 [.int .i64 0, .slice none 0 0, .slice none 0 0]).below hb1
  have HK := Lib.hid (And.intro hk hB)
  have q0 := hB.cell0
  have q1 := hB.cell1
  have q2 := hB.cell2
  have z0 := hB.free 0
  have z1 := hB.free 1
  have z2 := hB.free 2
  clear hk hb1 hB
  go_wp2
  exact bodyPost_ret (v := .agg #[.int .i64 0, .slice none 0 0, .slice none 0 0]) (by simp [results, Tryd.results20, go_sem, q0, q1, q2]) rfl (read_none w _ (((HK.out.1.setCell (.inr (Nat.le_refl _)) _).setCell (.inr (Nat.le_refl _)) _).setCell (.inr (Nat.le_refl _)) _).to_below0)

/-- what is still to be read makes of what was read -/
def fin2 (is_ : Bool) (snap tail rest : List Bytes) : Option (List Bytes × List Bytes) :=
  match is_ with
  | false => (takeSnap rest).map fun p => (snap ++ p.1, p.2)
  | true => (takeTail rest).map fun t => (snap, tail ++ t)
def resOf (a : Nat) (o : Option (List Bytes × List Bytes)) : Nat × List Bytes × List Bytes := match o with
  | some p => (a, p.1, p.2)
  | none => (0, [], [])
theorem own_shape {base : Nat} {w : World} {e : TypeId} {v : Value} {xs : List Value} (h : Mem.Own base w e v xs) : ∃ A m c, v = .slice A m c := by
  rcases h.shape with ⟨e, _⟩ | ⟨g2, cc2, e, _⟩
  · exact ⟨_, _, _, e⟩
  · exact ⟨_, _, _, e⟩
theorem begins_len {x p : Bytes} (h : begins x p = true) : p.length ≤ x.length := by
  unfold begins at h
  have := congrArg List.length (beq_iff_eq.1 h)
  rw [List.length_take] at this
  omega
structure RdRel (w : World) (B0 H base age_ : Nat) (A : Option Addr) (l : List Bytes) (whole : Option (List Bytes × List Bytes)) (k : Nat) (is_ : Bool) (snap tail : List Bytes) (vs vt : Value) (W : World) : Prop where
  h : Blk W H 47 [.int .i64 (age_ : Int), vs, vt]
  r : Blk W B0 47 [.int .i64 0, .slice none 0 0, .slice none 0 0]
  rd : Rd W A (strs l)
  s : Mem.Own base W 9 vs (strs snap)
  t : Mem.Own base W 9 vt (strs tail)
  ne : ∀ q, vs.ownBlock = some q → vt.ownBlock ≠ some q
  keep : Below w.heap.size w W
  fin_ : whole = fin2 is_ snap tail (l.drop (k + 1))
  tl : is_ = false → tail = []
  ls : snap.length ≤ k
  lt : tail.length ≤ k
  hb : H < base
  rb : B0 < H
  rw_ : w.heap.size ≤ B0

theorem own_ne {base : Nat} {w : World} {e : TypeId} {v : Value} {xs : List Value} {g : Nat} (h : Mem.Own base w e v xs) (hg : g < base := by omega) : v.ownBlock ≠ some g := by
  intro e0
  have := (World.ownsRow.lt h g e0).1
  omega
section
variable {w W W' : World} {B0 H base age_ : Nat} {A : Option Addr} {l : List Bytes} {wh : Option (List Bytes × List Bytes)} {k : Nat} {is_ : Bool} {snap tail : List Bytes} {vs vt v' : Value} {y : Bytes} {o : Obj}
theorem RdRel.push_s (h : RdRel w B0 H base age_ A l wh k is_ snap tail vs vt W) (hA : ∀ a, A = some a → a.block < w.heap.size) (hown : Mem.Own base W' 9 v' (strs snap ++ [str y])) (hgr : (W.alloc o).drew.grownBy W' vs.ownBlock) (hmv : Moves (W.alloc o).drew vs v')
    (hwh : wh = fin2 is_ (snap ++ [y]) tail (l.drop (k + 1 + 1))) (hB : base ≤ W.heap.size) : RdRel w B0 H base age_ A l wh (k + 1) is_ (snap ++ [y]) tail v' vt (W'.setCell ⟨H, 1, none⟩ v') := by
  have hk1 : Keeps none' W (W.alloc o).drew := ((Keeps.refl _ W).alloc o).drew
  have hk2 : Keeps (fun q => vs.ownBlock = some q) W W' := (hk1.mono (fun _ _ h => h.elim)).grown hgr (fun q hq => .inl hq)
  have hk3 : Keeps (fun q => q = H) W' (W'.setCell ⟨H, 1, none⟩ v') := (Keeps.refl _ W').setCell (by simp) _
  have hs := h.hb
  have hrb := h.rb
  have hrw := h.rw_
  have hvs : ∀ q, vs.ownBlock = some q → base ≤ q := fun q hq => (World.ownsRow.lt h.s q hq).1
  have hvt : ∀ q, vt.ownBlock = some q → base ≤ q ∧ q < W.heap.size := fun q hq => World.ownsRow.lt h.t q hq
  have hv' : ∀ q, v'.ownBlock = some q → base ≤ q := fun q hq => (World.ownsRow.lt hown q hq).1
  have e : strs (snap ++ [y]) = strs snap ++ [str y] := by simp [strs]
  refine ⟨?_, ?_, ?_, ?_, ?_, ?_, ?_, hwh, h.tl, ?_, ?_, hs, hrb, hrw⟩
  · exact (h.h.keeps hk2 (fun e => by have := hvs _ e; omega)).set 1 v'
  · exact (h.r.keeps hk2 (fun e => by have := hvs _ e; omega)).keeps hk3 (by omega)
  · refine hk3.rd (hk2.rd h.rd (fun a ha e => ?_)) (fun a ha e => ?_)
    · have := hA a ha; have := hvs _ e; omega
    · have := hA a ha; omega
  · rw [e]; exact hk3.own hown (fun q hq e => by have := hv' q hq; omega)
  · exact hk3.own (hk2.own h.t (fun q hq e => h.ne q e hq)) (fun q hq e => by have := (hvt q hq).1; omega)
  · intro q hq ht
    have := hvt q ht
    exact hmv q (by simp; omega) (fun e => h.ne q e ht) hq
  · exact (h.keep.trans (hk2.to_below w.heap.size h.keep.size (fun i hi e => by have := hvs i e; omega))).setCell (by simp; omega) _
  · have := h.ls; simp; omega
  · have := h.lt; omega
theorem RdRel.push_t (h : RdRel w B0 H base age_ A l wh k is_ snap tail vs vt W) (hA : ∀ a, A = some a → a.block < w.heap.size) (hown : Mem.Own base W' 9 v' (strs tail ++ [str y])) (hgr : (W.alloc o).drew.grownBy W' vt.ownBlock) (hmv : Moves (W.alloc o).drew vt v')
    (hwh : wh = fin2 is_ snap (tail ++ [y]) (l.drop (k + 1 + 1))) (hB : base ≤ W.heap.size) (hi : is_ = true) : RdRel w B0 H base age_ A l wh (k + 1) is_ snap (tail ++ [y]) vs v' (W'.setCell ⟨H, 2, none⟩ v') := by
  have hk1 : Keeps none' W (W.alloc o).drew := ((Keeps.refl _ W).alloc o).drew
  have hk2 : Keeps (fun q => vt.ownBlock = some q) W W' := (hk1.mono (fun _ _ h => h.elim)).grown hgr (fun q hq => .inl hq)
  have hk3 : Keeps (fun q => q = H) W' (W'.setCell ⟨H, 2, none⟩ v') := (Keeps.refl _ W').setCell (by simp) _
  have hs := h.hb
  have hrb := h.rb
  have hrw := h.rw_
  have hvs : ∀ q, vt.ownBlock = some q → base ≤ q := fun q hq => (World.ownsRow.lt h.t q hq).1
  have hvt : ∀ q, vs.ownBlock = some q → base ≤ q ∧ q < W.heap.size := fun q hq => World.ownsRow.lt h.s q hq
  have hv' : ∀ q, v'.ownBlock = some q → base ≤ q := fun q hq => (World.ownsRow.lt hown q hq).1
  have e : strs (tail ++ [y]) = strs tail ++ [str y] := by simp [strs]
  refine ⟨?_, ?_, ?_, ?_, ?_, ?_, ?_, hwh, (fun hf => by rw [hi] at hf; cases hf), ?_, ?_, hs, hrb, hrw⟩
  · exact (h.h.keeps hk2 (fun e => by have := hvs _ e; omega)).set 2 v'
  · exact (h.r.keeps hk2 (fun e => by have := hvs _ e; omega)).keeps hk3 (by omega)
  · refine hk3.rd (hk2.rd h.rd (fun a ha e => ?_)) (fun a ha e => ?_)
    · have := hA a ha; have := hvs _ e; omega
    · have := hA a ha; omega
  · exact hk3.own (hk2.own h.s (fun q hq e => h.ne q hq e)) (fun q hq e => by have := (hvt q hq).1; omega)
  · rw [e]; exact hk3.own hown (fun q hq e => by have := hv' q hq; omega)
  · intro q hs2 ht
    have := hvt q hs2
    exact hmv q (by simp; omega) (fun e => h.ne q hs2 e) ht
  · exact (h.keep.trans (hk2.to_below w.heap.size h.keep.size (fun i hi e => by have := hvs i e; omega))).setCell (by simp; omega) _
  · have := h.ls; omega
  · have := h.lt; simp; omega
end
set_option maxHeartbeats 1000000 in
set_option maxRecDepth 20000 in
theorem read_main (b o c : Nat) (r : Bytes) (l : List Bytes) (w : World) (hg : Glob w) (hr : Rd w (some ⟨b, o, none⟩) (strs (r :: l))) (h0 : Hv.age r ≠ 0) (hl : l.length ≤ 1000000) (hrl : ∀ x ∈ r :: l, x.length ≤ 1000000) (hc : l.length + 1 ≤ c) :
    Calls Tryd.prog 20 #[.slice (some ⟨b, o, none⟩) (l.length + 1) c] w (ReadPost w (resOf (Hv.age r) (takeSnap l))) := by
  have c0 := rd_get hr 0 (by simp)
  simp only [Nat.add_zero, List.getElem_cons_zero] at c0
  have hblt : b < w.heap.size := World.block_lt_of_cell? w _ c0
  have hrl0 : r.length ≤ 1000000 := hrl r (by simp)
  obtain ⟨ag, hag⟩ : ∃ ag, ag = Hv.age r := ⟨_, rfl⟩
  obtain ⟨wh, hwh⟩ : ∃ wh, wh = takeSnap l := ⟨_, rfl⟩
  rw [← hag, ← hwh]
  have hage : ((ag : Int) == 0) = false := by rw [hag]; simp; omega
  have HH := Lib.hid (And.intro hg (And.intro hr (And.intro hag (And.intro hwh hrl))))
  have hlen : ((l.length : Int) + 1 == 0) = false := by simp; omega
  clear hg h0 hr hag hwh hrl
  go_enter Tryd.func20, Tryd.ntmps20
  go_wp2_with fail
  refine (age_any r _ (HH.out.1.below ((Below.refl _ _).alloc HH.out.1.size _)) hrl0).mono ?_
  rintro e w1 ⟨rfl, hb1⟩
  rw [← HH.out.2.2.1]
  have hk := ((Keeps.refl none' w).alloc (.cells #[.int .i64 0, .slice none 0 0, .slice none 0 0] 47)).below hb1
  have hB := (Blk.new w 47 [.int .i64 0, .slice none 0 0, .slice none 0 0]).below hb1
  have hsz1 : w.heap.size < w1.heap.size := by have := hb1.size; simp at this; omega
  have c1 := hk.cell c0 (fun h => h)
  have HK := Lib.hid (And.intro hk hB)
  clear hk hb1 hB c0
  go_wp2_with fail
  refine (age_any r _ (HH.out.1.keeps HK.out.1 HH.out.1.size (fun _ _ h => h)) hrl0).mono ?_
  rintro e w2 ⟨rfl, hb2⟩
  rw [← HH.out.2.2.1]
  have hk2 := HK.out.1.below hb2
  have hB2 := HK.out.2.below hb2
  have hsz2 : w.heap.size < w2.heap.size := Nat.lt_of_lt_of_le hsz1 hb2.size
  have hrd2 := hk2.rd HH.out.2.1 (fun _ _ h => h)
  have HK2 := Lib.hid (And.intro hk2 (And.intro hB2 hrd2))
  clear hk2 hb2 hB2 hrd2 c1
  rcases (show c = 1 ∨ 1 < c by omega) with rfl | hc1
  all_goals
    go_wp2_with fail
    go_loopg [4, 26] (l.length + 1) (fun f v4 v26 W => ∃ (k : Nat) (is_ : Bool) (snap tail : List Bytes) (vs vt : Value), k + f = l.length + 1 ∧ k ≤ l.length ∧ v4 = .bool is_ ∧ v26 = .int .i64 (k : Int) ∧ RdRel w w.heap.size w2.heap.size (w2.heap.size + 1) ag (some ⟨b, o, none⟩) (r :: l) wh k is_ snap tail vs vt W)
    case atStart => exact ⟨0, false, [], [], .slice none 0 0, .slice none 0 0, by omega, by omega, rfl, rfl, Blk.new w2 _ _, HK2.out.2.1.alloc _, (HK2.out.1.alloc _).rd HH.out.2.1 (fun _ _ h => h), Mem.Own.nil _ _ _, Mem.Own.nil _ _ _, by simp [Value.ownBlock], (HK2.out.1.alloc _).to_below0, by rw [HH.out.2.2.2.1]; simp [fin2], fun _ => rfl, by simp, by simp, by omega, hsz2, Nat.le_refl _⟩
    case round =>
      obtain ⟨k, is_, snap, tail, vs, vt, hk, hkl, rfl, rfl, hR⟩ := hrel
      have q0 := hR.r.cell0
      have q1 := hR.r.cell1
      have q2 := hR.r.cell2
      have y0 := hR.r.free 0
      have y1 := hR.r.free 1
      have y2 := hR.r.free 2
      have g0 := hR.h.cell0
      have g1 := hR.h.cell1
      have g2 := hR.h.cell2
      have x1 := hR.h.free 1
      have x2 := hR.h.free 2
      have hltH : w.heap.size < w2.heap.size := hsz2
      obtain ⟨A1, m1, cs1, rfl⟩ := own_shape hR.s
      obtain ⟨A2, m2, cs2, rfl⟩ := own_shape hR.t
      have HR := Lib.hid hR
      clear hR
      by_cases hlt : k < l.length
      · first
        | (exfalso; omega)
        | (have ck : wr.cell? ⟨b, o + 1 + k, none⟩ = some (str l[k]) := by
             have := rd_get HR.out.rd (k + 1) (by simp; omega)
             rw [show o + 1 + k = o + (k + 1) by omega]
             simpa using this
           have hxl : l[k].length ≤ 1000000 := HH.out.2.2.2.2 _ (by simp)
           have hfin := HR.out.fin_
           have hdrop : (r :: l).drop (k + 1) = l[k] :: (r :: l).drop (k + 1 + 1) := by
             simp only [List.drop_succ_cons]
             exact List.drop_eq_getElem_cons hlt
           rw [hdrop] at hfin
           generalize l[k] = x at *
           obtain ⟨rest, hrest⟩ : ∃ rest, rest = (r :: l).drop (k + 1 + 1) := ⟨_, rfl⟩
           rw [← hrest] at hfin
           have HRest := Lib.hid hrest
           clear hdrop hrest
           have hHlt : w2.heap.size < wr.heap.size := HR.out.h.lt
           have hszr : b < wr.heap.size := World.block_lt_of_cell? wr _ ck
           cases is_ with
           | false =>
             cases hlv : (x == [108, 105, 118, 101]) with
             | true =>
               have hx : x = live := by simpa [live] using hlv
               have htl := HR.out.tl rfl
               have HF := Lib.hid (show wh = fin2 true snap tail rest from by rw [hfin, hx, htl]; simp [fin2, takeSnap, begins, live, Function.comp_def])
               clear hfin hx htl
               go_wp2
               go_roundg (gk - 1)
               case measure => omega
               case rel => exact ⟨k + 1, true, snap, tail, _, _, by omega, by omega, rfl, by go_num, { HR.out with fin_ := (by rw [← HRest.out]; exact HF.out), tl := (fun h => by cases h), ls := (by have := HR.out.ls; omega), lt := by have := HR.out.lt; omega }⟩
             | false =>
               cases hpx : begins x [115, 32] with
               | true =>
                 have htl := HR.out.tl rfl
                 have HF := Lib.hid (show wh = fin2 false (snap ++ [x.drop 2]) tail rest from by rw [hfin]; simp [fin2, takeSnap, hpx, Function.comp_def])
                 have HP := Lib.hid ((prefix2 x 115 32).trans hpx)
                 have hx2' : 2 ≤ x.length := begins_len hpx
                 have hx2 : (2 : Int) ≤ (x.length : Int) := by omega
                 have hex : (⟨x.toArray⟩ : ByteArray).extract 2 x.length = ⟨(x.drop 2).toArray⟩ := bs_extract_end x 2
                 have hsl := HR.out.ls
                 clear hfin hpx htl
                 go_wp2_with fail
                 refine (prefix_any x [115, 32] wr).mono ?_
                 rintro e w3 ⟨rfl, rfl⟩
                 rw [HP.out]
                 go_wp2_with fail
                 go_region_law ((refine step_push E32 rfl (.tmp 46) (.tmp 49) rfl (w2.heap.size + 1) (.slice A1 m1 cs1) (strs snap) (by rfl) (str (x.drop 2)) wr.heap.size 1 (by rfl) (by simp) ((HR.out.s.alloc _).drew) rfl (by rw [strs_length]; omega) (by decide) (by have := HR.out.h.lt; simp; omega) ?_; intro g4 c4 w4 hown4 hgr4 hmv4; have hB4 := Blk.grown (w := (wr.alloc (.cells #[str (x.drop 2)] 9)).drew) (HR.out.h.alloc _) hgr4 (own_ne HR.out.s); have k1 := hB4.cell1; have z1 := hB4.free 1))
                 all_goals
                   have HL := Lib.hid (HR.out.push_s (by rintro a ⟨⟩; exact hblt) hown4 hgr4 hmv4 (by rw [← HRest.out]; exact HF.out) (by omega))
                   clear hown4 hgr4 hmv4 hB4
                   go_wp2
                   go_roundg (gk - 1)
                   case measure => omega
                   case rel => exact ⟨k + 1, false, snap ++ [x.drop 2], tail, _, _, by omega, by omega, rfl, by go_num, by have := HL.out; rw [strs_length] at this; exact this⟩
               | false =>
                 have HF := Lib.hid (show resOf ag wh = (0, [], []) from by rw [hfin]; simp only [fin2, takeSnap, hpx]; rw [if_neg (by simp), if_neg (by intro e; rw [e] at hlv; simp [live] at hlv)]; rfl)
                 have HP := Lib.hid ((prefix2 x 115 32).trans hpx)
                 clear hfin hpx
                 go_wp2_with fail
                 refine (prefix_any x [115, 32] wr).mono ?_
                 rintro e w3 ⟨rfl, rfl⟩
                 rw [HP.out]
                 go_wp2
                 rw [HF.out]
                 exact bodyPost_ret (v := .agg #[.int .i64 0, .slice none 0 0, .slice none 0 0]) (by simp [results, Tryd.results20, go_sem, q0, q1, q2]) rfl (read_none w _ (((HR.out.keep.setCell (Nat.le_refl _) _).setCell (Nat.le_refl _) _).setCell (Nat.le_refl _) _))
           | true =>
             cases hpx : begins x [116, 32] with
             | true =>
               have HF := Lib.hid (show wh = fin2 true snap (tail ++ [x.drop 2]) rest from by rw [hfin]; simp [fin2, takeTail, hpx, Function.comp_def])
               have HP := Lib.hid ((prefix2 x 116 32).trans hpx)
               have hx2' : 2 ≤ x.length := begins_len hpx
               have hx2 : (2 : Int) ≤ (x.length : Int) := by omega
               have hex : (⟨x.toArray⟩ : ByteArray).extract 2 x.length = ⟨(x.drop 2).toArray⟩ := bs_extract_end x 2
               have hsl := HR.out.lt
               clear hfin hpx
               go_wp2_with fail
               refine (prefix_any x [116, 32] wr).mono ?_
               rintro e w3 ⟨rfl, rfl⟩
               rw [HP.out]
               go_wp2_with fail
               go_region_law ((refine step_push E32 rfl (.tmp 59) (.tmp 62) rfl (w2.heap.size + 1) (.slice A2 m2 cs2) (strs tail) (by rfl) (str (x.drop 2)) wr.heap.size 1 (by rfl) (by simp) ((HR.out.t.alloc _).drew) rfl (by rw [strs_length]; omega) (by decide) (by have := HR.out.h.lt; simp; omega) ?_; intro g4 c4 w4 hown4 hgr4 hmv4; have hB4 := Blk.grown (w := (wr.alloc (.cells #[str (x.drop 2)] 9)).drew) (HR.out.h.alloc _) hgr4 (own_ne HR.out.t); have k1 := hB4.cell2; have z1 := hB4.free 2))
               all_goals
                 have HL := Lib.hid (HR.out.push_t (by rintro a ⟨⟩; exact hblt) hown4 hgr4 hmv4 (by rw [← HRest.out]; exact HF.out) (by omega) rfl)
                 clear hown4 hgr4 hmv4 hB4
                 go_wp2
                 go_roundg (gk - 1)
                 case measure => omega
                 case rel => exact ⟨k + 1, true, snap, tail ++ [x.drop 2], _, _, by omega, by omega, rfl, by go_num, by have := HL.out; rw [strs_length] at this; exact this⟩
             | false =>
               have HF := Lib.hid (show resOf ag wh = (0, [], []) from by rw [hfin]; simp only [fin2, takeTail, hpx]; rfl)
               have HP := Lib.hid ((prefix2 x 116 32).trans hpx)
               clear hfin hpx
               go_wp2_with fail
               refine (prefix_any x [116, 32] wr).mono ?_
               rintro e w3 ⟨rfl, rfl⟩
               rw [HP.out]
               go_wp2
               rw [HF.out]
               exact bodyPost_ret (v := .agg #[.int .i64 0, .slice none 0 0, .slice none 0 0]) (by simp [results, Tryd.results20, go_sem, q0, q1, q2]) rfl (read_none w _ (((HR.out.keep.setCell (Nat.le_refl _) _).setCell (Nat.le_refl _) _).setCell (Nat.le_refl _) _)))
      · have hkk : k = l.length := by omega
        have hfin := HR.out.fin_
        rw [hkk, List.drop_of_length_le (by simp)] at hfin
        cases is_ with
        | false =>
          have HZ := Lib.hid (show resOf ag wh = (0, [], []) from by rw [hfin]; rfl)
          clear hfin hkk
          go_wp2
          rw [HZ.out]
          exact bodyPost_ret (v := .agg #[.int .i64 0, .slice none 0 0, .slice none 0 0]) (by simp [results, Tryd.results20, go_sem, q0, q1, q2]) rfl (read_none w _ (((HR.out.keep.setCell (Nat.le_refl _) _).setCell (Nat.le_refl _) _).setCell (Nat.le_refl _) _))
        | true =>
          have HZ := Lib.hid (show resOf ag wh = (ag, snap, tail) from by rw [hfin]; simp [resOf, fin2, takeTail])
          clear hfin hkk
          go_wp2
          rw [HZ.out]
          have hB := HR.out.r.lt
          have hbs := HR.out.hb
          have hkS : ∀ (a b c : Value), Keeps (fun q => q = w.heap.size) wr (((wr.setCell ⟨w.heap.size, 0, none⟩ a).setCell ⟨w.heap.size, 1, none⟩ b).setCell ⟨w.heap.size, 2, none⟩ c) := fun a b c => (((Keeps.refl _ wr).setCell (by simp) a).setCell (by simp) b).setCell (by simp) c
          refine bodyPost_ret (v := .agg #[.int .i64 (ag : Int), .slice A1 m1 cs1, .slice A2 m2 cs2]) (by simp [results, Tryd.results20, go_sem, q0, q1, q2]) rfl ⟨.slice A1 m1 cs1, .slice A2 m2 cs2, rfl, ?_, ?_, HR.out.ne, ((HR.out.keep.setCell (Nat.le_refl _) _).setCell (Nat.le_refl _) _).setCell (Nat.le_refl _) _⟩
          · exact ((hkS _ _ _).own HR.out.s (fun q hq e => by have := (World.ownsRow.lt HR.out.s q hq).1; omega)).base (by omega)
          · exact ((hkS _ _ _).own HR.out.t (fun q hq e => by have := (World.ownsRow.lt HR.out.t q hq).1; omega)).base (by omega)
theorem readHalf_cons (r : Bytes) (l : List Bytes) : readHalf (r :: l) = if Hv.age r = 0 then (0, [], []) else resOf (Hv.age r) (takeSnap l) := by
  unfold readHalf resOf
  simp only
  split
  · rfl
  · cases takeSnap l <;> rfl
theorem read_any (v : Value) (base : Nat) (l : List Bytes) (w : World) (hg : Glob w) (h : Mem.Own base w 9 v (strs l)) (hl : l.length ≤ 1000000) (hrl : ∀ x ∈ l, x.length ≤ 1000000) :
    Calls Tryd.prog 20 #[v] w (ReadPost w (readHalf l)) := by
  obtain ⟨A, c, rfl, hr, hc, _⟩ := h.rd
  cases l with
  | nil => exact read_empty A c w
  | cons r l =>
    obtain ⟨b, o, e, _⟩ := hr.at_ 0 (by simp)
    cases e
    simp only [List.length_cons] at hl
    rw [readHalf_cons]
    rw [strs_length, List.length_cons] at hc ⊢
    by_cases h0 : Hv.age r = 0
    · rw [if_pos h0]
      exact read_noage b o c r l w hg hr h0 (by omega) (hrl r (by simp))
    · rw [if_neg h0]
      exact read_main b o c r l w hg hr h0 (by omega) hrl hc
end Go.Proofs.YtoldogkfeimojaaDoor.Hv
