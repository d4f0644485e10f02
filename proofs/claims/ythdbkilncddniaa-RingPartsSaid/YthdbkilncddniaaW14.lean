/- One step of the proof of a statement of this seat: plain laws and walks of the ring package; no condition. -/
import Derived.Test.YthdbkilncddniaaW13
import Derived.Test.YthdbkilncddniaaRingWf
set_option linter.unusedVariables false
set_option linter.unusedSimpArgs false
open Go.RowKit
namespace Go.Proofs.Ythdbkilncddniaa.Ring
open RingM Go.Proofs.Mem

/-- a variable's block -/
def Box (w : World) (g : Nat) (t : TypeId) (v : Value) : Prop := w.heap[g]? = some (.cells #[v] t (0, 0))
theorem Box.cell {w : World} {g : Nat} {t : TypeId} {v : Value} (h : Box w g t v) : w.cell? ⟨g, 0, none⟩ = some v := by
  unfold Box at h
  simp [World.cell?, h]
theorem Box.free {w : World} {g : Nat} {t : TypeId} {v : Value} (h : Box w g t v) : w.frozen? ⟨g, 0, none⟩ = false := by
  unfold Box at h
  simp [World.frozen?, h]
theorem Box.lt {w : World} {g : Nat} {t : TypeId} {v : Value} (h : Box w g t v) : g < w.heap.size := (Array.getElem?_eq_some_iff.1 h).1
theorem Box.same {w w' : World} {g : Nat} {t : TypeId} {v : Value} (h : Box w g t v) (he : w'.heap[g]? = w.heap[g]?) : Box w' g t v := by
  unfold Box at h ⊢
  rw [he, h]
theorem Box.set {w : World} {g : Nat} {t : TypeId} {v : Value} (h : Box w g t v) (u : Value) : Box (w.setCell ⟨g, 0, none⟩ u) g t u :=
  heap_setCell_same w g 0 #[v] t u h
theorem heap_set (w : World) (g o k : Nat) (u : Value) (h : k ≠ g) : (w.setCell ⟨g, o, none⟩ u).heap[k]? = w.heap[k]? := Below.heap_setCell _ _ _ _ h

/-- slices of the call's own in a slice of the call's own -/
structure OwnOut (base : Nat) (w : World) (vo : Value) (ro : List Value) (out : List (List Nat)) : Prop where
  len : ro.length = out.length
  top : Own base w 26 vo ro
  rows : ∀ i, i < ro.length → Own base w 3 (val ro i) (vints (out.getD i []))

abbrev ptr (g : Nat) : Value := .pointer (some ⟨g, 0, none⟩)
def caps (b : Nat) : Array Value := #[ptr (b + 9), ptr (b + 3), ptr (b + 5), ptr (b + 7), ptr (b + 8), ptr b, ptr (b + 10), ptr (b + 1)]

/-- the search's state in memory -/
structure VSt (w0 : World) (A : Option Addr) (c : Nat) (n : Net) (s : St) (vs vo : Value) (ro : List Value) (w : World) : Prop where
  old : Below w0.heap.size w0 w
  nbox : Box w w0.heap.size 23 (.slice A n.length c)
  obox : Box w (w0.heap.size + 1) 22 vo
  ibox : Box w (w0.heap.size + 3) 26 (.slice (some ⟨w0.heap.size + 2, 0, none⟩) n.length n.length)
  lbox : Box w (w0.heap.size + 5) 26 (.slice (some ⟨w0.heap.size + 4, 0, none⟩) n.length n.length)
  pbox : Box w (w0.heap.size + 7) 41 (.slice (some ⟨w0.heap.size + 6, 0, none⟩) n.length n.length)
  sbox : Box w (w0.heap.size + 8) 26 vs
  mbox : Box w (w0.heap.size + 9) 3 (.int .i64 (s.met : Int))
  vbox : Box w (w0.heap.size + 10) 42 (.func (.func 17) #[] (caps w0.heap.size))
  idx : Own w0.heap.size w 3 (.slice (some ⟨w0.heap.size + 2, 0, none⟩) n.length n.length) (vints s.idx)
  low : Own w0.heap.size w 3 (.slice (some ⟨w0.heap.size + 4, 0, none⟩) n.length n.length) (vints s.low)
  opn : Own w0.heap.size w 4 (.slice (some ⟨w0.heap.size + 6, 0, none⟩) n.length n.length) (bools s.opn)
  stk : Own (w0.heap.size + 11) w 3 vs (vints s.stk)
  out : OwnOut (w0.heap.size + 11) w vo ro s.out
  apart : ∀ i, i < ro.length → vs.ownBlock = none ∨ vs.ownBlock ≠ (val ro i).ownBlock
  size : w0.heap.size + 11 ≤ w.heap.size

section
variable {w0 : World} {A : Option Addr} {c : Nat} {n : Net} {s : St} {vs vo : Value} {ro : List Value} {w : World}

/-- what is written is another block: all the rest stays -/
theorem VSt.frame (h : VSt w0 A c n s vs vo ro w) {w' : World} (hb : Below w.heap.size w w') : VSt w0 A c n s vs vo ro w' := by
  have hk : ∀ k, k < w.heap.size → w'.heap[k]? = w.heap[k]? := fun k hk => hb.block k hk
  have hs := h.size
  exact ⟨h.old.trans (hb.mono (by omega)), h.nbox.same (hk _ (by omega)), h.obox.same (hk _ (by omega)), h.ibox.same (hk _ (by omega)), h.lbox.same (hk _ (by omega)), h.pbox.same (hk _ (by omega)), h.sbox.same (hk _ (by omega)), h.mbox.same (hk _ (by omega)), h.vbox.same (hk _ (by omega)),
    h.idx.below hb, h.low.below hb, h.opn.below hb, h.stk.below hb, ⟨h.out.len, h.out.top.below hb, fun i hi => (h.out.rows i hi).below hb⟩, h.apart, Nat.le_trans hs hb.size⟩
theorem VSt.drew (h : VSt w0 A c n s vs vo ro w) : VSt w0 A c n s vs vo ro w.drew := h.frame ⟨rfl, rfl, rfl, Nat.le_refl _, fun _ _ => rfl⟩

theorem ownBlock_ne {base : Nat} {e : TypeId} {v : Value} {xs : List Value} {g : Nat} (h : Own base w e v xs) (hg : g < base) : v.ownBlock = none ∨ v.ownBlock ≠ some g := by
  cases hb : v.ownBlock with
  | none => exact .inl rfl
  | some b =>
    have := (World.ownsRow.lt h b hb).1
    exact .inr (by simp; omega)

/-- a store into one of the first eleven blocks -/
theorem VSt.rest (h : VSt w0 A c n s vs vo ro w) (g o : Nat) (u : Value) (h1 : w0.heap.size ≤ g) (h2 : g < w0.heap.size + 11) :
    Below w0.heap.size w0 (w.setCell ⟨g, o, none⟩ u) ∧ Own (w0.heap.size + 11) (w.setCell ⟨g, o, none⟩ u) 3 vs (vints s.stk) ∧ OwnOut (w0.heap.size + 11) (w.setCell ⟨g, o, none⟩ u) vo ro s.out ∧ w0.heap.size + 11 ≤ (w.setCell ⟨g, o, none⟩ u).heap.size := by
  have hg := grownBy_setCell w g o u
  refine ⟨h.old.setCell (by simpa using h1) _, h.stk.grown hg (ownBlock_ne h.stk h2), ⟨h.out.len, h.out.top.grown hg (ownBlock_ne h.out.top h2), fun i hi => (h.out.rows i hi).grown hg (ownBlock_ne (h.out.rows i hi) h2)⟩, ?_⟩
  have := h.size
  simpa [World.setCell] using this
theorem ownsm {base g g' o : Nat} {e : TypeId} {m c : Nat} {xs : List Value} {u : Value} (h : Own base w e (.slice (some ⟨g, 0, none⟩) m c) xs) (hne : g ≠ g') : Own base (w.setCell ⟨g', o, none⟩ u) e (.slice (some ⟨g, 0, none⟩) m c) xs :=
  h.grown (grownBy_setCell w g' o u) (.inr (by simp [Value.ownBlock]; exact hne))

theorem VSt.setMet (h : VSt w0 A c n s vs vo ro w) (m : Nat) : VSt w0 A c n { s with met := m } vs vo ro (w.setCell ⟨w0.heap.size + 9, 0, none⟩ (.int .i64 (m : Int))) := by
  obtain ⟨r1, r2, r3, r4⟩ := h.rest (w0.heap.size + 9) 0 (.int .i64 (m : Int)) (by omega) (by omega)
  exact ⟨r1, h.nbox.same (heap_set _ _ _ _ _ (by omega)), h.obox.same (heap_set _ _ _ _ _ (by omega)), h.ibox.same (heap_set _ _ _ _ _ (by omega)), h.lbox.same (heap_set _ _ _ _ _ (by omega)), h.pbox.same (heap_set _ _ _ _ _ (by omega)), h.sbox.same (heap_set _ _ _ _ _ (by omega)),
    h.mbox.set _, h.vbox.same (heap_set _ _ _ _ _ (by omega)), ownsm h.idx (by omega), ownsm h.low (by omega), ownsm h.opn (by omega), r2, r3, h.apart, r4⟩
theorem VSt.setIdx (h : VSt w0 A c n s vs vo ro w) (hl : s.idx.length = n.length) (v x : Nat) : VSt w0 A c n { s with idx := s.idx.set v x } vs vo ro (w.setCell ⟨w0.heap.size + 2, v, none⟩ (.int .i64 (x : Int))) := by
  obtain ⟨r1, r2, r3, r4⟩ := h.rest (w0.heap.size + 2) v (.int .i64 (x : Int)) (by omega) (by omega)
  have := (Own.store h.idx (by rw [vints_length]; exact hl.symm) v (.int .i64 (x : Int))).1
  rw [vints_set] at this
  exact ⟨r1, h.nbox.same (heap_set _ _ _ _ _ (by omega)), h.obox.same (heap_set _ _ _ _ _ (by omega)), h.ibox.same (heap_set _ _ _ _ _ (by omega)), h.lbox.same (heap_set _ _ _ _ _ (by omega)), h.pbox.same (heap_set _ _ _ _ _ (by omega)), h.sbox.same (heap_set _ _ _ _ _ (by omega)),
    h.mbox.same (heap_set _ _ _ _ _ (by omega)), h.vbox.same (heap_set _ _ _ _ _ (by omega)), this, ownsm h.low (by omega), ownsm h.opn (by omega), r2, r3, h.apart, r4⟩
theorem VSt.setLow (h : VSt w0 A c n s vs vo ro w) (hl : s.low.length = n.length) (v x : Nat) : VSt w0 A c n { s with low := s.low.set v x } vs vo ro (w.setCell ⟨w0.heap.size + 4, v, none⟩ (.int .i64 (x : Int))) := by
  obtain ⟨r1, r2, r3, r4⟩ := h.rest (w0.heap.size + 4) v (.int .i64 (x : Int)) (by omega) (by omega)
  have := (Own.store h.low (by rw [vints_length]; exact hl.symm) v (.int .i64 (x : Int))).1
  rw [vints_set] at this
  exact ⟨r1, h.nbox.same (heap_set _ _ _ _ _ (by omega)), h.obox.same (heap_set _ _ _ _ _ (by omega)), h.ibox.same (heap_set _ _ _ _ _ (by omega)), h.lbox.same (heap_set _ _ _ _ _ (by omega)), h.pbox.same (heap_set _ _ _ _ _ (by omega)), h.sbox.same (heap_set _ _ _ _ _ (by omega)),
    h.mbox.same (heap_set _ _ _ _ _ (by omega)), h.vbox.same (heap_set _ _ _ _ _ (by omega)), ownsm h.idx (by omega), this, ownsm h.opn (by omega), r2, r3, h.apart, r4⟩
theorem VSt.setOpn (h : VSt w0 A c n s vs vo ro w) (hl : s.opn.length = n.length) (v : Nat) (x : Bool) : VSt w0 A c n { s with opn := s.opn.set v x } vs vo ro (w.setCell ⟨w0.heap.size + 6, v, none⟩ (.bool x)) := by
  obtain ⟨r1, r2, r3, r4⟩ := h.rest (w0.heap.size + 6) v (.bool x) (by omega) (by omega)
  have := (Own.store h.opn (by rw [bools_length]; exact hl.symm) v (.bool x)).1
  rw [bools_set] at this
  exact ⟨r1, h.nbox.same (heap_set _ _ _ _ _ (by omega)), h.obox.same (heap_set _ _ _ _ _ (by omega)), h.ibox.same (heap_set _ _ _ _ _ (by omega)), h.lbox.same (heap_set _ _ _ _ _ (by omega)), h.pbox.same (heap_set _ _ _ _ _ (by omega)), h.sbox.same (heap_set _ _ _ _ _ (by omega)),
    h.mbox.same (heap_set _ _ _ _ _ (by omega)), h.vbox.same (heap_set _ _ _ _ _ (by omega)), ownsm h.idx (by omega), ownsm h.low (by omega), this, r2, r3, h.apart, r4⟩

theorem own_ne_type {base base' : Nat} {e e' : TypeId} {v v' : Value} {xs xs' : List Value} (h : Own base w e v xs) (h' : Own base' w e' v' xs') (hne : e ≠ e') : v.ownBlock = none ∨ v.ownBlock ≠ v'.ownBlock := by
  rcases h.2 with ⟨rfl, _⟩ | ⟨g, cap, cur, rfl, _, hg, _⟩
  · exact .inl rfl
  · right
    rcases h'.2 with ⟨rfl, _⟩ | ⟨g', cap', cur', rfl, _, hg', _⟩
    · simp [Value.ownBlock]
    · intro e0
      simp only [Value.ownBlock, Option.some.injEq] at e0
      subst e0
      rw [hg] at hg'
      simp only [Option.some.injEq, Obj.cells.injEq] at hg'
      exact hne hg'.2.1

/-- the stack's slice is another one: it lies in its own block, or in a new one -/
theorem VSt.newStk (h : VSt w0 A c n s vs vo ro w) {w' : World} {v' : Value} {l : List Nat} (ho : Own (w0.heap.size + 11) w' 3 v' (vints l)) (hg : w.grownBy w' vs.ownBlock) (hm : Moves w vs v') :
    VSt w0 A c n { s with stk := l } v' vo ro (w'.setCell ⟨w0.heap.size + 8, 0, none⟩ v') := by
  have hs := h.size
  have hne : ∀ k, k < w0.heap.size + 11 → w'.heap[k]? = w.heap[k]? := fun k hk => hg.block k (by omega) (by
    rcases ownBlock_ne h.stk hk with e | e
    · rw [e]; simp
    · exact Ne.symm e)
  have hold : Below w0.heap.size w0 w' := h.old.grown hg (by omega) fun k hk => by have := (World.ownsRow.lt h.stk k hk).1; omega
  have hown : ∀ {g e m xs}, g < w0.heap.size + 11 → Own w0.heap.size w e (.slice (some ⟨g, 0, none⟩) m m) xs → Own w0.heap.size w' e (.slice (some ⟨g, 0, none⟩) m m) xs := by
    intro g e m xs hgl ho
    refine ho.grown hg (.inr ?_)
    rcases ownBlock_ne h.stk hgl with e | e
    · rw [e]; simp [Value.ownBlock]
    · exact Ne.symm e
  have hb8 : ∀ k, k ≠ w0.heap.size + 8 → k < w0.heap.size + 11 → (w'.setCell ⟨w0.heap.size + 8, 0, none⟩ v').heap[k]? = w.heap[k]? := fun k h1 h2 => (heap_set _ _ _ _ _ h1).trans (hne k h2)
  have hg8 := grownBy_setCell w' (w0.heap.size + 8) 0 v'
  refine ⟨hold.setCell (by simp) _, h.nbox.same (hb8 _ (by omega) (by omega)), h.obox.same (hb8 _ (by omega) (by omega)), h.ibox.same (hb8 _ (by omega) (by omega)), h.lbox.same (hb8 _ (by omega) (by omega)), h.pbox.same (hb8 _ (by omega) (by omega)), (h.sbox.same (hne _ (by omega))).set _,
    h.mbox.same (hb8 _ (by omega) (by omega)), h.vbox.same (hb8 _ (by omega) (by omega)), ownsm (hown (by omega) h.idx) (by omega), ownsm (hown (by omega) h.low) (by omega), ownsm (hown (by omega) h.opn) (by omega), ho.grown hg8 (ownBlock_ne ho (by omega)), ?_, ?_, ?_⟩
  · refine ⟨h.out.len, Own.grown (h.out.top.grown hg ?_) hg8 (ownBlock_ne h.out.top (by omega)), fun i hi => Own.grown ((h.out.rows i hi).grown hg ?_) hg8 (ownBlock_ne (h.out.rows i hi) (by omega))⟩
    · exact own_ne_type h.out.top h.stk (by decide)
    · cases hb : (val ro i).ownBlock with
      | none => exact .inl rfl
      | some b =>
        right
        rcases h.apart i hi with e | e
        · rw [e]; simp
        · rw [← hb]; exact Ne.symm e
  · intro i hi
    cases hb : (val ro i).ownBlock with
    | none =>
      cases v'.ownBlock with
      | none => exact .inl rfl
      | some x => exact .inr (by simp)
    | some b =>
      right
      refine hm b (World.ownsRow.lt (h.out.rows i hi) b hb).2 ?_
      rcases h.apart i hi with e | e
      · rw [e]; simp
      · rw [← hb]; exact e
  · have := hg.size
    simp [World.setCell]; omega
end

/-- what a visit leaves of older memory -/
structure Keep (b : Nat) (vs vo : Value) (w w' : World) : Prop where
  size : w.heap.size ≤ w'.heap.size
  block : ∀ k, b + 11 ≤ k → k < w.heap.size → vs.ownBlock ≠ some k → vo.ownBlock ≠ some k → w'.heap[k]? = w.heap[k]?
theorem Keep.refl (b : Nat) (vs vo : Value) (w : World) : Keep b vs vo w w := ⟨Nat.le_refl _, fun _ _ _ _ _ => rfl⟩
theorem Moves.refl (w : World) (v : Value) : Moves w v v := fun _ _ h => h
theorem Moves.trans {w w1 : World} {v v1 v2 : Value} (h : Moves w v v1) (hs : w.heap.size ≤ w1.heap.size) (k : Moves w1 v1 v2) : Moves w v v2 := fun g hg hne => k g (by omega) (h g hg hne)
theorem Keep.trans {b : Nat} {vs vo vs1 vo1 : Value} {w w1 w2 : World} (h : Keep b vs vo w w1) (ms : Moves w vs vs1) (mo : Moves w vo vo1) (k : Keep b vs1 vo1 w1 w2) : Keep b vs vo w w2 :=
  ⟨Nat.le_trans h.size k.size, fun i h1 h2 h3 h4 => (k.block i h1 (Nat.lt_of_lt_of_le h2 h.size) (ms i h2 h3) (mo i h2 h4)).trans (h.block i h1 h2 h3 h4)⟩
theorem Keep.below {b : Nat} {vs vo : Value} {w w' : World} (h : Below w.heap.size w w') : Keep b vs vo w w' := ⟨h.size, fun k _ hk _ _ => h.block k hk⟩
theorem Keep.set {b : Nat} {vs vo : Value} {w : World} {g o : Nat} {u : Value} (hg : g < b + 11) : Keep b vs vo w (w.setCell ⟨g, o, none⟩ u) :=
  ⟨by simp [World.setCell], fun k h1 _ _ _ => heap_set _ _ _ _ _ (by omega)⟩
theorem Keep.grownS {b : Nat} {vs vo : Value} {w w' : World} (h : w.grownBy w' vs.ownBlock) : Keep b vs vo w w' := ⟨h.size, fun k _ hk h1 _ => h.block k hk (fun e => h1 e.symm)⟩
theorem Keep.grownO {b : Nat} {vs vo : Value} {w w' : World} (h : w.grownBy w' vo.ownBlock) : Keep b vs vo w w' := ⟨h.size, fun k _ hk _ h1 => h.block k hk (fun e => h1 e.symm)⟩
theorem Keep.to {b : Nat} {vs vo : Value} {w w1 w2 : World} (h : Keep b vs vo w w1) (k : Keep b vs vo w1 w2) : Keep b vs vo w w2 :=
  ⟨Nat.le_trans h.size k.size, fun i h1 h2 h3 h4 => (k.block i h1 (Nat.lt_of_lt_of_le h2 h.size) h3 h4).trans (h.block i h1 h2 h3 h4)⟩
theorem Keep.rd {b : Nat} {vs vo : Value} {w w' : World} (h : Keep b vs vo w w') {A : Option Addr} {xs : List Value} (hr : Rd w A xs) (h1 : ∀ a, A = some a → b + 11 ≤ a.block) (h2 : ∀ a, A = some a → vs.ownBlock ≠ some a.block) (h3 : ∀ a, A = some a → vo.ownBlock ≠ some a.block) : Rd w' A xs :=
  ⟨fun i hi => by
    obtain ⟨bb, o, e, hc⟩ := hr.at_ i hi
    refine ⟨bb, o, e, fun j hj => ?_⟩
    have hl := World.block_lt_of_cell? w _ (hc j hj)
    rw [World.cell?_of_block (w := w) (a := ⟨bb, o + j, none⟩) (h.block bb (h1 _ e) hl (h2 _ e) (h3 _ e))]
    exact hc j hj⟩
end Go.Proofs.Ythdbkilncddniaa.Ring
