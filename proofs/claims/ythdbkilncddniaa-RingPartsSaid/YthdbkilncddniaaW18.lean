/- One step of the proof of a statement of this seat: plain laws and walks of the ring package; no condition. -/
import Derived.Test.YthdbkilncddniaaW16
set_option linter.unusedVariables false
set_option linter.unusedSimpArgs false
open Go.RowKit
namespace Go.Proofs.Ythdbkilncddniaa.Ring
open RingM Go.Proofs.Mem

section
variable {w0 : World} {A : Option Addr} {c : Nat} {n : Net} {s : St} {vs vo : Value} {ro : List Value} {w : World}

/-- another block of the call's own is written -/
theorem VSt.other (h : VSt w0 A c n s vs vo ro w) {w' : World} {row : Option Nat} (hg : w.grownBy w' row) (h1 : ∀ k, row = some k → w0.heap.size + 11 ≤ k ∧ vs.ownBlock ≠ some k ∧ vo.ownBlock ≠ some k ∧ ∀ i, i < ro.length → (val ro i).ownBlock ≠ some k) :
    VSt w0 A c n s vs vo ro w' := by
  have hs := h.size
  have hk : ∀ k, k < w0.heap.size + 11 → w'.heap[k]? = w.heap[k]? := fun k hk => hg.block k (by omega) (fun e => by have := (h1 k e.symm).1; omega)
  have hown : ∀ {g e m xs}, g < w0.heap.size + 11 → Own w0.heap.size w e (.slice (some ⟨g, 0, none⟩) m m) xs → Own w0.heap.size w' e (.slice (some ⟨g, 0, none⟩) m m) xs := by
    intro g e m xs hgl ho
    refine ho.grown hg (.inr fun hh => ?_)
    have := (h1 g (by rw [← hh]; rfl)).1
    omega
  have hne : ∀ (v : Value), (∀ k, row = some k → v.ownBlock ≠ some k) → v.ownBlock = none ∨ v.ownBlock ≠ row := by
    intro v hv
    cases hb : v.ownBlock with
    | none => exact .inl rfl
    | some b => exact .inr fun e => hv b e.symm hb
  exact ⟨h.old.grown hg (by omega) (fun k e => by have := (h1 k e).1; omega), h.nbox.same (hk _ (by omega)), h.obox.same (hk _ (by omega)), h.ibox.same (hk _ (by omega)), h.lbox.same (hk _ (by omega)), h.pbox.same (hk _ (by omega)), h.sbox.same (hk _ (by omega)), h.mbox.same (hk _ (by omega)), h.vbox.same (hk _ (by omega)),
    hown (by omega) h.idx, hown (by omega) h.low, hown (by omega) h.opn, h.stk.grown hg (hne _ fun k e => (h1 k e).2.1), ⟨h.out.len, h.out.top.grown hg (hne _ fun k e => (h1 k e).2.2.1), fun i hi => (h.out.rows i hi).grown hg (hne _ fun k e => (h1 k e).2.2.2 i hi)⟩, h.apart, Nat.le_trans hs hg.size⟩

theorem val_append {ro : List Value} {r : Value} {i : Nat} : val (ro ++ [r]) i = if i < ro.length then val ro i else if i = ro.length then r else .slice none 0 0 := by
  unfold val
  simp only [List.getD_eq_getElem?_getD]
  by_cases h : i < ro.length
  · rw [if_pos h, List.getElem?_append_left h]
  · rw [if_neg h, List.getElem?_append_right (by omega)]
    by_cases e : i = ro.length
    · rw [if_pos e, e]; simp
    · rw [if_neg e, List.getElem?_eq_none (by simp; omega)]; rfl

/-- a ring more -/
theorem VSt.newOut (h : VSt w0 A c n s vs vo ro w) {w' : World} {v' r : Value} {l : List Nat} (ho : Own (w0.heap.size + 11) w' 26 v' (ro ++ [r])) (hg : w.grownBy w' vo.ownBlock) (hm : Moves w vo v')
    (hr : Own (w0.heap.size + 11) w 3 r (vints l)) (hap : vs.ownBlock = none ∨ vs.ownBlock ≠ r.ownBlock) :
    VSt w0 A c n { s with out := s.out ++ [l] } vs v' (ro ++ [r]) (w'.setCell ⟨w0.heap.size + 1, 0, none⟩ v') := by
  have hs := h.size
  have hne : ∀ k, k < w0.heap.size + 11 → w'.heap[k]? = w.heap[k]? := fun k hk => hg.block k (by omega) (by
    rcases ownBlock_ne h.out.top hk with e | e
    · rw [e]; simp
    · exact Ne.symm e)
  have hold : Below w0.heap.size w0 w' := h.old.grown hg (by omega) fun k hk => by have := (World.ownsRow.lt h.out.top k hk).1; omega
  have hown : ∀ {g e m xs}, g < w0.heap.size + 11 → Own w0.heap.size w e (.slice (some ⟨g, 0, none⟩) m m) xs → Own w0.heap.size w' e (.slice (some ⟨g, 0, none⟩) m m) xs := by
    intro g e m xs hgl ho
    refine ho.grown hg (.inr ?_)
    rcases ownBlock_ne h.out.top hgl with e | e
    · rw [e]; simp [Value.ownBlock]
    · exact Ne.symm e
  have hb1 : ∀ k, k ≠ w0.heap.size + 1 → k < w0.heap.size + 11 → (w'.setCell ⟨w0.heap.size + 1, 0, none⟩ v').heap[k]? = w.heap[k]? := fun k h1 h2 => (heap_set _ _ _ _ _ h1).trans (hne k h2)
  have hg1 := grownBy_setCell w' (w0.heap.size + 1) 0 v'
  have hty : ∀ {v : Value} {xs : List Value}, Own (w0.heap.size + 11) w 3 v xs → Own (w0.heap.size + 11) (w'.setCell ⟨w0.heap.size + 1, 0, none⟩ v') 3 v xs := fun hv =>
    (hv.grown hg (own_ne_type hv h.out.top (by decide))).grown hg1 (ownBlock_ne hv (by omega))
  refine ⟨hold.setCell (by simp) _, h.nbox.same (hb1 _ (by omega) (by omega)), (h.obox.same (hne _ (by omega))).set _, h.ibox.same (hb1 _ (by omega) (by omega)), h.lbox.same (hb1 _ (by omega) (by omega)), h.pbox.same (hb1 _ (by omega) (by omega)), h.sbox.same (hb1 _ (by omega) (by omega)),
    h.mbox.same (hb1 _ (by omega) (by omega)), h.vbox.same (hb1 _ (by omega) (by omega)), ownsm (hown (by omega) h.idx) (by omega), ownsm (hown (by omega) h.low) (by omega), ownsm (hown (by omega) h.opn) (by omega), hty h.stk, ⟨by simp [h.out.len], ho.grown hg1 (ownBlock_ne ho (by omega)), fun i hi => ?_⟩, fun i hi => ?_, ?_⟩
  · rw [List.length_append, List.length_singleton] at hi
    rw [val_append]
    have hd : (s.out ++ [l]).getD i [] = if i < s.out.length then s.out.getD i [] else if i = s.out.length then l else [] := by
      simp only [List.getD_eq_getElem?_getD]
      by_cases hh : i < s.out.length
      · rw [if_pos hh, List.getElem?_append_left hh]
      · rw [if_neg hh, List.getElem?_append_right (by omega)]
        by_cases e : i = s.out.length
        · rw [if_pos e, e]; simp
        · rw [if_neg e, List.getElem?_eq_none (by simp; omega)]; rfl
    show Own _ _ 3 _ (vints ((s.out ++ [l]).getD i []))
    rw [hd, ← h.out.len]
    by_cases hh : i < ro.length
    · rw [if_pos hh, if_pos hh]; exact hty (h.out.rows i hh)
    · have e : i = ro.length := by omega
      rw [if_neg hh, if_neg hh, if_pos e, if_pos e]; exact hty hr
  · rw [List.length_append, List.length_singleton] at hi
    rw [val_append]
    by_cases hh : i < ro.length
    · rw [if_pos hh]; exact h.apart i hh
    · have e : i = ro.length := by omega
      rw [if_neg hh, if_pos e]; exact hap
  · have := hg.size
    simp [World.setCell]; omega
end
end Go.Proofs.Ythdbkilncddniaa.Ring
