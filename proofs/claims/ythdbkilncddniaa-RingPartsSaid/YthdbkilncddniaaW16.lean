/- One step of the proof of a statement of this seat: plain laws and walks of the ring package; no condition. -/
import Derived.Test.YthdbkilncddniaaW15
import Derived.StillTailTactics
set_option linter.unusedVariables false
set_option linter.unusedSimpArgs false
open Go.RowKit
namespace Go.Proofs.Ythdbkilncddniaa.Ring
open RingM Go.Proofs.Mem

def VisitPost (w0 : World) (A : Option Addr) (c : Nat) (n : Net) (s' : St) (vs vo : Value) (w : World) (e : Ending) (w' : World) : Prop :=
  e = .returned (.tuple #[]) ∧ ∃ vs' vo' ro', VSt w0 A c n s' vs' vo' ro' w' ∧ Keep w0.heap.size vs vo w w' ∧ Moves w vs vs' ∧ Moves w vo vo'

/-- where a point is entered -/
def entered (s : St) (v : Nat) : St := { s with met := s.met + 1, idx := s.idx.set v (s.met + 1), low := s.low.set v (s.met + 1), opn := s.opn.set v true }

section
variable {w0 : World} {A : Option Addr} {c : Nat} {n : Net} {s : St} {vs vo : Value} {ro : List Value} {w : World}
theorem vst_enter (h : VSt w0 A c n s vs vo ro w) (h1 : s.idx.length = n.length) (h2 : s.low.length = n.length) (h3 : s.opn.length = n.length) (v : Nat) :
    VSt w0 A c n (entered s v) vs vo ro ((((w.setCell ⟨w0.heap.size + 9, 0, none⟩ (.int .i64 ((s.met : Int) + 1))).setCell ⟨w0.heap.size + 2, v, none⟩ (.int .i64 ((s.met : Int) + 1))).setCell ⟨w0.heap.size + 4, v, none⟩ (.int .i64 ((s.met : Int) + 1))).setCell ⟨w0.heap.size + 6, v, none⟩ (.bool true)).drew := by
  have e : ((s.met + 1 : Nat) : Int) = (s.met : Int) + 1 := by omega
  have := ((((h.setMet (s.met + 1)).setIdx h1 v (s.met + 1)).setLow h2 v (s.met + 1)).setOpn h3 v true).drew
  rw [e] at this
  exact this
theorem keep_enter (v : Nat) (x y z : Value) (u : Value) :
    Keep w0.heap.size vs vo w ((((w.setCell ⟨w0.heap.size + 9, 0, none⟩ x).setCell ⟨w0.heap.size + 2, v, none⟩ y).setCell ⟨w0.heap.size + 4, v, none⟩ z).setCell ⟨w0.heap.size + 6, v, none⟩ u).drew :=
  ⟨by simp [World.setCell], fun k h1 _ _ _ => (heap_set _ (w0.heap.size + 6) v k u (by omega)).trans ((heap_set _ (w0.heap.size + 4) v k z (by omega)).trans ((heap_set _ (w0.heap.size + 2) v k y (by omega)).trans (heap_set _ (w0.heap.size + 9) 0 k x (by omega))))⟩
theorem vst_low (h : VSt w0 A c n s vs vo ro w) (hl : s.low.length = n.length) (v m : Nat) (z : Int) (hz : z = (m : Int)) :
    VSt w0 A c n { s with low := s.low.set v m } vs vo ro (w.setCell ⟨w0.heap.size + 4, v, none⟩ (.int .i64 z)).drew := by
  subst hz
  exact (h.setLow hl v m).drew
theorem keep_low (g o : Nat) (u : Value) (b : Nat) (hg : g < b + 11) : Keep b vs vo w (w.setCell ⟨g, o, none⟩ u).drew :=
  ⟨by simp [World.setCell], fun k h1 _ _ _ => heap_set _ g o k u (by omega)⟩
theorem VSt.lowS (h : VSt w0 A c n s vs vo ro w) {w' : World} (hg : w.grownBy w' vs.ownBlock) : ∀ k, k < w0.heap.size + 11 → w'.heap[k]? = w.heap[k]? := by
  intro k hk
  have hs := h.size
  refine hg.block k (by omega) ?_
  rcases ownBlock_ne h.stk hk with e | e
  · rw [e]; simp
  · exact Ne.symm e
end

theorem ownBlock_slice (A : Option Addr) (n c : Nat) : (Value.slice A n c).ownBlock = A.map Addr.block := by cases A <;> rfl
/-- in the loop over a point's ways -/
def VisRel (w0 : World) (A : Option Addr) (c : Nat) (n : Net) (f v : Nat) (s0 s1 : St) (k : Nat) (vs0 vo0 : Value) (w : World) (A2 : Option Addr) (g : Nat) (v37 : Value) (wr : World) : Prop :=
  ∃ (i : Nat) (s : St) (vs vo : Value) (ro : List Value), i + g = (waysN n v).length + 1 ∧ i ≤ (waysN n v).length ∧ v37 = .int .i64 i ∧ each (visit n f) v ((waysN n v).drop i) s = some s1 ∧ Wf n (k + 1) s ∧ (∃ zs, s.stk = s0.stk ++ v :: zs) ∧
    VSt w0 A c n s vs vo ro wr ∧ Rd wr A2 (vints (waysN n v)) ∧ (∀ a, A2 = some a → w0.heap.size + 11 ≤ a.block ∧ vs.ownBlock ≠ some a.block ∧ vo.ownBlock ≠ some a.block ∧ a.block < wr.heap.size) ∧
    Keep w0.heap.size vs0 vo0 w wr ∧ Moves w vs0 vs ∧ Moves w vo0 vo
theorem hwf_stk {n : Net} {k : Nat} {s : St} (h : Wf n k s) : s.stk.length ≤ n.length ∧ s.out.length ≤ n.length := by
  have := h.met_le
  have := h.stkLe
  have := h.outLe
  omega


/-- the code of the search, in pieces -/
def dropS : Nat → Code → Code
  | 0, c => c
  | k + 1, .seq _ b => dropS k b
  | _ + 1, c => c
def firstLoop : Code → Option Code
  | .loop c => some c
  | .seq a b => match firstLoop a with
    | some c => some c
    | none => firstLoop b
  | .block _ c => firstLoop c
  | .scope c => firstLoop c
  | .cond _ a b => match firstLoop a with
    | some c => some c
    | none => firstLoop b
  | _ => none
noncomputable def body17 : Code := ((Try.f17.body.bind firstLoop).getD .skip)
noncomputable def tail17 : Code := dropS 5 (Try.f17.body.getD .skip)
end Go.Proofs.Ythdbkilncddniaa.Ring
