/- One step of the proof of a statement of this seat: plain laws and walks of the ring package; no condition. -/
import Derived.Test.YthdbkilncddniaaW27
import Derived.Maps.OwnSet
import Derived.Maps.OwnOps
import Derived.Maps.Views
set_option linter.unusedVariables false
set_option linter.unusedSimpArgs false
open Go.RowKit
namespace Go.Proofs.Ythdbkilncddniaa.Ring
open RingM Go.Proofs.Mem Go.Maps

theorem tight {H : Type} {w : World} {P : Program} {k : TypeId} {R : Value → Option (DataW H × List MemPlace)} {b n : Nat} {D : DataW H} (h : w.ownsMap P k R b n D) : w.ownsMap P k R b (size D) D := by
  obtain ⟨es, clock, hb, F, hs, rfl⟩ := h
  exact ⟨es, clock, hb, F, by simp [size, length_sorted], rfl⟩
theorem keyed3 : Keyed Try.prog 3 := int_keyed Try.underlying3

/-- a key put -/
def addI (k : Int) (S : List Int) : List Int := if k ∈ S then S else S ++ [k]
theorem mem_addI {k x : Int} {S : List Int} : x ∈ addI k S ↔ x = k ∨ x ∈ S := by
  unfold addI
  split
  · constructor
    · exact fun h => .inr h
    · rintro (rfl | h)
      · assumption
      · exact h
  · rw [List.mem_append, List.mem_singleton, or_comm]
theorem nodup_addI {k : Int} {S : List Int} (h : S.Nodup) : (addI k S).Nodup := by
  unfold addI
  split
  · exact h
  · rename_i hk
    rw [List.nodup_append]
    refine ⟨h, by simp, fun a ha b hb => ?_⟩
    rw [List.mem_singleton.1 hb]
    exact fun e => hk (e ▸ ha)

/-- a map of the call's own from ints to bools, true at the keys S alone -/
structure MapB (w : World) (b : Nat) (S : List Int) : Prop where
  nodup : S.Nodup
  own : ∃ (D : DataW Nat), w.ownsMap Try.prog 3 (plainElem Try.prog 4) b S.length D ∧ Tidy D ∧ size D = S.length ∧ (∀ k : Int, has D (.int .i64 k) = decide (k ∈ S)) ∧ ∀ k : Int, D.atKey (.int .i64 k) (.lit (.bool false)) = .lit (.bool (decide (k ∈ S)))
theorem mapB_made (w : World) : MapB (w.alloc (.map #[] 0)) w.heap.size [] :=
  ⟨List.nodup_nil, .map [], World.ownsMap_made w _ _ _, tidy_empty, rfl, fun k => by simp [has_eq], fun k => by simp [DataW.atKey]⟩
theorem MapB.kept {w w' : World} {b : Nat} {S : List Int} {row : Option Nat} (h : MapB w b S) (hg : w.grownBy w' row) (hne : some b ≠ row) : MapB w' b S := by
  obtain ⟨D, h1, h2⟩ := h.own
  exact ⟨h.nodup, D, h1.kept hg hne, h2⟩
theorem MapB.lt {w : World} {b : Nat} {S : List Int} (h : MapB w b S) : b < w.heap.size := by
  obtain ⟨D, h1, h2⟩ := h.own
  exact h1.lt
theorem MapB.below {w w' : World} {b : Nat} {S : List Int} (h : MapB w b S) (hb : Below w.heap.size w w') : MapB w' b S := h.kept (grownBy_of_below hb none) (by simp)
theorem lit_wf {k : Int} (h : -9223372036854775808 ≤ k ∧ k ≤ 9223372036854775807) : (Lit.int .i64 k).wf = true := by
  have e1 : IntKind.i64.min = -9223372036854775808 := rfl
  have e2 : IntKind.i64.max = 9223372036854775807 := rfl
  simpa [Lit.wf, e1, e2] using h
theorem plain_bool_inv {v : Value} {x : Bool} {ps : List MemPlace} (h : plainElem (H := Nat) Try.prog 4 v = some (.lit (.bool x), ps)) : v = .bool x := by
  unfold plainElem at h
  rw [Try.underlying4] at h
  cases v <;> simp at h
  rw [h.1]
theorem MapB.look {w : World} {b : Nat} {S : List Int} (h : MapB w b S) (k : Int) (hk : -9223372036854775808 ≤ k ∧ k ≤ 9223372036854775807) :
    (Instr.lookup 29 (.map (some b)) (.int .i64 k) false).run Try.prog w = .ok (.bool (decide (k ∈ S))) w := by
  obtain ⟨D, h1, _, _, _, h5⟩ := h.own
  obtain ⟨v, ps, hrun, hv⟩ := h1.lookup keyed3 Try.underlying29 (Try.zeroValue4 w) (plainElem_bool Try.underlying4 false) (keyOf_int_mk Try.underlying3 (lit_wf hk))
  rw [h5 k] at hv
  rw [hrun, plain_bool_inv hv]
theorem MapB.len {w : World} {b : Nat} {S : List Int} (h : MapB w b S) (ty : TypeId) : (Builtin.len_ #[29] ty #[.map (some b)]).run Try.prog w = .ok (.int .i64 (S.length : Int)) w := by
  obtain ⟨D, h1, _, h3, _⟩ := h.own
  rw [h1.len Try.underlying29 ty, h3]
theorem MapB.put {w : World} {b : Nat} {S : List Int} (h : MapB w b S) (k : Int) (hk : -9223372036854775808 ≤ k ∧ k ≤ 9223372036854775807) (hl : S.length ≤ 1000000) :
    ∃ w', (Instr.mapUpdate 29 (.map (some b)) (.int .i64 k) (.bool true)).run Try.prog w = .ok () w' ∧ MapB w' b (addI k S) ∧ w.grownBy w' (some b) := by
  obtain ⟨D, h1, h2, h3, h4, h5⟩ := h.own
  obtain ⟨w', hrun, ho, hg⟩ := h1.update keyed3 Try.underlying29 (by unfold maxLen; omega) (keyOf_int_mk Try.underlying3 (lit_wf hk)) (plainElem_bool Try.underlying4 true)
  have hkl : WideAt.IsKeyLit (.int .i64 k) := trivial
  have hsz : size (D.put (.int .i64 k) (.lit (.bool true))) = (addI k S).length := by
    rw [size_put h2, h4, h3]
    unfold addI
    by_cases hm : k ∈ S <;> simp [hm]
  refine ⟨w', hrun, ⟨nodup_addI h.nodup, D.put (.int .i64 k) (.lit (.bool true)), by rw [← hsz]; exact tight ho, h2.put hkl _, hsz, fun x => ?_, fun x => ?_⟩, hg⟩
  · by_cases e : x = k
    · subst e
      rw [has_put_same h2.isMap hkl]
      simp [mem_addI]
    · rw [has_put_other (by simpa using e), h4 x]
      simp [mem_addI, e]
  · by_cases e : x = k
    · subst e
      rw [atKey_put_same h2.isMap hkl]
      simp [mem_addI]
    · rw [atKey_put_other (by simpa using e), h5 x]
      simp [mem_addI, e]

section
variable {ops : Array Oper} {rest : List Oper} {o : Oper} {a : Act} {Q : Exit → Act → World → Prop} {w : World}
theorem wp_putB (hg : o.guard = none) (m x v : Operand) (hop : o.op = Op.mapUpdate 29 m x v) (b : Nat) (S : List Int) (hm : a.eval m = .map (some b)) (k : Int) (hx : a.eval x = .int .i64 k) (hv : a.eval v = .bool true)
    (h : MapB w b S) (hk : -9223372036854775808 ≤ k ∧ k ≤ 9223372036854775807) (hl : S.length ≤ 1000000) (hK : ∀ w', MapB w' b (addI k S) → w.grownBy w' (some b) → wpList Try.prog ops Q rest (a.put o.dst undef) w') :
    wpList Try.prog ops Q (o :: rest) a w := by
  obtain ⟨w', hrun, r1, r2⟩ := h.put k hk hl
  refine wpList_plain hg fun K' hK' => ?_
  unfold Oper.wp
  simp [execOp, hop, hm, hx, hv, hrun, Result.andThen]
  exact hK' _ _ (hK w' r1 r2)
theorem wp_lookB (hg : o.guard = none) (m x : Operand) (hop : o.op = Op.lookup 29 m x false) (b : Nat) (S : List Int) (hm : a.eval m = .map (some b)) (k : Int) (hx : a.eval x = .int .i64 k)
    (h : MapB w b S) (hk : -9223372036854775808 ≤ k ∧ k ≤ 9223372036854775807) (hK : wpList Try.prog ops Q rest (a.put o.dst (.bool (decide (k ∈ S)))) w) :
    wpList Try.prog ops Q (o :: rest) a w := by
  refine wpList_plain hg fun K' hK' => ?_
  unfold Oper.wp
  simp [execOp, hop, hm, hx, h.look k hk, Result.andThen]
  exact hK' _ _ hK
theorem wp_lenB (hg : o.guard = none) (m : Operand) (hop : o.op = Op.call { callee := Callee.builtin Builtin.len, args := #[m], argTypes := #[29] }) (b : Nat) (S : List Int) (hm : a.eval m = .map (some b)) (h : MapB w b S)
    (hK : wpList Try.prog ops Q rest (a.put o.dst (.int .i64 (S.length : Int))) w) : wpList Try.prog ops Q (o :: rest) a w := by
  refine wpList_plain hg fun K' hK' => ?_
  unfold Oper.wp
  simp [execOp, hop, resolve, invoke, builtin, hm, h.len o.type, Result.andThen]
  exact hK' _ _ hK
end
end Go.Proofs.Ythdbkilncddniaa.Ring
