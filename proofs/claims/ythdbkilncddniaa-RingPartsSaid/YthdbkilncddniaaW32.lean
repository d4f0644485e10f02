/- One step of the proof of a statement of this seat: plain laws and walks of the ring package; no condition. -/
import Derived.Test.YthdbkilncddniaaW30
set_option linter.unusedVariables false
set_option linter.unusedSimpArgs false
open Go.RowKit
namespace Go.Proofs.Ythdbkilncddniaa.Ring
open RingM Go.Proofs.Mem Go.Maps

/-- a map of the call's own from a list's first j elements to their places -/
structure MapP (w : World) (b : Nat) (l : List Nat) (j : Nat) : Prop where
  own : ∃ (D : DataW Nat), w.ownsMap Try.prog 3 (plainElem Try.prog 3) b j D ∧ Tidy D ∧ size D = j ∧ (∀ k : Int, has D (.int .i64 k) = decide (k ∈ RingM.cast (l.take j))) ∧ ∀ m : Nat, m ∈ l.take j → D.atKey (.int .i64 (m : Int)) (.lit (.int .i64 0)) = .lit (.int .i64 (l.idxOf m : Nat))
theorem mapP_made (w : World) (l : List Nat) : MapP (w.alloc (.map #[] 0)) w.heap.size l 0 :=
  ⟨.map [], World.ownsMap_made w _ _ _, tidy_empty, rfl, fun k => by simp [has_eq, RingM.cast], fun k hk => by simp at hk⟩
theorem MapP.kept {w w' : World} {b : Nat} {l : List Nat} {j : Nat} {row : Option Nat} (h : MapP w b l j) (hg : w.grownBy w' row) (hne : some b ≠ row) : MapP w' b l j := by
  obtain ⟨D, h1, h2⟩ := h.own
  exact ⟨D, h1.kept hg hne, h2⟩
theorem MapP.below {w w' : World} {b : Nat} {l : List Nat} {j : Nat} (h : MapP w b l j) (hb : Below w.heap.size w w') : MapP w' b l j := h.kept (grownBy_of_below hb none) (by simp)
theorem MapP.ne {w : World} {b : Nat} {l : List Nat} {j : Nat} (h : MapP w b l j) {g k : Nat} {v : Value} (hc : w.cell? ⟨g, k, none⟩ = some v) : g ≠ b := by
  rintro rfl
  obtain ⟨D, ⟨es, clock, hb, _⟩, _⟩ := h.own
  unfold World.cell? at hc
  simp [hb] at hc
theorem plain_int_inv {v : Value} {x : Int} {ps : List MemPlace} (h : plainElem (H := Nat) Try.prog 3 v = some (.lit (.int .i64 x), ps)) : v = .int .i64 x := by
  obtain ⟨a, rfl, hz, _⟩ := plainElem_int_inv Try.underlying3 h
  simp only [Prod.mk.injEq, DataW.lit.injEq, Lit.int.injEq, true_and] at hz
  rw [hz.1]
theorem MapP.look {w : World} {b : Nat} {l : List Nat} {j : Nat} (h : MapP w b l j) (m : Nat) (hm : m ∈ l.take j) (hk : m ≤ 1000000) :
    (Instr.lookup 35 (.map (some b)) (.int .i64 (m : Int)) false).run Try.prog w = .ok (.int .i64 (l.idxOf m : Nat)) w := by
  obtain ⟨D, h1, _, _, _, h5⟩ := h.own
  obtain ⟨v, ps, hrun, hv⟩ := h1.lookup keyed3 Try.underlying35 (Try.zeroValue3 w) (plainElem_int Try.underlying3 (by decide)) (keyOf_int_mk Try.underlying3 (lit_wf (k := (m : Int)) (by omega)))
  rw [h5 m hm] at hv
  rw [hrun, plain_int_inv hv]
theorem MapP.len {w : World} {b : Nat} {l : List Nat} {j : Nat} (h : MapP w b l j) (ty : TypeId) : (Builtin.len_ #[35] ty #[.map (some b)]).run Try.prog w = .ok (.int .i64 (j : Int)) w := by
  obtain ⟨D, h1, _, h3, _⟩ := h.own
  rw [h1.len Try.underlying35 ty, h3]
theorem MapP.put {w : World} {b : Nat} {l : List Nat} {j : Nat} (h : MapP w b l j) (hnd : l.Nodup) (hj : j < l.length) (hk : l[j] ≤ 1000000) (hl : l.length ≤ 1000000) :
    ∃ w', (Instr.mapUpdate 35 (.map (some b)) (.int .i64 (l[j] : Nat)) (.int .i64 (j : Int))).run Try.prog w = .ok () w' ∧ MapP w' b l (j + 1) ∧ w.grownBy w' (some b) := by
  obtain ⟨D, h1, h2, h3, h4, h5⟩ := h.own
  obtain ⟨w', hrun, ho, hg⟩ := h1.update (val := .int .i64 (j : Int)) keyed3 Try.underlying35 (by unfold maxLen; omega) (keyOf_int_mk Try.underlying3 (lit_wf (k := (l[j] : Int)) (by omega))) (plainElem_int Try.underlying3 (lit_wf (k := (j : Int)) (by omega)))
  have hkl : WideAt.IsKeyLit (.int .i64 (l[j] : Int)) := trivial
  have hnot : (l[j] : Int) ∉ RingM.cast (l.take j) := by
    rw [mem_cast]
    rintro ⟨m, hm, e⟩
    have e' : m = l[j] := by omega
    subst e'
    obtain ⟨i, hi, hij⟩ := List.mem_take_iff_getElem.1 hm
    exact (List.pairwise_iff_getElem.1 hnd) i j (by omega) hj (by omega) hij
  have hsz : size (D.put (.int .i64 (l[j] : Int)) (.lit (.int .i64 (j : Int)))) = j + 1 := by
    rw [size_put h2, h4, h3, decide_eq_false hnot]
    rfl
  have htk : ∀ x : Int, x ∈ RingM.cast (l.take (j + 1)) ↔ x = (l[j] : Int) ∨ x ∈ RingM.cast (l.take j) := fun x => by
    rw [List.take_succ_eq_append_getElem hj, show RingM.cast (l.take j ++ [l[j]]) = RingM.cast (l.take j) ++ [(l[j] : Int)] from by unfold RingM.cast; rw [List.map_append]; rfl, List.mem_append, List.mem_singleton, or_comm]
  refine ⟨w', hrun, ⟨D.put (.int .i64 (l[j] : Int)) (.lit (.int .i64 (j : Int))), by rw [← hsz]; exact tight ho, h2.put hkl _, hsz, fun x => ?_, fun m hm => ?_⟩, hg⟩
  · by_cases e : x = (l[j] : Int)
    · rw [e, has_put_same h2.isMap hkl, decide_eq_true ((htk _).2 (.inl rfl))]
    · rw [has_put_other (by simpa using e), h4 x]
      rw [decide_eq_decide, htk x]
      exact ⟨.inr, fun h => h.resolve_left e⟩
  · by_cases e : m = l[j]
    · subst e
      rw [atKey_put_same h2.isMap hkl, List.Nodup.idxOf_getElem hnd]
    · have hm2 : m ∈ l.take j := by
        rw [List.take_succ_eq_append_getElem hj, List.mem_append, List.mem_singleton] at hm
        exact hm.resolve_right e
      rw [atKey_put_other (by simp only [ne_eq, Lit.int.injEq, true_and]; omega), h5 m hm2]

section
variable {ops : Array Oper} {rest : List Oper} {o : Oper} {a : Act} {Q : Exit → Act → World → Prop} {w : World}
theorem wp_putP (hg : o.guard = none) (m x v : Operand) (hop : o.op = Op.mapUpdate 35 m x v) (b : Nat) (l : List Nat) (j : Nat) (hj : j < l.length) (hm : a.eval m = .map (some b)) (k : Nat) (hkl : k = l[j]) (hx : a.eval x = .int .i64 (k : Int)) (hv : a.eval v = .int .i64 (j : Int))
    (h : MapP w b l j) (hnd : l.Nodup) (hk : k ≤ 1000000) (hl : l.length ≤ 1000000) (hK : ∀ w', MapP w' b l (j + 1) → w.grownBy w' (some b) → wpList Try.prog ops Q rest (a.put o.dst undef) w') :
    wpList Try.prog ops Q (o :: rest) a w := by
  subst hkl
  obtain ⟨w', hrun, r1, r2⟩ := h.put hnd hj hk hl
  refine wpList_plain hg fun K' hK' => ?_
  unfold Oper.wp
  simp [execOp, hop, hm, hx, hv, hrun, Result.andThen]
  exact hK' _ _ (hK w' r1 r2)
theorem wp_lenP (hg : o.guard = none) (m : Operand) (hop : o.op = Op.call { callee := Callee.builtin Builtin.len, args := #[m], argTypes := #[35] }) (b : Nat) (l : List Nat) (j : Nat) (hm : a.eval m = .map (some b)) (h : MapP w b l j)
    (hK : wpList Try.prog ops Q rest (a.put o.dst (.int .i64 (j : Int))) w) : wpList Try.prog ops Q (o :: rest) a w := by
  refine wpList_plain hg fun K' hK' => ?_
  unfold Oper.wp
  simp [execOp, hop, resolve, invoke, builtin, hm, h.len o.type, Result.andThen]
  exact hK' _ _ hK
end

/-! what the law says of rings in a net without loops -/
theorem acyclic_eq {n : Net} (hc : ∀ w, ¬ TP n w w) {a b : Nat} (h1 : RP n a b) (h2 : RP n b a) : a = b := by
  rcases h1.eq_or with e | t
  · exact e
  · exact absurd (t.trans_rp h2) (hc a)
theorem acyclic_rings {n : Net} (hc : ∀ w, ¬ TP n w w) : (rings n).length = n.length := by
  have ht := rings_told n
  have h1 : (rings n).map (fun r => r.headD 0) = List.range n.length := by
    refine asc_ext ?_ List.pairwise_lt_range fun v => ?_
    · rw [List.pairwise_map]
      exact ht.heads
    · rw [List.mem_range, List.mem_map]
      constructor
      · rintro ⟨r, hr, rfl⟩
        exact ht.lt r hr _ (headD_mem (ht.ne r hr))
      · intro hv
        obtain ⟨r, hr, hvr⟩ := ht.all v hv
        refine ⟨r, hr, ?_⟩
        obtain ⟨a, b⟩ := (ht.scc r hr v hvr (r.headD 0)).1 (headD_mem (ht.ne r hr))
        exact (acyclic_eq hc a b).symm
  have := congrArg List.length h1
  simpa using this
theorem any_loops {n : Net} : ((List.range n.length).any fun u => loops n (u : Int)) = true ↔ ∃ w, TP n w w := by
  rw [List.any_eq_true]
  constructor
  · rintro ⟨u, _, h⟩
    exact ⟨u, loops_iff.1 h⟩
  · rintro ⟨u, h⟩
    exact ⟨u, List.mem_range.2 h.lt, loops_iff.2 h⟩
end Go.Proofs.Ythdbkilncddniaa.Ring
