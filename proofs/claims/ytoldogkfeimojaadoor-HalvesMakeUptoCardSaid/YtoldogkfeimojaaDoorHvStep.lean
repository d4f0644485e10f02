/- One step of the proof of a statement of this seat: plain laws and walks of the store, log, journal and halves packages; no condition. -/
import Derived.Test.YtoldogkfeimojaaDoorHvKeep
import Derived.Deep.AppendLies
import Derived.Deep.RegionHeld3
set_option linter.unusedVariables false
set_option linter.unusedSimpArgs false
/-! append of one element, as a step of a region that draws its order -/
open Go.RowKit
namespace Go.Proofs.Mem
theorem step_push {P : Program} {ops : Array Oper} {o : Oper} {a : Act} {K : Act → World → Prop} {Q : Exit → Act → World → Prop} {E0 : Prop} {w : World} {t e : TypeId} {z : Value} {bytes : Nat} (E : Elem P t e z bytes) (hgd : o.guard = none) (s x : Operand)
    (ho : o.op = .call { callee := .builtin .append, args := #[s, x], argTypes := #[t, t] }) (base : Nat) (v : Value) (xs : List Value) (hs : a.eval s = v) (y : Value) (B c : Nat) (hx : a.eval x = .slice (some ⟨B, 0, none⟩) 1 c) (hy : w.cell? ⟨B, 0, none⟩ = some y)
    (hown : Mem.Own base w e v xs) (h1 : y.oneCell' = true) (hb : (xs.length + 1) * bytes ≤ 140737488355328) (hb1 : 0 < bytes) (hbase : base ≤ w.heap.size)
    (h : ∀ g cap w', Mem.Own base w' e (.slice (some ⟨g, 0, none⟩) (xs.length + 1) cap) (xs ++ [y]) → w.grownBy w' v.ownBlock → Moves w v (.slice (some ⟨g, 0, none⟩) (xs.length + 1) cap) → K (a.put o.dst (.slice (some ⟨g, 0, none⟩) (xs.length + 1) cap)) w') :
    if Region.wanted o (yielded ops a.tmps) = true then Oper.wp P o a w K Q else E0 := by
  obtain ⟨i, h2, h3, h4, h5⟩ := E.info
  have hmax : xs.length + 1 ≤ maxLen := by
    have : (xs.length + 1) * 1 ≤ (xs.length + 1) * bytes := Nat.mul_le_mul_left _ hb1
    unfold maxLen
    omega
  refine step_append_lies w hgd s x t ho base e i z 1 bytes E.und h2 h3 h4 h5 (by rw [E.cell]; rfl) (by decide) v xs.length xs hs hown ⟨B, 0, none⟩ 1 c [y] hx rfl ?_ (by simpa using h1) (by decide) hmax hb hbase w.heap.size rfl fun g cap w' o1 g1 hor hlt => ?_
  · intro j u hj
    rcases j with _ | j
    · cases hj; exact hy
    · simp at hj
  · refine h g cap w' ?_ g1 ?_
    · unfold Mem.Own; rw [List.length_append]; exact o1
    · intro k hk hne e
      simp only [Value.ownBlock, Option.some.injEq] at e
      subst e
      rcases hor with h' | h'
      · exact hne h'
      · omega
end Go.Proofs.Mem
