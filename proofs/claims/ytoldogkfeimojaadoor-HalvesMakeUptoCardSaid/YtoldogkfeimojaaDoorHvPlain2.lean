/- Plain laws of writing blocks one by one: no condition. -/
import Derived.Test.YtoldogkfeimojaaDoorHvPlain1
set_option linter.unusedVariables false
set_option linter.unusedSimpArgs false
namespace Go.Proofs.Hv

def stepW (b : Nat) (x was : Bytes) (must : Bool) (i : Nat) (s : Sto) : Int × Sto :=
  if must = false ∧ blkOf x i = blkOf was i then (0, s) else write s (b + i : Nat) (blkOf x i)
def putW (b : Nat) (x was : Bytes) (must : Bool) : List Nat → Sto → Int × Sto
  | [], s => (0, s)
  | i :: l, s => if (stepW b x was must i s).1 = 0 then putW b x was must l (stepW b x was must i s).2 else stepW b x was must i s
variable {b : Nat} {x was : Bytes} {must : Bool}
theorem putW_append (l m : List Nat) (s : Sto) : putW b x was must (l ++ m) s = if (putW b x was must l s).1 = 0 then putW b x was must m (putW b x was must l s).2 else putW b x was must l s := by
  induction l generalizing s with
  | nil => simp [putW]
  | cons i l ih =>
    simp only [List.cons_append, putW]
    by_cases h : (stepW b x was must i s).1 = 0
    · simp only [h, if_true]; exact ih _
    · simp only [h, if_false]
theorem putW_snoc (l : List Nat) (i : Nat) (s : Sto) (h : (putW b x was must l s).1 = 0) : putW b x was must (l ++ [i]) s = stepW b x was must i (putW b x was must l s).2 := by
  rw [putW_append, if_pos h]
  simp only [putW]
  split
  · rename_i h1
    exact Prod.ext h1.symm rfl
  · rfl
theorem write_blocks (s : Sto) (i : Int) (d : Bytes) : (write s i d).2.blocks = s.blocks ∨ ∃ c, (write s i d).2.blocks = s.blocks.set i.toNat c := by
  unfold write
  repeat' split
  · exact .inl rfl
  · exact .inl rfl
  · exact .inl rfl
  · exact .inr ⟨_, rfl⟩
  · exact .inr ⟨_, rfl⟩
theorem write_len_same (s : Sto) (i : Int) (d : Bytes) : (write s i d).2.blocks.length = s.blocks.length := by
  rcases write_blocks s i d with h | ⟨c, h⟩
  · rw [h]
  · rw [h, List.length_set]
theorem write_blk (s : Sto) (i j : Nat) (d : Bytes) (h : i ≠ j) : (write s (i : Nat) d).2.blk j = s.blk j := by
  unfold Sto.blk
  rcases write_blocks s i d with e | ⟨c, e⟩
  · rw [e]
  · rw [e]
    simp only [Int.toNat_natCast, List.getD_eq_getElem?_getD, List.getElem?_set_ne h]
theorem putF_eq (hi : Nat) : ∀ (f a : Nat) (s : Sto), (hi + 31) / 32 - a ≤ f → (∀ i, a ≤ i → 32 * i < hi → blkOf was i = s.blk (b + i)) →
    putF b x hi must f a s = putW b x was must (List.range' a ((hi + 31) / 32 - a)) s := by
  intro f
  induction f with
  | zero =>
    intro a s hf _
    rw [show (hi + 31) / 32 - a = 0 by omega]
    rfl
  | succ f ih =>
    intro a s hf hw
    unfold putF
    by_cases hlt : 32 * a < hi
    · rw [if_pos hlt]
      have e : (hi + 31) / 32 - a = ((hi + 31) / 32 - (a + 1)) + 1 := by omega
      rw [e, List.range'_succ]
      have hwa := hw a (Nat.le_refl _) hlt
      by_cases hc : must = false ∧ blkOf x a = s.blk (b + a)
      · have hs : stepW b x was must a s = (0, s) := by unfold stepW; rw [hwa, if_pos hc]
        rw [if_pos hc, putW, hs]
        simp only [if_true]
        exact ih (a + 1) s (by omega) (fun i h1 h2 => hw i (by omega) h2)
      · have hs : stepW b x was must a s = write s (b + a : Nat) (blkOf x a) := by unfold stepW; rw [hwa, if_neg hc]
        rw [if_neg hc, putW, hs]
        by_cases h0 : (write s (b + a : Nat) (blkOf x a)).1 = 0
        · simp only [h0, if_true]
          exact ih (a + 1) _ (by omega) (fun i h1 h2 => by rw [write_blk _ _ _ _ (by omega)]; exact hw i (by omega) h2)
        · simp only [h0, if_false]
    · rw [if_neg hlt, show (hi + 31) / 32 - a = 0 by omega]
      rfl
theorem put_eq (s : Sto) (lo hi : Nat) (hw : ∀ i, 32 * i < hi → blkOf was i = s.blk (b + i)) :
    put b x lo hi must s = putW b x was must (List.range' (lo / 32) ((hi + 31) / 32 - lo / 32)) s := by
  unfold put
  exact putF_eq hi (hi + 1) (lo / 32) s (by omega) (fun i _ h => hw i h)
end Go.Proofs.Hv
