/- Plain laws of numbers as texts: no condition. -/
import Derived.Test.YtoldogkfeimojaaDoorHvModel
import Derived.Lib.AtoiAll
import Derived.Lib.ItoaNum
import Derived.Lib.Strings
import Derived.Shelf.Small.Wraps
set_option linter.unusedVariables false
set_option linter.unusedSimpArgs false
namespace Go.Proofs.Hv
open Go

theorem isDigit_iff (c : UInt8) : isDigit c = true ↔ 48 ≤ c.toNat ∧ c.toNat ≤ 57 := by simp [isDigit]
theorem num_snoc (l : Bytes) (c : UInt8) : num (l ++ [c]) = 10 * num l + (c.toNat - 48) := by simp [num, List.foldl_append]
theorem decDigits_step (u : Nat) (h : 10 ≤ u) : Lib.decDigits u = Lib.decDigits (u / 10) ++ [UInt8.ofNat (48 + u % 10)] := by
  rw [Lib.decDigits, dif_neg (by omega)]
theorem ofNat_digit (d : Nat) (h : d < 10) : (UInt8.ofNat (48 + d)).toNat = 48 + d := by
  rw [UInt8.toNat_ofNat']; omega
theorem digits_spec (n : Nat) : (Lib.decDigits n).all isDigit = true ∧ num (Lib.decDigits n) = n ∧ (1 ≤ n → (Lib.decDigits n).getD 0 0 ≠ 48) ∧ 1 ≤ (Lib.decDigits n).length := by
  induction n using Nat.strongRecOn with
  | ind n ih =>
    by_cases h : n < 10
    · rw [Lib.decDigits_one h]
      have hd := ofNat_digit n h
      refine ⟨?_, ?_, fun h1 => ?_, by simp⟩
      · simp only [List.all_cons, List.all_nil, Bool.and_true, isDigit_iff, hd]; omega
      · simp only [num, List.foldl_cons, List.foldl_nil, hd]; omega
      · intro e
        have := congrArg UInt8.toNat e
        simp only [List.getD_cons_zero, hd] at this
        have h48 : (48 : UInt8).toNat = 48 := rfl
        omega
    · obtain ⟨h1, h2, h3, h4⟩ := ih (n / 10) (by omega)
      rw [decDigits_step n (by omega)]
      have hd := ofNat_digit (n % 10) (Nat.mod_lt _ (by omega))
      refine ⟨?_, ?_, fun _ => ?_, by simp⟩
      · rw [List.all_append, h1, Bool.true_and]
        simp only [List.all_cons, List.all_nil, Bool.and_true, isDigit_iff, hd]; omega
      · rw [num_snoc, h2, hd]; omega
      · have := h3 (by omega)
        rw [List.getD_eq_getElem?_getD, List.getElem?_append_left (by omega), ← List.getD_eq_getElem?_getD]
        exact this
theorem num_pos {l : Bytes} (hl : 1 ≤ l.length) (hd : l.all isDigit = true) (h0 : l.getD 0 0 ≠ 48) : 1 ≤ num l := by
  cases l with
  | nil => simp at hl
  | cons c r =>
    have hc : 49 ≤ c.toNat := by
      have := (isDigit_iff c).1 (by simp only [List.all_cons, Bool.and_eq_true] at hd; exact hd.1)
      have h1 : c.toNat ≠ 48 := fun e => h0 (by simp only [List.getD_cons_zero]; exact UInt8.toNat_inj.1 e)
      omega
    have : ∀ (m : Bytes) (a : Nat), 1 ≤ a → 1 ≤ m.foldl (fun n c => 10 * n + (c.toNat - 48)) a := by
      intro m
      induction m with
      | nil => intro a h; exact h
      | cons x m ih => intro a h; exact ih _ (Nat.le_trans (show 1 ≤ 10 * a by omega) (Nat.le_add_right _ _))
    unfold num
    rw [List.foldl_cons]
    exact this r _ (by omega)
theorem digits_num (l : Bytes) : 1 ≤ l.length → l.all isDigit = true → l.getD 0 0 ≠ 48 → Lib.decDigits (num l) = l := by
  induction hn : l.length generalizing l with
  | zero => intro h; omega
  | succ k ih =>
    intro _ hd h0
    rcases List.eq_nil_or_concat l with rfl | ⟨m, c, rfl⟩
    · simp at hn
    · rw [List.concat_eq_append] at *
      rw [List.all_append, Bool.and_eq_true] at hd
      have hc := (isDigit_iff c).1 (by simpa using hd.2)
      rw [num_snoc]
      have hcc : UInt8.ofNat (48 + (c.toNat - 48)) = c := by
        apply UInt8.toNat_inj.1
        rw [ofNat_digit _ (by omega)]; omega
      by_cases hm : m = []
      · subst hm
        have : num ([] : Bytes) = 0 := rfl
        rw [this, Nat.mul_zero, Nat.zero_add, Lib.decDigits_one (by omega), hcc]
        rfl
      · have hml : 1 ≤ m.length := List.length_pos_iff.2 hm
        have h0m : m.getD 0 0 ≠ 48 := by
          rw [List.getD_eq_getElem?_getD, List.getElem?_append_left (by omega), ← List.getD_eq_getElem?_getD] at h0
          exact h0
        have hp := num_pos hml hd.1 h0m
        have hmk : m.length = k := by simp at hn; omega
        have hi := ih m hmk (by omega) hd.1 h0m
        rw [decDigits_step _ (by omega), show (10 * num m + (c.toNat - 48)) / 10 = num m by omega, hi, show (10 * num m + (c.toNat - 48)) % 10 = c.toNat - 48 by omega, hcc]
theorem num_lt (l : Bytes) (hd : l.all isDigit = true) : num l < 10 ^ l.length := by
  induction hn : l.length generalizing l with
  | zero => rw [List.eq_nil_of_length_eq_zero hn]; decide
  | succ k ih =>
    rcases List.eq_nil_or_concat l with rfl | ⟨m, c, rfl⟩
    · simp at hn
    · rw [List.concat_eq_append] at *
      rw [List.all_append, Bool.and_eq_true] at hd
      have hc := (isDigit_iff c).1 (by simpa using hd.2)
      have := ih m hd.1 (by simp at hn; omega)
      rw [num_snoc, Nat.pow_succ]
      omega
theorem parse_digits : ∀ (l : Bytes) (acc k : Nat), l.all isDigit = true → acc < 10 ^ k → k + l.length ≤ 18 → Lib.parseUint10 acc l = .ok (l.foldl (fun n c => 10 * n + (c.toNat - 48)) acc)
  | [], acc, k, _, _, _ => rfl
  | c :: r, acc, k, hd, ha, hk => by
    simp only [List.all_cons, Bool.and_eq_true] at hd
    have hc := (isDigit_iff c).1 hd.1
    simp only [List.length_cons] at hk
    have hp : 10 ^ (k + 1) ≤ 10 ^ 18 := Nat.pow_le_pow_right (by omega) (by omega)
    have hs : 10 ^ (k + 1) = 10 * 10 ^ k := by rw [Nat.pow_succ, Nat.mul_comm]
    have h18 : (10 : Nat) ^ 18 = 1000000000000000000 := by decide
    simp only [Lib.parseUint10, if_pos hc, if_neg (show ¬ 1844674407370955162 ≤ acc by omega), if_neg (show ¬ 18446744073709551616 ≤ acc * 10 + (c.toNat - 48) by omega)]
    rw [parse_digits r _ (k + 1) hd.2 (by omega) (by omega), List.foldl_cons, Nat.mul_comm acc 10]

/-- the age as the program reckons it -/
def goAge (s : Bytes) (v : Int) : Bool := Lib.hasPrefix s [103, 32] && decide (1 ≤ v) && decide ((Lib.trimPrefix s [103, 32]).length ≤ 18) && (Lib.itoa v == Lib.trimPrefix s [103, 32])
theorem hasPrefix2 (s : Bytes) : Lib.hasPrefix s [103, 32] = true ↔ s.take 2 = [103, 32] := by
  unfold Lib.hasPrefix
  rw [List.isPrefixOf_iff_prefix, List.prefix_iff_eq_take]
  exact ⟨fun h => h.symm, fun h => h.symm⟩
theorem trim2 (s : Bytes) (h : Lib.hasPrefix s [103, 32] = true) : Lib.trimPrefix s [103, 32] = s.drop 2 := by
  simp [Lib.trimPrefix, h]
theorem age_yes {s : Bytes} {v : Int} (h : goAge s v = true) : (age s : Int) = v := by
  simp only [goAge, Bool.and_eq_true, decide_eq_true_eq, beq_iff_eq] at h
  obtain ⟨⟨⟨h1, h2⟩, h3⟩, h4⟩ := h
  rw [trim2 s h1] at h3 h4
  obtain ⟨n, rfl⟩ := Int.eq_ofNat_of_zero_le (show 0 ≤ v by omega)
  have hi : Lib.itoa (n : Int) = Lib.decDigits n := by unfold Lib.itoa; rw [if_neg (by omega)]; simp
  rw [hi] at h4
  obtain ⟨d1, d2, d3, d4⟩ := digits_spec n
  rw [h4] at d1 d2 d3 d4
  have hl : s.length = (s.drop 2).length + 2 := by rw [List.length_drop] at *; omega
  unfold age
  have h48 : s.getD 2 0 ≠ 48 := by
    have := d3 (by omega)
    rw [List.getD_eq_getElem?_getD, List.getElem?_drop] at this
    rw [List.getD_eq_getElem?_getD]
    exact this
  rw [if_pos ⟨(hasPrefix2 s).1 h1, by omega, by omega, h48, d1⟩, d2]
theorem age_no {s : Bytes} (h : ∀ v, Lib.atoiAll (Lib.trimPrefix s [103, 32]) = .ok v → goAge s v = false) : age s = 0 := by
  unfold age
  split
  · rename_i hh
    exfalso
    obtain ⟨h1, h2, h3, h4, h5⟩ := hh
    have hp := (hasPrefix2 s).2 h1
    have htr := trim2 s hp
    have hdl : (s.drop 2).length = s.length - 2 := List.length_drop
    have h0 : (s.drop 2).getD 0 0 ≠ 48 := by
      rw [List.getD_eq_getElem?_getD, List.getElem?_drop]
      rw [List.getD_eq_getElem?_getD] at h4
      exact h4
    have hnum := num_pos (by omega) h5 h0
    have hdn := digits_num (s.drop 2) (by omega) h5 h0
    have hlt := num_lt _ h5
    have hp18 : 10 ^ (s.drop 2).length ≤ 10 ^ 18 := Nat.pow_le_pow_right (by omega) (by omega)
    have h18 : (10 : Nat) ^ 18 = 1000000000000000000 := by decide
    have hpar := parse_digits (s.drop 2) 0 0 h5 (by decide) (by omega)
    have hat : Lib.atoiAll (s.drop 2) = .ok ((num (s.drop 2) : Nat) : Int) := by
      have hnum' : (s.drop 2).foldl (fun n c => 10 * n + (c.toNat - 48)) 0 = num (s.drop 2) := rfl
      rw [hnum'] at hpar
      generalize hd : s.drop 2 = d at *
      cases d with
      | nil => simp at hdl; omega
      | cons c r =>
        simp only [List.all_cons, Bool.and_eq_true] at h5
        have hc := (isDigit_iff c).1 h5.1
        unfold Lib.atoiAll
        simp only [if_neg (show ¬ (c.toNat = 43 ∨ c.toNat = 45) by omega), Lib.parseMag, List.cons_ne_nil, if_false, hpar]
        rw [if_neg (by omega), if_neg (by omega), if_neg (by omega)]
    have := h _ (by rw [htr]; exact hat)
    rw [goAge, hp, htr] at this
    have hi : Lib.itoa ((num (s.drop 2) : Nat) : Int) = s.drop 2 := by unfold Lib.itoa; rw [if_neg (by omega)]; simpa using hdn
    rw [hi] at this
    simp at this
    omega
  · rfl
theorem digits_eq (n : Nat) (h : n < 10 ^ 20) : digits n = Lib.decDigits n := by
  have : ∀ (f n : Nat), n < 10 ^ f → 1 ≤ f → digitsF f n = Lib.decDigits n := by
    intro f
    induction f with
    | zero => intro n _ h; omega
    | succ f ih =>
      intro n hn _
      unfold digitsF
      by_cases h : n < 10
      · rw [if_pos h, Lib.decDigits_one h]
      · rw [if_neg h, decDigits_step n (by omega)]
        have hs : 10 ^ (f + 1) = 10 * 10 ^ f := by rw [Nat.pow_succ, Nat.mul_comm]
        have hf : 1 ≤ f := by
          rcases f with _ | f
          · simp at hn; omega
          · omega
        rw [ih (n / 10) (by omega) hf]
  exact this 20 n h (by omega)
theorem itoa_digits (n : Nat) (h : n < 10 ^ 20) : Lib.itoa (n : Int) = digits n := by
  rw [digits_eq n h]; unfold Lib.itoa; rw [if_neg (by omega)]; simp
end Go.Proofs.Hv
