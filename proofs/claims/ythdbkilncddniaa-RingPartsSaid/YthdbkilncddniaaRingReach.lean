/- Where a point leads: what Reach tells, proved of the plain functions. -/
import Derived.Test.YthdbkilncddniaaRingTarjan2
set_option linter.unusedVariables false
set_option linter.unusedSimpArgs false
namespace RingM

/-- one way or more -/
def TP (n : Net) (a b : Nat) : Prop := ∃ k, Edge n a k ∧ RP n k b

theorem TP.lt {n : Net} {a b : Nat} (h : TP n a b) : b < n.length := by
  obtain ⟨k, hk, hr⟩ := h
  exact hr.stays (P := fun x => x < n.length) (fun _ _ _ h => h.lt) hk.lt
theorem TP.lt' {n : Net} {a b : Nat} (h : TP n a b) : a < n.length := by
  obtain ⟨k, hk, _⟩ := h
  exact hk.lt'
theorem TP.rp {n : Net} {a b : Nat} (h : TP n a b) : RP n a b := by
  obtain ⟨k, hk, hr⟩ := h
  exact .step hk hr
theorem RP.tail {n : Net} {a b c : Nat} (h : RP n a b) (e : Edge n b c) : TP n a c := by
  induction h with
  | refl => exact ⟨_, e, .refl _⟩
  | step e' _ ih => exact ⟨_, e', (ih e).rp⟩
theorem TP.trans_rp {n : Net} {a b c : Nat} (h : TP n a b) (k : RP n b c) : TP n a c := by
  obtain ⟨x, hx, hr⟩ := h
  exact ⟨x, hx, hr.trans k⟩
theorem RP.trans_tp {n : Net} {a b c : Nat} (h : RP n a b) (k : TP n b c) : TP n a c := by
  induction h with
  | refl => exact k
  | step e _ ih => exact ⟨_, e, (ih k).rp⟩
theorem RP.eq_or {n : Net} {a b : Nat} (h : RP n a b) : a = b ∨ TP n a b := by
  cases h with
  | refl => exact .inl rfl
  | step e r => exact .inr ⟨_, e, r⟩

theorem mem_trues {l : List Bool} {i : Nat} : i ∈ trues l ↔ l.getD i false = true := by
  unfold trues
  rw [List.mem_filter, List.mem_range]
  constructor
  · exact fun h => h.2
  · intro h
    refine ⟨?_, h⟩
    rcases Nat.lt_or_ge i l.length with h' | h'
    · exact h'
    · rw [List.getD_eq_getElem?_getD, List.getElem?_eq_none h'] at h
      cases h
theorem asc_trues (l : List Bool) : (trues l).Pairwise (· < ·) := by
  unfold trues
  exact List.Pairwise.filter _ List.pairwise_lt_range

/-- what is left to be looked at -/
def unseen (n : Net) (seen : List Bool) : Nat := (((List.range n.length).filter fun v => !seen.getD v false).map fun v => (waysN n v).length).sum

theorem sum_filter_set {n : Net} {seen : List Bool} {v : Nat} (hl : seen.length = n.length) (h0 : seen.getD v false = false) :
    ∀ (l : List Nat), l.Nodup → (∀ u, u ∈ l → u < n.length) →
      ((l.filter fun u => !(seen.set v true).getD u false).map fun u => (waysN n u).length).sum + (if v ∈ l then (waysN n v).length else 0) =
        ((l.filter fun u => !seen.getD u false).map fun u => (waysN n u).length).sum := by
  intro l
  induction l with
  | nil => intro _ _; simp
  | cons x l ih =>
    intro hn hlt
    obtain ⟨hx, hn⟩ := List.nodup_cons.1 hn
    have ih := ih hn (fun u hu => hlt u (by simp [hu]))
    simp only [List.filter_cons, getD_set]
    by_cases e : v = x
    · subst e
      have hv : v < seen.length := by rw [hl]; exact hlt v (by simp)
      rw [if_neg hx] at ih
      simp only [getD_set] at ih
      simp only [hv, and_self, if_true, h0, List.mem_cons, true_or]
      simp only [Bool.not_true, Bool.not_false, if_true, List.map_cons, List.sum_cons]
      simp only [Bool.false_eq_true, if_false]
      omega
    · simp only [getD_set] at ih
      rw [if_neg (fun (hh : v = x ∧ x < seen.length) => e hh.1)]
      have hm : (v ∈ x :: l) ↔ v ∈ l := by simp [e]
      simp only [hm]
      cases seen.getD x false with
      | true => simpa using ih
      | false => simp only [Bool.not_false, if_true, List.map_cons, List.sum_cons]; omega

theorem unseen_set {n : Net} {seen : List Bool} {v : Nat} (hl : seen.length = n.length) (hv : v < n.length) (h0 : seen.getD v false = false) :
    unseen n (seen.set v true) + (waysN n v).length = unseen n seen := by
  have := sum_filter_set hl h0 (List.range n.length) List.nodup_range (fun u hu => List.mem_range.1 hu)
  rw [if_pos (List.mem_range.2 hv)] at this
  exact this

theorem getLast?_split {α : Type} {l : List α} {x : α} (h : l.getLast? = some x) : l = l.dropLast ++ [x] := by
  have hne : l ≠ [] := by intro e; subst e; simp at h
  rw [List.getLast?_eq_some_getLast hne] at h
  cases h
  exact (List.dropLast_concat_getLast hne).symm

theorem reachLoop_spec (n : Net) (a : Nat) (f : Nat) : ∀ (seen : List Bool) (todo : List Nat), seen.length = n.length →
    (∀ v, seen.getD v false = true → TP n a v) → (∀ v, v ∈ todo → TP n a v) →
    (∀ v, seen.getD v false = true → ∀ w, Edge n v w → seen.getD w false = true ∨ w ∈ todo) → (∀ w, Edge n a w → seen.getD w false = true ∨ w ∈ todo) →
    todo.length + unseen n seen < f →
    ∃ s, reachLoop n f seen todo = some s ∧ s.length = n.length ∧ ∀ v, s.getD v false = true ↔ TP n a v := by
  induction f with
  | zero => intro _ _ _ _ _ _ _ h; omega
  | succ f ih =>
    intro seen todo hl h1 h2 h3 h4 hf
    unfold reachLoop
    cases hg : todo.getLast? with
    | none =>
      have ht : todo = [] := by simpa using hg
      subst ht
      refine ⟨seen, rfl, hl, fun v => ⟨h1 v, ?_⟩⟩
      rintro ⟨k, hk, hr⟩
      have hk' : seen.getD k false = true := (h4 k hk).resolve_right (by simp)
      exact hr.stays (P := fun v => seen.getD v false = true) (fun x hx y hxy => (h3 x hx y hxy).resolve_right (by simp)) hk'
    | some v =>
      have hs := getLast?_split hg
      have hlen : todo.length = todo.dropLast.length + 1 := by
        have := congrArg List.length hs
        simpa using this
      have hmem : ∀ w, w ∈ todo ↔ w ∈ todo.dropLast ∨ w = v := by
        intro w
        constructor
        · intro hw
          rw [hs] at hw
          simpa using hw
        · intro hw
          rw [hs]
          simpa using hw
      have hv : TP n a v := h2 v ((hmem v).2 (.inr rfl))
      simp only
      by_cases hsv : seen.getD v false = true
      · rw [if_pos hsv]
        refine ih seen todo.dropLast hl h1 (fun w hw => h2 w ((hmem w).2 (.inl hw))) ?_ ?_ (by omega)
        · intro x hx w hw
          rcases h3 x hx w hw with h | h
          · exact .inl h
          · rcases (hmem w).1 h with h | h
            · exact .inr h
            · subst h; exact .inl hsv
        · intro w hw
          rcases h4 w hw with h | h
          · exact .inl h
          · rcases (hmem w).1 h with h | h
            · exact .inr h
            · subst h; exact .inl hsv
      · rw [if_neg hsv]
        have hsv' : seen.getD v false = false := by simpa using hsv
        have hset : ∀ w, (seen.set v true).getD w false = true ↔ (w = v ∨ seen.getD w false = true) := by
          intro w
          rw [getD_set]
          by_cases e : v = w
          · subst e
            rw [if_pos ⟨rfl, by rw [hl]; exact hv.lt⟩]
            simp
          · rw [if_neg (fun (hh : v = w ∧ w < seen.length) => e hh.1)]
            simp [Ne.symm e]
        have hu := unseen_set hl hv.lt hsv'
        refine ih (seen.set v true) (todo.dropLast ++ waysN n v) (by simp [hl]) ?_ ?_ ?_ ?_ (by rw [List.length_append]; omega)
        · intro w hw
          rcases (hset w).1 hw with rfl | hw
          · exact hv
          · exact h1 w hw
        · intro w hw
          rcases List.mem_append.1 hw with hw | hw
          · exact h2 w ((hmem w).2 (.inl hw))
          · exact hv.trans_rp (.one hw)
        · intro x hx w hw
          rw [hset, List.mem_append]
          rcases (hset x).1 hx with rfl | hx
          · exact .inr (.inr hw)
          · rcases h3 x hx w hw with h | h
            · exact .inl (.inr h)
            · rcases (hmem w).1 h with h | h
              · exact .inr (.inl h)
              · exact .inl (.inl h)
        · intro w hw
          rw [hset, List.mem_append]
          rcases h4 w hw with h | h
          · exact .inl (.inr h)
          · rcases (hmem w).1 h with h | h
            · exact .inr (.inl h)
            · exact .inl (.inl h)

theorem ways_le (n : Net) (v : Nat) : (waysN n v).length ≤ (n.getD v []).length := by
  unfold waysN waysI
  rw [List.length_map]
  exact List.length_filter_le _ _
theorem getD_le_sum (n : Net) (v : Nat) : (n.getD v []).length ≤ (n.map List.length).sum := by
  induction n generalizing v with
  | nil => simp
  | cons r n ih =>
    cases v with
    | zero => simp
    | succ v =>
      have := ih v
      simp only [List.getD_cons_succ, List.map_cons, List.sum_cons]
      omega
theorem sum_range_le (n : Net) (p : Nat → Bool) : (((List.range n.length).filter p).map fun v => (waysN n v).length).sum ≤ (n.map List.length).sum := by
  have key : ∀ (l : List Nat), ((l.filter p).map fun v => (waysN n v).length).sum ≤ (l.map fun v => (n.getD v []).length).sum := by
    intro l
    induction l with
    | nil => simp
    | cons x l ih =>
      have := ways_le n x
      simp only [List.filter_cons]
      split
      · simp only [List.map_cons, List.sum_cons]; omega
      · simp only [List.map_cons, List.sum_cons]; omega
  refine Nat.le_trans (key _) (Nat.le_of_eq ?_)
  congr 1
  apply List.ext_getElem
  · simp
  · intro i h1 h2
    simp at h1
    simp [List.getD_eq_getElem?_getD, h1]

theorem reach_loop (n : Net) (a : Nat) : ∃ s, reachLoop n (reachFuel n) (List.replicate n.length false) (waysN n a) = some s ∧ s.length = n.length ∧ ∀ v, s.getD v false = true ↔ TP n a v := by
  have h0 : ∀ v, (List.replicate n.length false).getD v false = false := by
    intro v
    simp only [List.getD_eq_getElem?_getD, List.getElem?_replicate]
    split <;> rfl
  refine reachLoop_spec n a (reachFuel n) (List.replicate n.length false) (waysN n a) (by simp) ?_ ?_ ?_ ?_ ?_
  · intro v hv; rw [h0] at hv; cases hv
  · intro v hv; exact ⟨v, hv, .refl _⟩
  · intro v hv; rw [h0] at hv; cases hv
  · intro w hw; exact .inr hw
  · have h1 := ways_le n a
    have h2 := getD_le_sum n a
    have h3 := sum_range_le n (fun v => !(List.replicate n.length false).getD v false)
    unfold reachFuel unseen
    omega

theorem mem_reach {n : Net} {a v : Nat} : v ∈ reach n (a : Int) ↔ TP n a v := by
  unfold reach
  by_cases h : has n (a : Int) = true
  · rw [if_pos h]
    obtain ⟨s, e, _, hs⟩ := reach_loop n a
    rw [Int.toNat_natCast, e]
    simp only [Option.getD_some]
    rw [mem_trues]
    exact hs v
  · rw [if_neg h]
    constructor
    · intro hh; cases hh
    · intro hh
      exfalso
      have := hh.lt'
      apply h
      simp only [has, Bool.and_eq_true, decide_eq_true_eq]
      omega
theorem asc_reach (n : Net) (v : Int) : (reach n v).Pairwise (· < ·) := by
  unfold reach
  split
  · exact asc_trues _
  · exact List.Pairwise.nil
theorem loops_iff {n : Net} {a : Nat} : loops n (a : Int) = true ↔ TP n a a := by
  unfold loops
  rw [List.any_eq_true]
  constructor
  · rintro ⟨k, hk, he⟩
    have h1 : (k : Int) = a := by simpa using he
    have : k = a := by omega
    subst this
    exact mem_reach.1 hk
  · intro h
    exact ⟨a, mem_reach.2 h, by simp⟩

/-- lists that rise, of the same members, are one -/
theorem asc_ext {l l' : List Nat} (h : l.Pairwise (· < ·)) (h' : l'.Pairwise (· < ·)) (he : ∀ a, a ∈ l ↔ a ∈ l') : l = l' := by
  induction l generalizing l' with
  | nil =>
    cases l' with
    | nil => rfl
    | cons y r => exact absurd ((he y).2 (by simp)) (by simp)
  | cons x r ih =>
    cases l' with
    | nil => exact absurd ((he x).1 (by simp)) (by simp)
    | cons y r' =>
      obtain ⟨hx, hr⟩ := List.pairwise_cons.1 h
      obtain ⟨hy, hr'⟩ := List.pairwise_cons.1 h'
      have exy : x = y := by
        rcases List.mem_cons.1 ((he x).1 (by simp)) with e | e
        · exact e
        · rcases List.mem_cons.1 ((he y).2 (by simp)) with e' | e'
          · exact e'.symm
          · have := hx y e'; have := hy x e; omega
      subst exy
      congr 1
      refine ih hr hr' fun a => ?_
      constructor
      · intro ha
        rcases List.mem_cons.1 ((he a).1 (by simp [ha])) with e | e
        · have := hx a ha; omega
        · exact e
      · intro ha
        rcases List.mem_cons.1 ((he a).2 (by simp [ha])) with e | e
        · have := hy a ha; omega
        · exact e

theorem headsAsc_ext {l l' : List (List Nat)} (h : l.Pairwise (fun a b => a.headD 0 < b.headD 0)) (h' : l'.Pairwise (fun a b => a.headD 0 < b.headD 0)) (he : ∀ a, a ∈ l ↔ a ∈ l') : l = l' := by
  induction l generalizing l' with
  | nil =>
    cases l' with
    | nil => rfl
    | cons y r => exact absurd ((he y).2 (by simp)) (by simp)
  | cons x r ih =>
    cases l' with
    | nil => exact absurd ((he x).1 (by simp)) (by simp)
    | cons y r' =>
      obtain ⟨hx, hr⟩ := List.pairwise_cons.1 h
      obtain ⟨hy, hr'⟩ := List.pairwise_cons.1 h'
      have exy : x = y := by
        rcases List.mem_cons.1 ((he x).1 (by simp)) with e | e
        · exact e
        · rcases List.mem_cons.1 ((he y).2 (by simp)) with e' | e'
          · exact e'.symm
          · have := hx y e'; have := hy x e; omega
      subst exy
      congr 1
      refine ih hr hr' fun a => ?_
      constructor
      · intro ha
        rcases List.mem_cons.1 ((he a).1 (by simp [ha])) with e | e
        · subst e; have := hx a ha; omega
        · exact e
      · intro ha
        rcases List.mem_cons.1 ((he a).2 (by simp [ha])) with e | e
        · subst e; have := hy a ha; omega
        · exact e

/-- rings hang on what leads to each other alone -/
theorem told_unique {n n' : Net} {l l' : List (List Nat)} (hl : n.length = n'.length) (h : Told n l) (h' : Told n' l') (he : ∀ a b, (RP n a b ∧ RP n b a) ↔ (RP n' a b ∧ RP n' b a)) : l = l' := by
  have half : ∀ {n n' : Net} {l l' : List (List Nat)}, n.length = n'.length → Told n l → Told n' l' → (∀ a b, (RP n a b ∧ RP n b a) ↔ (RP n' a b ∧ RP n' b a)) → ∀ r, r ∈ l → r ∈ l' := by
    intro n n' l l' hl h h' he r hr
    have hm := headD_mem (h.ne r hr)
    obtain ⟨r', hr', hm'⟩ := h'.all (r.headD 0) (by rw [← hl]; exact h.lt r hr _ hm)
    have : r = r' := asc_ext (h.asc r hr) (h'.asc r' hr') fun a => by rw [h.scc r hr _ hm a, h'.scc r' hr' _ hm' a]; exact he _ _
    rw [this]; exact hr'
  exact headsAsc_ext h.heads h'.heads fun r => ⟨half hl h h' he r, half hl.symm h' h (fun a b => (he a b).symm) r⟩

end RingM
