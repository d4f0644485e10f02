/- One step of the proof of a statement of this seat: plain laws and walks of the ring package; no condition. -/
import Derived.Test.YthdbkilncddniaaW32
set_option linter.unusedVariables false
set_option linter.unusedSimpArgs false
open Go.RowKit
namespace Go.Proofs.Ythdbkilncddniaa.Ring
open RingM Go.Proofs.Mem

/-- each point's ring, while rings are looked at: ring m's points bear m + 1 -/
def HomeIn (n : Net) (i j : Nat) (h : List Nat) : Prop := h.length = n.length ∧ ∀ k, k < n.length → ∀ m, (h.getD k 0 = m + 1 ↔ (m < i ∧ k ∈ (rings n).getD m []) ∨ (m = i ∧ k ∈ ((rings n).getD i []).take j))
theorem getD_mem {l : List (List Nat)} {m k : Nat} (h : k ∈ l.getD m []) : m < l.length ∧ l.getD m [] ∈ l := by
  by_cases hm : m < l.length
  · refine ⟨hm, ?_⟩
    rw [List.getD_eq_getElem?_getD, List.getElem?_eq_getElem hm]
    exact List.getElem_mem _
  · rw [List.getD_eq_getElem?_getD, List.getElem?_eq_none (by omega)] at h
    simp at h
theorem rings_apart {n : Net} {m m' k : Nat} (h : k ∈ (rings n).getD m []) (h' : k ∈ (rings n).getD m' []) : m = m' := by
  have ht := rings_told n
  obtain ⟨hm, hr⟩ := getD_mem h
  obtain ⟨hm', hr'⟩ := getD_mem h'
  have he : (rings n).getD m [] = (rings n).getD m' [] :=
    asc_ext (ht.asc _ hr) (ht.asc _ hr') fun a => by rw [ht.scc _ hr k h a, ht.scc _ hr' k h' a]
  have key : ∀ a b, a < b → b < (rings n).length → (rings n).getD a [] ≠ (rings n).getD b [] := by
    intro a b hab hb e
    have h1 := List.pairwise_iff_getElem.1 ht.heads a b (by omega) hb hab
    rw [List.getD_eq_getElem?_getD, List.getD_eq_getElem?_getD, List.getElem?_eq_getElem (by omega), List.getElem?_eq_getElem hb] at e
    simp only [Option.getD_some] at e
    rw [e] at h1
    omega
  rcases Nat.lt_trichotomy m m' with l | l | l
  · exact absurd he (key _ _ l hm')
  · exact l
  · exact absurd he.symm (key _ _ l hm)
theorem home_start (n : Net) : HomeIn n 0 0 (List.replicate n.length 0) := by
  refine ⟨by simp, fun k hk m => ?_⟩
  rw [List.getD_eq_getElem?_getD, List.getElem?_replicate]
  simp [hk]
theorem home_zero {n : Net} {i j x : Nat} {h : List Nat} (hh : HomeIn n i j h) (hj : j < ((rings n).getD i []).length) (hx : x = ((rings n).getD i [])[j]) : h.getD x 0 = 0 ∧ x < n.length := by
  have ht := rings_told n
  have hm : x ∈ (rings n).getD i [] := by rw [hx]; exact List.getElem_mem _
  obtain ⟨hi, hr⟩ := getD_mem hm
  have hxl := ht.lt _ hr x hm
  refine ⟨?_, hxl⟩
  cases hc : h.getD x 0 with
  | zero => rfl
  | succ m =>
    exfalso
    rcases (hh.2 x hxl m).1 hc with ⟨h1, h2⟩ | ⟨h1, h2⟩
    · have := rings_apart h2 hm; omega
    · obtain ⟨q, hq, he⟩ := List.mem_take_iff_getElem.1 h2
      have h3 := List.pairwise_iff_getElem.1 (ht.asc _ hr) q j (by omega) hj (by omega)
      omega
theorem home_step {n : Net} {i j x : Nat} {h : List Nat} (hh : HomeIn n i j h) (hj : j < ((rings n).getD i []).length) (hx : x = ((rings n).getD i [])[j]) : HomeIn n i (j + 1) (h.set x (i + 1)) := by
  have hm : x ∈ (rings n).getD i [] := by rw [hx]; exact List.getElem_mem _
  refine ⟨by simp [hh.1], fun k hk m => ?_⟩
  have htk : ∀ y, y ∈ ((rings n).getD i []).take (j + 1) ↔ y ∈ ((rings n).getD i []).take j ∨ y = x := fun y => by
    rw [List.take_succ_eq_append_getElem hj, List.mem_append, List.mem_singleton, hx]
  rw [htk]
  by_cases e : k = x
  · subst e
    rw [getD_set_eq (by rw [hh.1]; exact hk)]
    constructor
    · intro hm2
      exact .inr ⟨by omega, .inr rfl⟩
    · rintro (⟨h1, h2⟩ | ⟨h1, _⟩)
      · have := rings_apart h2 hm; omega
      · omega
  · rw [show (h.set x (i + 1)).getD k 0 = h.getD k 0 from by rw [List.getD_eq_getElem?_getD, List.getD_eq_getElem?_getD, List.getElem?_set_ne (fun h => e h.symm)], hh.2 k hk m]
    constructor
    · rintro (h1 | ⟨h1, h2⟩)
      · exact .inl h1
      · exact .inr ⟨h1, .inl h2⟩
    · rintro (h1 | ⟨h1, h2 | h2⟩)
      · exact .inl h1
      · exact .inr ⟨h1, h2⟩
      · exact absurd h2 e
theorem home_next {n : Net} {i j : Nat} {h : List Nat} (hh : HomeIn n i j h) (hj : j = ((rings n).getD i []).length) : HomeIn n (i + 1) 0 h := by
  refine ⟨hh.1, fun k hk m => ?_⟩
  rw [hh.2 k hk m, hj, List.take_length]
  constructor
  · rintro (⟨h1, h2⟩ | ⟨h1, h2⟩)
    · exact .inl ⟨by omega, h2⟩
    · exact .inl ⟨by omega, by rw [h1]; exact h2⟩
  · rintro (⟨h1, h2⟩ | ⟨h1, h2⟩)
    · by_cases e : m = i
      · subst e; exact .inr ⟨rfl, h2⟩
      · exact .inl ⟨by omega, h2⟩
    · simp at h2
theorem home_end {n : Net} {h : List Nat} (hh : HomeIn n (rings n).length 0 h) : (∀ a, a < n.length → h.getD a 0 ≠ 0) ∧ ∀ a b, a < n.length → b < n.length → (h.getD a 0 = h.getD b 0 ↔ a = b ∨ (TP n a b ∧ TP n b a)) := by
  have ht := rings_told n
  have at_ : ∀ a, a < n.length → ∃ m, h.getD a 0 = m + 1 ∧ a ∈ (rings n).getD m [] := by
    intro a ha
    obtain ⟨r, hr, har⟩ := ht.all a ha
    obtain ⟨m, hm, rfl⟩ := List.mem_iff_getElem.1 hr
    have hg : (rings n).getD m [] = (rings n)[m] := by rw [List.getD_eq_getElem?_getD, List.getElem?_eq_getElem hm]; rfl
    exact ⟨m, (hh.2 a ha m).2 (.inl ⟨hm, by rw [hg]; exact har⟩), by rw [hg]; exact har⟩
  refine ⟨fun a ha h0 => ?_, fun a b ha hb => ?_⟩
  · obtain ⟨m, h1, _⟩ := at_ a ha
    omega
  · obtain ⟨m, h1, h2⟩ := at_ a ha
    obtain ⟨m', h1', h2'⟩ := at_ b hb
    obtain ⟨hm, hr⟩ := getD_mem h2
    have hs := ht.scc _ hr a h2 b
    constructor
    · intro e
      have hmm : m = m' := by omega
      subst hmm
      obtain ⟨p, q⟩ := hs.1 h2'
      rcases p.eq_or with e | t
      · exact .inl e
      · rcases q.eq_or with e | t'
        · exact .inl e.symm
        · exact .inr ⟨t, t'⟩
    · intro hab
      have hbr : b ∈ (rings n).getD m [] := by
        rcases hab with rfl | ⟨t, t'⟩
        · exact h2
        · exact hs.2 ⟨t.rp, t'.rp⟩
      have := rings_apart hbr h2'
      omega
theorem home_le {n : Net} {i j : Nat} {h : List Nat} (hh : HomeIn n i j h) (k : Nat) (hk : k < n.length) : h.getD k 0 ≤ i + 1 := by
  cases hc : h.getD k 0 with
  | zero => omega
  | succ m =>
    rcases (hh.2 k hk m).1 hc with ⟨h1, _⟩ | ⟨h1, _⟩ <;> omega
end Go.Proofs.Ythdbkilncddniaa.Ring
