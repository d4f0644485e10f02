/- What the search keeps, of the plain functions: how many were met; the stack below a point stays. -/
import Derived.Test.YthdbkilncddniaaRingOrder
set_option linter.unusedVariables false
set_option linter.unusedSimpArgs false
namespace RingM

structure Wf (n : Net) (k : Nat) (s : St) : Prop where
  lenI : s.idx.length = n.length
  lenL : s.low.length = n.length
  lenO : s.opn.length = n.length
  cnt : s.met + unmet n s = n.length
  stkV : ∀ x, x ∈ s.stk → x < n.length ∧ s.I x ≠ 0
  stkLe : s.stk.length ≤ s.met
  outLe : s.out.length + k ≤ s.met

theorem Wf.met_le {n : Net} {k : Nat} {s : St} (h : Wf n k s) : s.met ≤ n.length := by have := h.cnt; omega

theorem unmet_enter_eq {n : Net} {s : St} {v : Nat} (hl : s.idx.length = n.length) (hv : v < n.length) (h0 : s.I v = 0) : unmet n (s.enter v) + 1 = unmet n s := by
  unfold unmet
  rw [← filter_erase (p := fun v => s.I v == 0) (v := v) (List.range n.length) List.nodup_range (List.mem_range.2 hv) (by rw [h0]; rfl)]
  congr 2
  refine List.filter_congr fun a _ => ?_
  show ((s.idx.set v (s.met + 1)).getD a 0 == 0) = _
  rw [getD_set]
  by_cases e : v = a
  · subst e
    rw [if_pos ⟨rfl, by rw [hl]; exact hv⟩]
    simp
  · rw [if_neg (fun (hh : v = a ∧ a < s.idx.length) => e hh.1)]
    have : (a == v) = false := by simp; exact Ne.symm e
    rw [this]
    simp [St.I]

theorem wf_enter {n : Net} {k : Nat} {s : St} {v : Nat} (h : Wf n k s) (hv : v < n.length) (h0 : s.I v = 0) : Wf n (k + 1) (s.enter v) ∧ ∀ u, s.I u ≠ 0 → (s.enter v).I u ≠ 0 := by
  have hm : ∀ u, s.I u ≠ 0 → (s.enter v).I u ≠ 0 := by
    intro u hu
    show (s.idx.set v (s.met + 1)).getD u 0 ≠ 0
    rw [getD_set]
    split
    · omega
    · exact hu
  have hvv : (s.enter v).I v ≠ 0 := by
    show (s.idx.set v (s.met + 1)).getD v 0 ≠ 0
    rw [getD_set_eq (by rw [h.lenI]; exact hv)]
    omega
  refine ⟨⟨by simp [St.enter, h.lenI], by simp [St.enter, h.lenL], by simp [St.enter, h.lenO], ?_, ?_, ?_, ?_⟩, hm⟩
  · have := unmet_enter_eq h.lenI hv h0
    have := h.cnt
    show s.met + 1 + _ = _
    omega
  · intro x hx
    rcases List.mem_append.1 hx with hx | hx
    · exact ⟨(h.stkV x hx).1, hm x (h.stkV x hx).2⟩
    · have : x = v := by simpa using hx
      subst this
      exact ⟨hv, hvv⟩
  · have := h.stkLe
    show (s.stk ++ [v]).length ≤ s.met + 1
    simp; omega
  · have := h.outLe
    show s.out.length + (k + 1) ≤ s.met + 1
    omega

theorem Wf.lower {n : Net} {k : Nat} {s : St} (h : Wf n k s) (v x : Nat) : Wf n k (s.lower v x) :=
  ⟨h.lenI, by simp [St.lower, h.lenL], h.lenO, h.cnt, h.stkV, h.stkLe, h.outLe⟩

theorem wf_close {n : Net} {k : Nat} {s : St} (h : Wf n (k + 1) s) (v : Nat) : Wf n k (s.close v) := by
  unfold St.close
  split
  · exact ⟨h.lenI, h.lenL, h.lenO, h.cnt, h.stkV, h.stkLe, by have := h.outLe; omega⟩
  · refine ⟨h.lenI, h.lenL, by simp [length_unopen, h.lenO], h.cnt, fun x hx => h.stkV x (List.mem_of_mem_take hx), ?_, ?_⟩
    · have := h.stkLe
      show (s.stk.take _).length ≤ s.met
      rw [List.length_take]; omega
    · have := h.outLe
      show (s.out ++ [_]).length + k ≤ s.met
      simp; omega

theorem close_stk {s : St} {v : Nat} {l zs : List Nat} (h : s.stk = l ++ v :: zs) (hv : v ∉ l) : ∃ ys, (s.close v).stk = l ++ ys := by
  unfold St.close
  split
  · exact ⟨_, h⟩
  · refine ⟨[], ?_⟩
    show s.stk.take _ = _
    rw [h, idxOf_split hv]
    simp

theorem wf_visit {n : Net} (f : Nat) : ∀ (k v : Nat) (s s' : St), Wf n k s → v < n.length → s.I v = 0 → visit n f v s = some s' →
    Wf n k s' ∧ (∃ ys, s'.stk = s.stk ++ ys) ∧ ∀ u, s.I u ≠ 0 → s'.I u ≠ 0 := by
  induction f with
  | zero => intro _ _ _ _ _ _ _ h; simp [visit] at h
  | succ f ih =>
    intro k v s0 s' h hv h0 hr
    obtain ⟨he, hme⟩ := wf_enter h hv h0
    unfold visit at hr
    rw [Option.map_eq_some_iff] at hr
    obtain ⟨s1, hr, rfl⟩ := hr
    have loop : ∀ (r : List Nat) (s s1 : St) (zs : List Nat), (∀ k, k ∈ r → k < n.length) → Wf n (k + 1) s → s.stk = s0.stk ++ v :: zs → each (visit n f) v r s = some s1 →
        Wf n (k + 1) s1 ∧ (∃ zs, s1.stk = s0.stk ++ v :: zs) ∧ ∀ u, s.I u ≠ 0 → s1.I u ≠ 0 := by
      intro r
      induction r with
      | nil => intro s s1 zs _ hw hs hr; simp only [each, Option.some.injEq] at hr; subst hr; exact ⟨hw, ⟨zs, hs⟩, fun _ h => h⟩
      | cons x r ihr =>
        intro s s1 zs hx hw hs hr
        have hx' : ∀ k, k ∈ r → k < n.length := fun k hk => hx k (by simp [hk])
        unfold each at hr
        by_cases hx0 : s.idx.getD x 0 = 0
        · rw [if_pos hx0, Option.bind_eq_some_iff] at hr
          obtain ⟨s2, h2, hr⟩ := hr
          obtain ⟨a, ⟨ys, b⟩, c⟩ := ih (k + 1) x s s2 hw (hx x (by simp)) hx0 h2
          obtain ⟨a', b', c'⟩ := ihr _ s1 (zs ++ ys) hx' (a.lower _ _) (by show s2.stk = _; rw [b, hs]; simp) hr
          exact ⟨a', b', fun u hu => c' u (c u hu)⟩
        · rw [if_neg hx0] at hr
          by_cases ho : s.opn.getD x false = true
          · rw [if_pos ho] at hr
            exact ihr (s.lower v (s.idx.getD x 0)) s1 zs hx' (hw.lower _ _) hs hr
          · rw [if_neg ho] at hr
            exact ihr _ s1 zs hx' hw hs hr
    obtain ⟨a, ⟨zs, b⟩, c⟩ := loop (waysN n v) (s0.enter v) s1 [] (fun k hk => Edge.lt (n := n) (a := v) hk) he rfl hr
    have hvs : v ∉ s0.stk := fun hh => (h.stkV v hh).2 h0
    refine ⟨wf_close a v, close_stk b hvs, fun u hu => ?_⟩
    have := c u (hme u hu)
    unfold St.close
    split
    · exact this
    · exact this

theorem wf_start (n : Net) : Wf n 0 (start n) := by
  refine ⟨by simp [start], by simp [start], by simp [start], ?_, by simp [start], by simp [start], by simp [start]⟩
  unfold unmet
  have : (List.range n.length).filter (fun v => (start n).I v == 0) = List.range n.length := by
    rw [List.filter_eq_self]
    intro a _
    simp only [St.I, start, List.getD_eq_getElem?_getD, List.getElem?_replicate]
    split <;> rfl
  rw [this]
  simp [start]
end RingM
