/- The rings of a net are the classes of points that lead to each other: what the search finds, proved of the plain functions. -/
import Derived.Test.YthdbkilncddniaaRingModel
set_option linter.unusedVariables false
set_option linter.unusedSimpArgs false
namespace RingM

theorem getD_set {α : Type} (l : List α) (i : Nat) (x d : α) (j : Nat) : (l.set i x).getD j d = if i = j ∧ j < l.length then x else l.getD j d := by
  simp only [List.getD_eq_getElem?_getD, List.getElem?_set]
  by_cases h : i = j
  · subst h
    by_cases hl : i < l.length
    · simp [hl]
    · simp [hl]
  · simp [h]

theorem getD_set_ne {α : Type} {l : List α} {i : Nat} {x d : α} {j : Nat} (h : i ≠ j) : (l.set i x).getD j d = l.getD j d := by
  rw [getD_set, if_neg (fun h' => h h'.1)]
theorem getD_set_eq {α : Type} {l : List α} {i : Nat} {x d : α} (h : i < l.length) : (l.set i x).getD i d = x := by
  rw [getD_set, if_pos ⟨rfl, h⟩]

/-- one way -/
def Edge (n : Net) (a b : Nat) : Prop := b ∈ waysN n a
theorem Edge.lt {n : Net} {a b : Nat} (h : Edge n a b) : b < n.length := by
  unfold Edge waysN waysI at h
  simp only [List.mem_map, List.mem_filter, has, Bool.and_eq_true, decide_eq_true_eq] at h
  obtain ⟨k, ⟨_, h1, h2⟩, rfl⟩ := h
  omega
theorem Edge.lt' {n : Net} {a b : Nat} (h : Edge n a b) : a < n.length := by
  rcases Nat.lt_or_ge a n.length with h' | h'
  · exact h'
  · have : n.getD a [] = [] := by simp [List.getD_eq_getElem?_getD, List.getElem?_eq_none h']
    unfold Edge waysN waysI at h
    rw [this] at h
    simp at h

/-- waysN, none or some -/
inductive RP (n : Net) : Nat → Nat → Prop
  | refl (a : Nat) : RP n a a
  | step {a b c : Nat} : Edge n a b → RP n b c → RP n a c
theorem RP.trans {n : Net} {a b c : Nat} (h : RP n a b) (k : RP n b c) : RP n a c := by
  induction h with
  | refl => exact k
  | step e _ ih => exact .step e (ih k)
theorem RP.one {n : Net} {a b : Nat} (h : Edge n a b) : RP n a b := .step h (.refl _)
/-- a set that no way leaves -/
theorem RP.stays {n : Net} {P : Nat → Prop} (hP : ∀ x, P x → ∀ y, Edge n x y → P y) {a b : Nat} (h : RP n a b) (ha : P a) : P b := by
  induction h with
  | refl => exact ha
  | step e _ ih => exact ih (hP _ ha _ e)

/-- was a point met? -/
abbrev St.I (s : St) (v : Nat) : Nat := s.idx.getD v 0
abbrev St.L (s : St) (v : Nat) : Nat := s.low.getD v 0
def St.done (s : St) (v : Nat) : Prop := s.I v ≠ 0 ∧ v ∉ s.stk

structure Inv (n : Net) (G : List Nat) (s : St) : Prop where
  lenI : s.idx.length = n.length
  lenL : s.low.length = n.length
  lenO : s.opn.length = n.length
  up_met : ∀ v, s.I v ≤ s.met
  asc : s.stk.Pairwise (fun a b => s.I a < s.I b)
  met_stk : ∀ v, v ∈ s.stk → s.I v ≠ 0
  opn : ∀ v, s.opn.getD v false = true ↔ v ∈ s.stk
  gray : ∀ g, g ∈ G → g ∈ s.stk
  closed : ∀ v, s.done v → ∀ w, Edge n v w → s.done w
  black : ∀ v, s.I v ≠ 0 → v ∉ G → ∀ w, Edge n v w → s.I w ≠ 0
  up : ∀ v, v ∈ s.stk → ∃ g, g ∈ G ∧ s.I g ≤ s.I v ∧ RP n v g
  down : ∀ g, g ∈ G → ∀ v, v ∈ s.stk → s.I g ≤ s.I v → RP n g v
  out_ne : ∀ r, r ∈ s.out → r ≠ []
  out_asc : ∀ r, r ∈ s.out → r.Pairwise (· < ·)
  out_done : ∀ r, r ∈ s.out → ∀ a, a ∈ r → s.done a
  out_scc : ∀ r, r ∈ s.out → ∀ a, a ∈ r → ∀ b, b ∈ r ↔ RP n a b ∧ RP n b a
  out_all : ∀ v, s.done v → ∃ r, r ∈ s.out ∧ v ∈ r
  out_apart : s.out.Pairwise (fun r r' => ∀ a, a ∈ r → a ∉ r')

theorem Inv.lt {n : Net} {G : List Nat} {s : St} (h : Inv n G s) {v : Nat} (hv : s.I v ≠ 0) : v < n.length := by
  rcases Nat.lt_or_ge v s.idx.length with h' | h'
  · exact h.lenI ▸ h'
  · exact absurd (by simp [St.I, List.getD_eq_getElem?_getD, List.getElem?_eq_none h']) hv

/-- what a visit leaves as it was -/
structure Ext (s s' : St) (ys : List Nat) : Prop where
  met : s.met ≤ s'.met
  idx : ∀ v, s.I v ≠ 0 → s'.I v = s.I v
  low : ∀ v, s.I v ≠ 0 → s'.L v = s.L v
  stk : s'.stk = s.stk ++ ys
  fresh : ∀ y, y ∈ ys → s.I y = 0
  late : ∀ v, s.I v = 0 → s'.I v ≠ 0 → s.met < s'.I v

structure Post (n : Net) (G : List Nat) (v : Nat) (s s' : St) (ys : List Nat) : Prop where
  inv : Inv n G s'
  ext : Ext s s' ys
  met : s'.I v ≠ 0
  low1 : (ys = [] ∧ s.met < s'.L v) ∨ (∃ u, u ∈ s.stk ∧ s'.L v = s.I u ∧ RP n v u)
  low2 : ∀ y, y ∈ ys → ∀ u, u ∈ s.stk → Edge n y u → s'.L v ≤ s.I u

/-- in the loop over a point's waysN: s0 behind which the point was entered -/
structure Mid (n : Net) (G : List Nat) (v : Nat) (s0 s : St) (zs : List Nat) (todo : List Nat) : Prop where
  inv : Inv n (v :: G) s
  met : s0.met < s.met
  idx : ∀ u, s0.I u ≠ 0 → s.I u = s0.I u
  low : ∀ u, s0.I u ≠ 0 → s.L u = s0.L u
  stk : s.stk = s0.stk ++ v :: zs
  fresh : ∀ y, y ∈ zs → s0.I y = 0
  late : ∀ u, s0.I u = 0 → s.I u ≠ 0 → s0.met < s.I u
  at_ : s.I v = s0.met + 1
  le : s.L v ≤ s.I v
  low1 : s.L v = s.I v ∨ ∃ u, u ∈ s0.stk ∧ s.L v = s0.I u ∧ RP n v u
  low2 : ∀ y, y ∈ zs → ∀ u, u ∈ s0.stk → Edge n y u → s.L v ≤ s0.I u
  low3 : ∀ k, Edge n v k → k ∉ todo → s.I k ≠ 0 ∧ (k ∈ s0.stk → s.L v ≤ s0.I k)

theorem mid_enter {n : Net} {G : List Nat} {s : St} {v : Nat} (h : Inv n G s) (hv : v < n.length) (h0 : s.I v = 0) (hG : ∀ g, g ∈ G → RP n g v) :
    Mid n G v s (s.enter v) [] (waysN n v) := by
  have hI : ∀ u, (s.enter v).I u = if v = u then s.met + 1 else s.I u := by
    intro u
    simp only [St.I, St.enter, getD_set, h.lenI]
    by_cases e : v = u
    · subst e; simp [hv]
    · simp [e]
  have hL : ∀ u, (s.enter v).L u = if v = u then s.met + 1 else s.L u := by
    intro u
    simp only [St.L, St.enter, getD_set, h.lenL]
    by_cases e : v = u
    · subst e; simp [hv]
    · simp [e]
  have hvs : v ∉ s.stk := fun hm => h.met_stk v hm h0
  have hne : ∀ u, s.I u ≠ 0 → v ≠ u := fun u hu e => hu (e ▸ h0)
  have hIo : ∀ u, s.I u ≠ 0 → (s.enter v).I u = s.I u := fun u hu => by rw [hI, if_neg (hne u hu)]
  have hstk : (s.enter v).stk = s.stk ++ [v] := rfl
  have hdone : ∀ u, (s.enter v).done u ↔ s.done u := by
    intro u
    unfold St.done
    rw [hI, hstk]
    simp only [List.mem_append, List.mem_singleton, not_or]
    by_cases e : v = u
    · subst e
      constructor
      · rintro ⟨_, _, hh⟩; exact absurd rfl hh
      · rintro ⟨hh, _⟩; exact absurd h0 hh
    · rw [if_neg e]
      constructor
      · rintro ⟨a, b, _⟩; exact ⟨a, b⟩
      · rintro ⟨a, b⟩; exact ⟨a, b, fun hh => e hh.symm⟩
  refine ⟨⟨?_, ?_, ?_, ?_, ?_, ?_, ?_, ?_, ?_, ?_, ?_, ?_, h.out_ne, h.out_asc, ?_, h.out_scc, ?_, h.out_apart⟩, ?_, hIo, ?_, rfl, ?_, ?_, ?_, ?_, ?_, ?_, ?_⟩
  · simp [St.enter, h.lenI]
  · simp [St.enter, h.lenL]
  · simp [St.enter, h.lenO]
  · intro u
    rw [hI]
    show _ ≤ s.met + 1
    split
    · omega
    · have := h.up_met u; omega
  · rw [hstk, List.pairwise_append]
    refine ⟨?_, by simp, ?_⟩
    · refine List.Pairwise.imp_of_mem ?_ h.asc
      intro a b ha hb hab
      rw [hIo a (h.met_stk a ha), hIo b (h.met_stk b hb)]
      exact hab
    · intro a ha b hb
      simp only [List.mem_singleton] at hb
      subst hb
      rw [hIo a (h.met_stk a ha), hI, if_pos rfl]
      have := h.up_met a
      omega
  · intro u hu
    rw [hstk, List.mem_append, List.mem_singleton] at hu
    rcases hu with hu | rfl
    · rw [hIo u (h.met_stk u hu)]; exact h.met_stk u hu
    · rw [hI, if_pos rfl]; omega
  · intro u
    rw [hstk, List.mem_append, List.mem_singleton]
    show (s.opn.set v true).getD u false = true ↔ _
    rw [getD_set, h.lenO]
    by_cases e : v = u
    · subst e; simp [hv]
    · rw [if_neg (fun hh => e hh.1), h.opn u]
      constructor
      · exact Or.inl
      · rintro (hh | hh)
        · exact hh
        · exact absurd hh.symm e
  · intro g hg
    rw [hstk, List.mem_append, List.mem_singleton]
    rcases List.mem_cons.1 hg with rfl | hg
    · exact Or.inr rfl
    · exact Or.inl (h.gray g hg)
  · intro u hu w hw
    rw [hdone] at hu ⊢
    exact h.closed u hu w hw
  · intro u hu hnu w hw
    have e : v ≠ u := fun e => hnu (e ▸ List.mem_cons_self)
    rw [hI, if_neg e] at hu
    have := h.black u hu (fun hh => hnu (List.mem_cons_of_mem _ hh)) w hw
    rw [hIo w this]; exact this
  · intro u hu
    rw [hstk, List.mem_append, List.mem_singleton] at hu
    rcases hu with hu | rfl
    · obtain ⟨g, hg, hle, hr⟩ := h.up u hu
      refine ⟨g, List.mem_cons_of_mem _ hg, ?_, hr⟩
      rw [hIo g (h.met_stk g (h.gray g hg)), hIo u (h.met_stk u hu)]
      exact hle
    · exact ⟨u, List.mem_cons_self, Nat.le_refl _, .refl _⟩
  · intro g hg u hu hle
    rw [hstk, List.mem_append, List.mem_singleton] at hu
    rcases List.mem_cons.1 hg with rfl | hg
    · rcases hu with hu | rfl
      · rw [hI, if_pos rfl, hIo u (h.met_stk u hu)] at hle
        have := h.up_met u
        omega
      · exact .refl _
    · rcases hu with hu | hu
      · rw [hIo g (h.met_stk g (h.gray g hg)), hIo u (h.met_stk u hu)] at hle
        exact h.down g hg u hu hle
      · rw [hu]; exact hG g hg
  · intro r hr a ha
    rw [hdone]
    exact h.out_done r hr a ha
  · intro u hu
    rw [hdone] at hu
    exact h.out_all u hu
  · show s.met < s.met + 1
    omega
  · intro u hu
    rw [hL, if_neg (hne u hu)]
  · intro y hy; cases hy
  · intro u hu hu'
    rw [hI] at hu' ⊢
    split
    · omega
    · rename_i e
      rw [if_neg e] at hu'
      exact absurd hu hu'
  · rw [hI, if_pos rfl]
  · rw [hI, hL, if_pos rfl, if_pos rfl]; exact Nat.le_refl _
  · exact Or.inl (by rw [hI, hL, if_pos rfl, if_pos rfl])
  · intro y hy; cases hy
  · intro k hk hk'
    exact absurd hk hk'

/-- lowering a point's number turns nothing else -/
theorem Inv.lower {n : Net} {G : List Nat} {s : St} (h : Inv n G s) (v x : Nat) : Inv n G (s.lower v x) :=
  ⟨h.lenI, by simp [St.lower, h.lenL], h.lenO, h.up_met, h.asc, h.met_stk, h.opn, h.gray, h.closed, h.black, h.up, h.down, h.out_ne, h.out_asc, h.out_done, h.out_scc, h.out_all, h.out_apart⟩

theorem lower_L {s : St} {v x u : Nat} : (s.lower v x).L u = if v = u ∧ u < s.low.length then min (s.L v) x else s.L u := by
  simp only [St.L, St.lower, getD_set]

theorem Mid.at_stk {n : Net} {G : List Nat} {v : Nat} {s0 s : St} {zs todo : List Nat} (h : Mid n G v s0 s zs todo) : v ∈ s.stk := by
  rw [h.stk]; simp
theorem Mid.v_lt {n : Net} {G : List Nat} {v : Nat} {s0 s : St} {zs todo : List Nat} (h : Mid n G v s0 s zs todo) : v < n.length :=
  h.inv.lt (by rw [h.at_]; omega)
/-- of the points on the stack those that were met sooner lay there before -/
theorem Mid.old {n : Net} {G : List Nat} {v : Nat} {s0 s : St} {zs todo : List Nat} (h : Mid n G v s0 s zs todo) {u : Nat} (hu : u ∈ s.stk) (hlt : s.I u < s.I v) : u ∈ s0.stk := by
  have ha := h.inv.asc
  rw [h.stk, List.pairwise_append] at ha
  rw [h.stk, List.mem_append, List.mem_cons] at hu
  rcases hu with hu | rfl | hu
  · exact hu
  · omega
  · have := (List.pairwise_cons.1 ha.2.1).1 u hu
    omega
theorem Mid.old_lt {n : Net} {G : List Nat} {v : Nat} {s0 s : St} {zs todo : List Nat} (h : Mid n G v s0 s zs todo) {u : Nat} (hu : u ∈ s0.stk) : s.I u < s.I v := by
  have ha := h.inv.asc
  rw [h.stk, List.pairwise_append] at ha
  exact ha.2.2 u hu v (by simp)
theorem Mid.old_idx {n : Net} {G : List Nat} {v : Nat} {s0 s : St} {zs todo : List Nat} (h : Mid n G v s0 s zs todo) (h0 : Inv n G s0) {u : Nat} (hu : u ∈ s0.stk) : s.I u = s0.I u :=
  h.idx u (h0.met_stk u hu)

/-- a way to a point that was met -/
theorem Mid.seen {n : Net} {G : List Nat} {v : Nat} {s0 s : St} {zs todo : List Nat} {k : Nat} (h0 : Inv n G s0) (hv0 : s0.I v = 0) (h : Mid n G v s0 s zs (k :: todo)) (he : Edge n v k) (hk : s.I k ≠ 0) (hx : k ∈ s.stk) :
    Mid n G v s0 (s.lower v (s.I k)) zs todo := by
  have hvl : v < s.low.length := by rw [h.inv.lenL]; exact h.v_lt
  have hLv : (s.lower v (s.I k)).L v = min (s.L v) (s.I k) := by rw [lower_L, if_pos ⟨rfl, hvl⟩]
  have hle : (s.lower v (s.I k)).L v ≤ s.L v := by rw [hLv]; omega
  refine ⟨h.inv.lower _ _, h.met, h.idx, ?_, h.stk, h.fresh, h.late, h.at_, Nat.le_trans hle h.le, ?_, ?_, ?_⟩
  · intro u hu
    rw [lower_L, if_neg (fun (e : v = u ∧ _) => hu (e.1 ▸ hv0))]
    exact h.low u hu
  · rw [hLv]
    rcases Nat.lt_or_ge (s.I k) (s.I v) with hlt | hge
    · have hs := h.old hx hlt
      rcases Nat.lt_or_ge (s.I k) (s.L v) with h1 | h1
      · right
        exact ⟨k, hs, by rw [Nat.min_eq_right (by omega), h.idx k (h0.met_stk k hs)], .one he⟩
      · rw [Nat.min_eq_left h1]
        exact h.low1
    · rw [Nat.min_eq_left (Nat.le_trans h.le hge)]
      exact h.low1
  · intro y hy u hu hyu
    exact Nat.le_trans hle (h.low2 y hy u hu hyu)
  · intro j hj hjt
    by_cases e : j = k
    · subst e
      refine ⟨hk, fun hs => ?_⟩
      rw [hLv, ← h.idx j (h0.met_stk j hs)]
      omega
    · obtain ⟨a, b⟩ := h.low3 j hj (by simp [e, hjt])
      exact ⟨a, fun hs => Nat.le_trans hle (b hs)⟩

theorem Mid.past {n : Net} {G : List Nat} {v : Nat} {s0 s : St} {zs todo : List Nat} {k : Nat} (h : Mid n G v s0 s zs (k :: todo)) (hk : s.I k ≠ 0) (hx : k ∉ s.stk) :
    Mid n G v s0 s zs todo := by
  refine ⟨h.inv, h.met, h.idx, h.low, h.stk, h.fresh, h.late, h.at_, h.le, h.low1, h.low2, ?_⟩
  intro j hj hjt
  by_cases e : j = k
  · subst e
    exact ⟨hk, fun hs => absurd (by rw [h.stk]; simp [hs]) hx⟩
  · exact h.low3 j hj (by simp [e, hjt])

/-- behind a visit of a way's point -/
theorem Mid.visited {n : Net} {G : List Nat} {v : Nat} {s0 s s' : St} {zs todo ys : List Nat} {k : Nat} (h0 : Inv n G s0) (hv0 : s0.I v = 0) (h : Mid n G v s0 s zs (k :: todo)) (he : Edge n v k) (hk0 : s.I k = 0) (hp : Post n (v :: G) k s s' ys) :
    Mid n G v s0 (s'.lower v (s'.L k)) (zs ++ ys) todo := by
  have hsv : s.I v ≠ 0 := by rw [h.at_]; omega
  have hv' : s'.I v = s.I v := hp.ext.idx v hsv
  have hL' : s'.L v = s.L v := hp.ext.low v hsv
  have hvl : v < s'.low.length := by rw [hp.inv.lenL]; exact h.v_lt
  have hLv : (s'.lower v (s'.L k)).L v = min (s.L v) (s'.L k) := by rw [lower_L, if_pos ⟨rfl, hvl⟩, hL']
  have hle : (s'.lower v (s'.L k)).L v ≤ s.L v := by rw [hLv]; omega
  have hmono : ∀ u, s0.I u ≠ 0 → s.I u ≠ 0 := fun u hu => by rw [h.idx u hu]; exact hu
  refine ⟨hp.inv.lower _ _, Nat.lt_of_lt_of_le h.met hp.ext.met, ?_, ?_, ?_, ?_, ?_, ?_, ?_, ?_, ?_, ?_⟩
  · intro u hu
    show s'.I u = _
    rw [hp.ext.idx u (hmono u hu), h.idx u hu]
  · intro u hu
    rw [lower_L, if_neg (fun (e : v = u ∧ _) => hu (e.1 ▸ hv0)), hp.ext.low u (hmono u hu)]
    exact h.low u hu
  · show s'.stk = _
    rw [hp.ext.stk, h.stk]
    simp
  · intro y hy
    rcases List.mem_append.1 hy with hy | hy
    · exact h.fresh y hy
    · have := hp.ext.fresh y hy
      rcases Nat.eq_zero_or_pos (s0.I y) with e | e
      · exact e
      · exact absurd this (hmono y (by omega))
  · intro u hu hu'
    show s0.met < s'.I u
    rcases Nat.eq_zero_or_pos (s.I u) with e | e
    · exact Nat.lt_trans h.met (hp.ext.late u e hu')
    · rw [hp.ext.idx u (by omega)]
      exact h.late u hu (by omega)
  · show s'.I v = _
    rw [hv', h.at_]
  · show _ ≤ s'.I v
    rw [hv']
    exact Nat.le_trans hle h.le
  · show _ = s'.I v ∨ _
    rw [hLv, hv']
    rcases hp.low1 with ⟨_, hlt⟩ | ⟨u, hu, hlu, hr⟩
    · have := h.inv.up_met v
      rw [Nat.min_eq_left (by have := h.le; omega)]
      exact h.low1
    · rcases Nat.lt_or_ge (s'.L k) (s.L v) with h1 | h1
      · have hs : u ∈ s0.stk := h.old hu (by have := h.le; omega)
        right
        exact ⟨u, hs, by rw [Nat.min_eq_right (by omega), hlu, h.idx u (h0.met_stk u hs)], .step he hr⟩
      · rw [Nat.min_eq_left h1]
        exact h.low1
  · intro y hy u hu hyu
    rcases List.mem_append.1 hy with hy | hy
    · exact Nat.le_trans hle (h.low2 y hy u hu hyu)
    · have h1 := hp.low2 y hy u (by rw [h.stk]; simp [hu]) hyu
      rw [h.idx u (h0.met_stk u hu)] at h1
      rw [hLv]
      omega
  · intro j hj hjt
    show s'.I j ≠ 0 ∧ _
    by_cases e : j = k
    · subst e
      exact ⟨hp.met, fun hs => absurd hk0 (hmono j (h0.met_stk j hs))⟩
    · obtain ⟨a, b⟩ := h.low3 j hj (by simp [e, hjt])
      exact ⟨by rw [hp.ext.idx j a]; exact a, fun hs => Nat.le_trans hle (b hs)⟩

end RingM
