/- The rings of a net, on: a point is closed; the whole search. -/
import Derived.Test.YthdbkilncddniaaRingTarjan
set_option linter.unusedVariables false
set_option linter.unusedSimpArgs false
namespace RingM

theorem mem_insertN {x a : Nat} {l : List Nat} : a ∈ insertN x l ↔ a = x ∨ a ∈ l := by
  induction l with
  | nil => simp [insertN]
  | cons y r ih =>
    unfold insertN
    split
    · simp
    · simp only [List.mem_cons, ih]
      constructor
      · rintro (h | h | h)
        · exact .inr (.inl h)
        · exact .inl h
        · exact .inr (.inr h)
      · rintro (h | h | h)
        · exact .inr (.inl h)
        · exact .inl h
        · exact .inr (.inr h)
theorem mem_sortN {a : Nat} {l : List Nat} : a ∈ sortN l ↔ a ∈ l := by
  induction l with
  | nil => simp [sortN]
  | cons y r ih => rw [sortN, mem_insertN, ih, List.mem_cons]
theorem asc_insertN {x : Nat} {l : List Nat} (hl : l.Pairwise (· < ·)) (hx : x ∉ l) : (insertN x l).Pairwise (· < ·) := by
  induction l with
  | nil => simp [insertN]
  | cons y r ih =>
    obtain ⟨hy, hr⟩ := List.pairwise_cons.1 hl
    have hxy : x ≠ y := fun e => hx (by simp [e])
    have hxr : x ∉ r := fun e => hx (by simp [e])
    unfold insertN
    split
    · refine List.pairwise_cons.2 ⟨?_, hl⟩
      intro a ha
      rcases List.mem_cons.1 ha with rfl | ha
      · omega
      · have := hy a ha; omega
    · refine List.pairwise_cons.2 ⟨?_, ih hr hxr⟩
      intro a ha
      rcases mem_insertN.1 ha with rfl | ha
      · omega
      · exact hy a ha
theorem asc_sortN {l : List Nat} (hl : l.Nodup) : (sortN l).Pairwise (· < ·) := by
  induction l with
  | nil => simp [sortN]
  | cons y r ih =>
    obtain ⟨hy, hr⟩ := List.nodup_cons.1 hl
    exact asc_insertN (ih hr) (fun h => hy (mem_sortN.1 h))

theorem getD_unopen (r : List Nat) (o : List Bool) (v : Nat) : (unopen o r).getD v false = if v ∈ r then false else o.getD v false := by
  unfold unopen
  induction r generalizing o with
  | nil => simp
  | cons k r ih =>
    rw [List.foldl_cons, ih, getD_set]
    by_cases h : v ∈ r
    · simp [h]
    · by_cases e : k = v
      · subst e
        rw [if_neg h, if_pos (show k ∈ k :: r by simp)]
        by_cases hl : k < o.length
        · rw [if_pos ⟨rfl, hl⟩]
        · rw [if_neg (fun (hh : k = k ∧ k < o.length) => hl hh.2), List.getD_eq_getElem?_getD, List.getElem?_eq_none (Nat.le_of_not_lt hl)]
          rfl
      · rw [if_neg h, if_neg (fun hh => e hh.1), if_neg (by simp [h, Ne.symm e])]
theorem length_unopen (r : List Nat) (o : List Bool) : (unopen o r).length = o.length := by
  unfold unopen
  induction r generalizing o with
  | nil => rfl
  | cons k r ih => rw [List.foldl_cons, ih, List.length_set]

theorem idxOf_split {α : Type} [BEq α] [LawfulBEq α] {l r : List α} {v : α} (h : v ∉ l) : (l ++ v :: r).idxOf v = l.length := by
  induction l with
  | nil => simp
  | cons x l ih =>
    have hx : (x == v) = false := by simp; exact fun e => h (by simp [e])
    rw [List.cons_append, List.idxOf_cons, hx]
    simp [ih (fun hh => h (by simp [hh]))]

theorem Inv.nodup {n : Net} {G : List Nat} {s : St} (h : Inv n G s) : s.stk.Nodup :=
  h.asc.imp fun hab e => by subst e; exact Nat.lt_irrefl _ hab

theorem mid_close {n : Net} {G : List Nat} {v : Nat} {s0 s : St} {zs : List Nat} (h0 : Inv n G s0) (hv0 : s0.I v = 0) (h : Mid n G v s0 s zs []) :
    ∃ ys, Post n G v s0 (s.close v) ys := by
  have hall : ∀ k, Edge n v k → s.I k ≠ 0 ∧ (k ∈ s0.stk → s.L v ≤ s0.I k) := fun k hk => h.low3 k hk (by simp)
  have hsv : s.I v ≠ 0 := by rw [h.at_]; omega
  have hI0 : ∀ u, u ∈ s0.stk → s.I u = s0.I u := fun u hu => h.old_idx h0 hu
  have hGs : ∀ g, g ∈ G → g ∈ s0.stk := h0.gray
  have hvG : v ∉ G := fun hg => h0.met_stk v (hGs v hg) hv0
  unfold St.close
  by_cases hc : s.low.getD v 0 ≠ s.idx.getD v 0
  · -- it stays on the stack
    rw [if_pos hc]
    have hlt : s.L v < s.I v := by have := h.le; simp only [St.L, St.I] at this hc ⊢; omega
    obtain ⟨u, hu, hlu, hru⟩ : ∃ u, u ∈ s0.stk ∧ s.L v = s0.I u ∧ RP n v u := by
      rcases h.low1 with e | e
      · omega
      · exact e
    refine ⟨v :: zs, ⟨⟨h.inv.lenI, h.inv.lenL, h.inv.lenO, h.inv.up_met, h.inv.asc, h.inv.met_stk, h.inv.opn, fun g hg => h.inv.gray g (List.mem_cons_of_mem _ hg), h.inv.closed, ?_, ?_, fun g hg => h.inv.down g (List.mem_cons_of_mem _ hg), h.inv.out_ne, h.inv.out_asc, h.inv.out_done, h.inv.out_scc, h.inv.out_all, h.inv.out_apart⟩, ⟨Nat.le_of_lt h.met, h.idx, h.low, h.stk, ?_, h.late⟩, hsv, .inr ⟨u, hu, hlu, hru⟩, ?_⟩⟩
    · intro a ha haG w hw
      by_cases e : a = v
      · subst e; exact (hall w hw).1
      · exact h.inv.black a ha (by simp [e, haG]) w hw
    · intro a ha
      obtain ⟨g, hg, hle, hr⟩ := h.inv.up a ha
      rcases List.mem_cons.1 hg with e | hg
      · subst e
        obtain ⟨g', hg', hle', hr'⟩ := h0.up u hu
        refine ⟨g', hg', ?_, hr.trans (hru.trans hr')⟩
        rw [hI0 g' (hGs g' hg')]
        omega
      · exact ⟨g, hg, hle, hr⟩
    · intro y hy
      rcases List.mem_cons.1 hy with e | hy
      · rw [e]; exact hv0
      · exact h.fresh y hy
    · intro y hy a ha hya
      rcases List.mem_cons.1 hy with e | hy
      · subst e; exact (hall a hya).2 ha
      · exact h.low2 y hy a ha hya
  · -- it is closed: it, and what stands behind it on the stack, is a ring
    rw [if_neg hc]
    have heq : s.L v = s.I v := by simp only [St.L, St.I] at hc ⊢; omega
    have hnd := h.inv.nodup
    have hv_old : v ∉ s0.stk := fun hm => h0.met_stk v hm hv0
    have hidx : s.stk.idxOf v = s0.stk.length := by rw [h.stk]; exact idxOf_split hv_old
    have hdrop : s.stk.drop (s.stk.idxOf v) = v :: zs := by rw [hidx, h.stk]; simp
    have htake : s.stk.take (s.stk.idxOf v) = s0.stk := by rw [hidx, h.stk]; simp
    rw [hdrop, htake]
    have happ : ∀ a, a ∈ v :: zs → a ∉ s0.stk := by
      intro a ha hb
      rw [h.stk] at hnd
      exact (List.nodup_append.1 hnd).2.2 a hb a ha rfl
    have hmem : ∀ a, a ∈ s.stk ↔ a ∈ s0.stk ∨ a ∈ v :: zs := fun a => by rw [h.stk, List.mem_append]
    have hge : ∀ a, a ∈ v :: zs → s.I v ≤ s.I a := by
      intro a ha
      have h1 := h.inv.asc
      rw [h.stk, List.pairwise_append] at h1
      rcases List.mem_cons.1 ha with e | ha
      · rw [e]; exact Nat.le_refl _
      · exact Nat.le_of_lt ((List.pairwise_cons.1 h1.2.1).1 a ha)
    have hringmet : ∀ a, a ∈ v :: zs → s.I a ≠ 0 := fun a ha => h.inv.met_stk a ((hmem a).2 (.inr ha))
    -- a way of the ring leads into it, or to what is done
    have hway : ∀ a, a ∈ v :: zs → ∀ w, Edge n a w → w ∈ v :: zs ∨ s.done w := by
      intro a ha w hw
      have hw0 : s.I w ≠ 0 := by
        rcases List.mem_cons.1 ha with e | ha'
        · subst e; exact (hall w hw).1
        · refine h.inv.black a (hringmet a ha) ?_ w hw
          intro hg
          rcases List.mem_cons.1 hg with e | hg
          · subst e
            rw [h.stk] at hnd
            exact (List.nodup_cons.1 (List.nodup_append.1 hnd).2.1).1 ha'
          · exact happ a ha (hGs a hg)
      by_cases hws : w ∈ s.stk
      · rcases (hmem w).1 hws with hold | hin
        · exfalso
          have hlow : s.L v ≤ s0.I w := by
            rcases List.mem_cons.1 ha with e | ha'
            · subst e; exact (hall w hw).2 hold
            · exact h.low2 a ha' w hold hw
          have := h.old_lt hold
          rw [hI0 w hold] at this
          omega
        · exact .inl hin
      · exact .inr ⟨hw0, hws⟩
    have hstays : ∀ x, (x ∈ v :: zs ∨ s.done x) → ∀ y, Edge n x y → (y ∈ v :: zs ∨ s.done y) := by
      intro x hx y hxy
      rcases hx with hx | hx
      · exact hway x hx y hxy
      · exact .inr (h.inv.closed x hx y hxy)
    have hto : ∀ a, a ∈ v :: zs → RP n a v := by
      intro a ha
      obtain ⟨g, hg, hle, hr⟩ := h.inv.up a ((hmem a).2 (.inr ha))
      rcases List.mem_cons.1 hg with e | hg
      · rw [e] at hr; exact hr
      · exfalso
        rcases hr.stays hstays (.inl ha) with hin | hdn
        · exact happ g hin (hGs g hg)
        · exact hdn.2 ((hmem g).2 (.inl (hGs g hg)))
    have hfrom : ∀ a, a ∈ v :: zs → RP n v a := fun a ha => h.inv.down v List.mem_cons_self a ((hmem a).2 (.inr ha)) (hge a ha)
    have hdone' : ∀ a, (s.I a ≠ 0 ∧ a ∉ s0.stk) ↔ (s.done a ∨ a ∈ v :: zs) := by
      intro a
      unfold St.done
      rw [hmem]
      constructor
      · rintro ⟨h1, h2⟩
        by_cases h3 : a ∈ v :: zs
        · exact .inr h3
        · exact .inl ⟨h1, fun hh => hh.elim h2 h3⟩
      · rintro (⟨h1, h2⟩ | h3)
        · exact ⟨h1, fun hh => h2 (.inl hh)⟩
        · exact ⟨hringmet a h3, happ a h3⟩
    have hzn : (v :: zs).Nodup := by rw [h.stk] at hnd; exact (List.nodup_append.1 hnd).2.1
    refine ⟨[], ⟨⟨h.inv.lenI, h.inv.lenL, ?_, h.inv.up_met, ?_, ?_, ?_, hGs, ?_, ?_, ?_, ?_, ?_, ?_, ?_, ?_, ?_, ?_⟩, ⟨Nat.le_of_lt h.met, h.idx, h.low, by simp, by simp, h.late⟩, hsv, .inl ⟨rfl, ?_⟩, by simp⟩⟩
    · show (unopen _ _).length = _
      rw [length_unopen]; exact h.inv.lenO
    · have h1 := h.inv.asc
      rw [h.stk, List.pairwise_append] at h1
      exact h1.1
    · intro a ha
      exact h.inv.met_stk a ((hmem a).2 (.inl ha))
    · intro a
      show (unopen _ _).getD a false = true ↔ a ∈ s0.stk
      rw [getD_unopen]
      by_cases ha : a ∈ v :: zs
      · rw [if_pos ha]
        constructor
        · intro hh; cases hh
        · intro hh; exact absurd hh (happ a ha)
      · rw [if_neg ha, h.inv.opn, hmem]
        constructor
        · rintro (hh | hh)
          · exact hh
          · exact absurd hh ha
        · exact Or.inl
    · intro a ha w hw
      have ha' := (hdone' a).1 ha
      exact (hdone' w).2 (Or.symm (hstays a (Or.symm ha') w hw))
    · intro a ha haG w hw
      by_cases e : a = v
      · subst e; exact (hall w hw).1
      · exact h.inv.black a ha (by simp [e, haG]) w hw
    · intro a ha
      obtain ⟨g, hg, hle, hr⟩ := h0.up a ha
      exact ⟨g, hg, by show s.I g ≤ s.I a; rw [hI0 g (hGs g hg), hI0 a ha]; exact hle, hr⟩
    · intro g hg a ha hle
      change s.I g ≤ s.I a at hle
      rw [hI0 g (hGs g hg), hI0 a ha] at hle
      exact h0.down g hg a ha hle
    · intro r hr
      rcases List.mem_append.1 hr with hr | hr
      · exact h.inv.out_ne r hr
      · rw [List.mem_singleton.1 hr]
        intro e
        have : v ∈ sortN (v :: zs) := mem_sortN.2 (by simp)
        rw [e] at this
        cases this
    · intro r hr
      rcases List.mem_append.1 hr with hr | hr
      · exact h.inv.out_asc r hr
      · rw [List.mem_singleton.1 hr]
        exact asc_sortN hzn
    · intro r hr a ha
      show s.I a ≠ 0 ∧ a ∉ s0.stk
      rw [hdone']
      rcases List.mem_append.1 hr with hr | hr
      · exact .inl (h.inv.out_done r hr a ha)
      · rw [List.mem_singleton.1 hr, mem_sortN] at ha
        exact .inr ha
    · intro r hr a ha b
      rcases List.mem_append.1 hr with hr | hr
      · exact h.inv.out_scc r hr a ha b
      · rw [List.mem_singleton.1 hr] at ha ⊢
        rw [mem_sortN] at ha ⊢
        constructor
        · intro hb
          exact ⟨(hto a ha).trans (hfrom b hb), (hto b hb).trans (hfrom a ha)⟩
        · rintro ⟨h1, h2⟩
          rcases h1.stays hstays (.inl ha) with hb | hb
          · exact hb
          · exfalso
            have : s.done a := h2.stays h.inv.closed hb
            exact this.2 ((hmem a).2 (.inr ha))
    · intro a ha
      rcases (hdone' a).1 ha with hd | hin
      · obtain ⟨r, hr, har⟩ := h.inv.out_all a hd
        exact ⟨r, List.mem_append.2 (.inl hr), har⟩
      · exact ⟨_, List.mem_append.2 (.inr (List.mem_singleton.2 rfl)), mem_sortN.2 hin⟩
    · show (s.out ++ _).Pairwise _
      rw [List.pairwise_append]
      refine ⟨h.inv.out_apart, by simp, ?_⟩
      intro r hr r' hr' a ha ha'
      rw [List.mem_singleton.1 hr', mem_sortN] at ha'
      exact (h.inv.out_done r hr a ha).2 ((hmem a).2 (.inr ha'))
    · show s0.met < s.L v
      rw [heq, h.at_]
      omega

/-- points that weren't met -/
def unmet (n : Net) (s : St) : Nat := ((List.range n.length).filter fun v => s.I v == 0).length

theorem filter_le {α : Type} {p q : α → Bool} {l : List α} (h : ∀ a, a ∈ l → p a = true → q a = true) : (l.filter p).length ≤ (l.filter q).length := by
  induction l with
  | nil => simp
  | cons x l ih =>
    have ih := ih (fun a ha => h a (by simp [ha]))
    simp only [List.filter_cons]
    have hx := h x (by simp)
    cases hp : p x with
    | false =>
      cases q x with
      | false => simpa using ih
      | true => simp; omega
    | true => simp [hx hp]; omega
theorem filter_lt {α : Type} {p q : α → Bool} {l : List α} (h : ∀ a, a ∈ l → p a = true → q a = true) {x : α} (hx : x ∈ l) (hp : p x = false) (hq : q x = true) : (l.filter p).length < (l.filter q).length := by
  induction l with
  | nil => cases hx
  | cons y l ih =>
    have hle := filter_le (p := p) (q := q) (l := l) (fun a ha => h a (by simp [ha]))
    simp only [List.filter_cons]
    rcases List.mem_cons.1 hx with e | hx
    · subst e
      simp [hp, hq]
      omega
    · have ih := ih (fun a ha => h a (by simp [ha])) hx
      have hy := h y (by simp)
      cases hpy : p y with
      | false =>
        cases q y with
        | false => simpa using ih
        | true => simp; omega
      | true => simp [hy hpy]; omega

theorem unmet_enter {n : Net} {s : St} {v : Nat} (hl : s.idx.length = n.length) (hv : v < n.length) (h0 : s.I v = 0) : unmet n (s.enter v) < unmet n s := by
  unfold unmet
  refine filter_lt (x := v) ?_ (List.mem_range.2 hv) ?_ (by rw [h0]; rfl)
  · intro a ha hp
    simp only [beq_iff_eq] at hp ⊢
    simp only [St.I, St.enter, getD_set] at hp
    split at hp
    · omega
    · exact hp
  · simp only [St.I, St.enter, getD_set, hl, hv]
    simp
theorem unmet_ext {n : Net} {s s' : St} (h : ∀ v, s.I v ≠ 0 → s'.I v ≠ 0) : unmet n s' ≤ unmet n s := by
  unfold unmet
  refine filter_le fun a _ hp => ?_
  simp only [beq_iff_eq] at hp ⊢
  rcases Nat.eq_zero_or_pos (s.I a) with e | e
  · exact e
  · exact absurd hp (h a (by omega))

/-- a visit, with rounds enough -/
theorem visit_post {n : Net} (f : Nat) : ∀ (G : List Nat) (v : Nat) (s : St), Inv n G s → v < n.length → s.I v = 0 → (∀ g, g ∈ G → RP n g v) → unmet n s < f →
    ∃ s' ys, visit n f v s = some s' ∧ Post n G v s s' ys := by
  induction f with
  | zero => intro _ _ _ _ _ _ _ h; omega
  | succ f ih =>
    intro G v s0 h0 hv hv0 hG hf
    have hu := unmet_enter h0.lenI hv hv0
    -- the loop
    have loop : ∀ (r : List Nat) (s : St) (zs : List Nat), (∀ k, k ∈ r → Edge n v k) → Mid n G v s0 s zs r → unmet n s ≤ unmet n (s0.enter v) →
        ∃ s' zs', each (visit n f) v r s = some s' ∧ Mid n G v s0 s' zs' [] := by
      intro r
      induction r with
      | nil => intro s zs _ hm _; exact ⟨s, zs, rfl, hm⟩
      | cons k r ihr =>
        intro s zs hr hm hun
        have hk := hr k (by simp)
        have hr' : ∀ k, k ∈ r → Edge n v k := fun k hk => hr k (by simp [hk])
        unfold each
        by_cases hk0 : s.idx.getD k 0 = 0
        · rw [if_pos hk0]
          obtain ⟨s1, ys, e1, hp⟩ := ih (v :: G) k s hm.inv hk.lt hk0 (by
            intro g hg
            rcases List.mem_cons.1 hg with e | hg
            · rw [e]; exact .one hk
            · refine RP.trans ?_ (.one hk)
              refine hm.inv.down g (List.mem_cons_of_mem _ hg) v hm.at_stk ?_
              exact Nat.le_of_lt (hm.old_lt (h0.gray g hg))) (by omega)
          rw [e1]
          simp only [Option.bind_some]
          refine ihr _ _ hr' (Mid.visited h0 hv0 hm hk hk0 hp) (Nat.le_trans (unmet_ext (s' := s1) fun u hu => by rw [hp.ext.idx u hu]; exact hu) hun)
        · rw [if_neg hk0]
          by_cases ho : s.opn.getD k false = true
          · rw [if_pos ho]
            exact ihr _ _ hr' (Mid.seen h0 hv0 hm hk hk0 ((hm.inv.opn k).1 ho)) hun
          · rw [if_neg ho]
            exact ihr _ _ hr' (Mid.past hm hk0 fun hh => ho ((hm.inv.opn k).2 hh)) hun
    obtain ⟨s1, zs, e1, hm⟩ := loop (waysN n v) (s0.enter v) [] (fun k hk => hk) (mid_enter h0 hv hv0 hG) (Nat.le_refl _)
    obtain ⟨ys, hp⟩ := mid_close h0 hv0 hm
    exact ⟨_, ys, by unfold visit; rw [e1]; rfl, hp⟩

theorem inv_start (n : Net) : Inv n [] (start n) := by
  have hI : ∀ v, (start n).I v = 0 := by
    intro v
    simp only [St.I, start, List.getD_eq_getElem?_getD, List.getElem?_replicate]
    split <;> rfl
  have hd : ∀ v, ¬ (start n).done v := fun v h => h.1 (hI v)
  refine ⟨by simp [start], by simp [start], by simp [start], fun v => by rw [hI]; exact Nat.zero_le _, by simp [start], by simp [start], ?_, by simp, fun v h => absurd h (hd v), fun v h => absurd (hI v) h, by simp [start], by simp, by simp [start], by simp [start], by simp [start], by simp [start], fun v h => absurd h (hd v), by simp [start]⟩
  intro v
  simp only [start, List.getD_eq_getElem?_getD, List.getElem?_replicate]
  split <;> simp

theorem visits_post {n : Net} : ∀ (r : List Nat) (s : St), Inv n [] s → (∀ v, v ∈ r → v < n.length) →
    ∃ s', visits n (n.length + 1) r s = some s' ∧ Inv n [] s' ∧ (∀ v, s.I v ≠ 0 → s'.I v ≠ 0) ∧ ∀ v, v ∈ r → s'.I v ≠ 0 := by
  intro r
  induction r with
  | nil => intro s h _; exact ⟨s, rfl, h, fun _ h => h, by simp⟩
  | cons v r ih =>
    intro s h hr
    have hr' : ∀ v, v ∈ r → v < n.length := fun v hv => hr v (by simp [hv])
    unfold visits
    by_cases h0 : s.idx.getD v 0 = 0
    · rw [if_pos h0]
      obtain ⟨s1, ys, e1, hp⟩ := visit_post (n.length + 1) [] v s h (hr v (by simp)) h0 (by simp) (by
        unfold unmet
        have := List.length_filter_le (fun v => s.I v == 0) (List.range n.length)
        rw [List.length_range] at this
        omega)
      obtain ⟨s2, e2, h2, hm2, ha2⟩ := ih s1 hp.inv hr'
      rw [e1]
      refine ⟨s2, e2, h2, fun u hu => hm2 u (by rw [hp.ext.idx u hu]; exact hu), ?_⟩
      intro u hu
      rcases List.mem_cons.1 hu with e | hu
      · rw [e]; exact hm2 v hp.met
      · exact ha2 u hu
    · rw [if_neg h0]
      obtain ⟨s2, e2, h2, hm2, ha2⟩ := ih s h hr'
      refine ⟨s2, e2, h2, hm2, ?_⟩
      intro u hu
      rcases List.mem_cons.1 hu with e | hu
      · rw [e]; exact hm2 v h0
      · exact ha2 u hu

/-! rings sorted by their least points -/
theorem mem_insertL {x a : List Nat} {l : List (List Nat)} : a ∈ insertL x l ↔ a = x ∨ a ∈ l := by
  induction l with
  | nil => simp [insertL]
  | cons y r ih =>
    unfold insertL
    split
    · simp
    · simp only [List.mem_cons, ih]
      constructor
      · rintro (h | h | h)
        · exact .inr (.inl h)
        · exact .inl h
        · exact .inr (.inr h)
      · rintro (h | h | h)
        · exact .inr (.inl h)
        · exact .inl h
        · exact .inr (.inr h)
theorem mem_sortL {a : List Nat} {l : List (List Nat)} : a ∈ sortL l ↔ a ∈ l := by
  induction l with
  | nil => simp [sortL]
  | cons y r ih => rw [sortL, mem_insertL, ih, List.mem_cons]
theorem asc_insertL {x : List Nat} {l : List (List Nat)} (hl : l.Pairwise (fun a b => a.headD 0 < b.headD 0)) (hx : ∀ a, a ∈ l → a.headD 0 ≠ x.headD 0) : (insertL x l).Pairwise (fun a b => a.headD 0 < b.headD 0) := by
  induction l with
  | nil => simp [insertL]
  | cons y r ih =>
    obtain ⟨hy, hr⟩ := List.pairwise_cons.1 hl
    have hxy := hx y (by simp)
    have hxr : ∀ a, a ∈ r → a.headD 0 ≠ x.headD 0 := fun a ha => hx a (by simp [ha])
    unfold insertL
    split
    · refine List.pairwise_cons.2 ⟨?_, hl⟩
      intro a ha
      rcases List.mem_cons.1 ha with rfl | ha
      · omega
      · have := hy a ha; omega
    · refine List.pairwise_cons.2 ⟨?_, ih hr hxr⟩
      intro a ha
      rcases mem_insertL.1 ha with rfl | ha
      · omega
      · exact hy a ha
theorem asc_sortL {l : List (List Nat)} (hl : l.Pairwise (fun a b => a.headD 0 ≠ b.headD 0)) : (sortL l).Pairwise (fun a b => a.headD 0 < b.headD 0) := by
  induction l with
  | nil => simp [sortL]
  | cons y r ih =>
    obtain ⟨hy, hr⟩ := List.pairwise_cons.1 hl
    exact asc_insertL (ih hr) (fun a ha => Ne.symm (hy a (mem_sortL.1 ha)))

theorem headD_mem {r : List Nat} (h : r ≠ []) : r.headD 0 ∈ r := by
  cases r with
  | nil => exact absurd rfl h
  | cons x r => simp

/-- WHAT Rings TELLS -/
structure Told (n : Net) (l : List (List Nat)) : Prop where
  ne : ∀ r, r ∈ l → r ≠ []
  asc : ∀ r, r ∈ l → r.Pairwise (· < ·)
  lt : ∀ r, r ∈ l → ∀ a, a ∈ r → a < n.length
  scc : ∀ r, r ∈ l → ∀ a, a ∈ r → ∀ b, b ∈ r ↔ RP n a b ∧ RP n b a
  all : ∀ v, v < n.length → ∃ r, r ∈ l ∧ v ∈ r
  heads : l.Pairwise (fun a b => a.headD 0 < b.headD 0)

/-- what the search finds, ahead of the last sort -/
theorem raw_told (n : Net) : ∃ l, ringsRaw n (n.length + 1) = some l ∧ (∀ r, r ∈ l → r ≠ []) ∧ l.Pairwise (fun a b => a.headD 0 ≠ b.headD 0) ∧ Told n (sortL l) := by
  obtain ⟨s, e, h, _, hall⟩ := visits_post (n := n) (List.range n.length) (start n) (inv_start n) (fun v hv => List.mem_range.1 hv)
  have hne : s.out.Pairwise (fun a b => a.headD 0 ≠ b.headD 0) := by
    refine List.Pairwise.imp_of_mem ?_ h.out_apart
    intro a b ha hb hab e
    exact hab _ (headD_mem (h.out_ne a ha)) (e ▸ headD_mem (h.out_ne b hb))
  have hstk : ∀ v, v ∉ s.stk := by
    intro v hv
    obtain ⟨g, hg, _⟩ := h.up v hv
    cases hg
  refine ⟨s.out, by unfold ringsRaw; rw [e]; rfl, h.out_ne, hne, ⟨?_, ?_, ?_, ?_, ?_, asc_sortL hne⟩⟩
  · intro r hr; exact h.out_ne r (mem_sortL.1 hr)
  · intro r hr; exact h.out_asc r (mem_sortL.1 hr)
  · intro r hr a ha; exact h.lt (h.out_done r (mem_sortL.1 hr) a ha).1
  · intro r hr; exact h.out_scc r (mem_sortL.1 hr)
  · intro v hv
    obtain ⟨r, hr, hvr⟩ := h.out_all v ⟨hall v (List.mem_range.2 hv), hstk v⟩
    exact ⟨r, mem_sortL.2 hr, hvr⟩

theorem rings_told (n : Net) : Told n (rings n) := by
  obtain ⟨l, e, _, _, h⟩ := raw_told n
  unfold rings
  rw [e]
  exact h

end RingM
