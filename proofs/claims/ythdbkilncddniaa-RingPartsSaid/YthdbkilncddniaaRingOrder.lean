/- The net the other way round; points in order; the longest chain: proved of the plain functions. -/
import Derived.Test.YthdbkilncddniaaRingReach
set_option linter.unusedVariables false
set_option linter.unusedSimpArgs false
namespace RingM

/-! ### Turn -/
def preds (n : Net) (k m : Nat) : List Nat := (List.range m).filter fun u => (waysN n u).contains k
theorem mem_preds {n : Net} {k m u : Nat} : u ∈ preds n k m ↔ u < m ∧ Edge n u k := by
  unfold preds Edge
  rw [List.mem_filter, List.mem_range, List.contains_iff_mem]
theorem asc_preds (n : Net) (k m : Nat) : (preds n k m).Pairwise (· < ·) := List.Pairwise.filter _ List.pairwise_lt_range

def cast (l : List Nat) : List Int := l.map fun k : Nat => (k : Int)
theorem mem_cast {l : List Nat} {v : Nat} : (v : Int) ∈ cast l ↔ v ∈ l := by
  unfold cast
  rw [List.mem_map]
  constructor
  · rintro ⟨k, hk, e⟩
    have : k = v := by omega
    exact this ▸ hk
  · exact fun h => ⟨v, h, rfl⟩

theorem turnRow_spec (v : Nat) (base : Nat → List Int) (hb : ∀ k, (v : Int) ∉ base k) (N : Nat) : ∀ (ks done : List Nat) (out : Net), out.length = N → (∀ k, k ∈ ks → k < N) →
    (∀ k, k < N → out.getD k [] = base k ++ if k ∈ done then [(v : Int)] else []) →
    (turnRow v ks out).length = N ∧ ∀ k, k < N → (turnRow v ks out).getD k [] = base k ++ if k ∈ done ∨ k ∈ ks then [(v : Int)] else [] := by
  intro ks
  induction ks with
  | nil => intro done out hl _ h; exact ⟨hl, fun k hk => by rw [turnRow, h k hk]; simp⟩
  | cons k ks ih =>
    intro done out hl hks h
    have hk := hks k (by simp)
    have hks' : ∀ k, k ∈ ks → k < N := fun k hk => hks k (by simp [hk])
    unfold turnRow
    by_cases hd : k ∈ done
    · have hc : (out.getD k []).contains (v : Int) = true := by rw [h k hk, if_pos hd]; simp
      rw [if_pos hc]
      obtain ⟨a, b⟩ := ih done out hl hks' h
      refine ⟨a, fun j hj => ?_⟩
      rw [b j hj]
      by_cases e : j = k
      · subst e; simp [hd]
      · simp [e]
    · have hc : (out.getD k []).contains (v : Int) = false := by
        rw [h k hk, if_neg hd, List.append_nil]
        rw [← Bool.not_eq_true, List.contains_iff_mem]
        exact hb k
      rw [hc]
      simp only [Bool.false_eq_true, if_false]
      obtain ⟨a, b⟩ := ih (k :: done) (out.set k (out.getD k [] ++ [(v : Int)])) (by simp [hl]) hks' (by
        intro j hj
        rw [getD_set, hl]
        by_cases e : k = j
        · subst e
          rw [if_pos ⟨rfl, hk⟩, h k hk, if_neg hd]
          simp
        · rw [if_neg (fun (hh : k = j ∧ j < N) => e hh.1), h j hj]
          simp [Ne.symm e])
      refine ⟨a, fun j hj => ?_⟩
      rw [b j hj]
      congr 2
      simp only [List.mem_cons, eq_iff_iff]
      constructor
      · rintro ((h | h) | h)
        · exact .inr (.inl h)
        · exact .inl h
        · exact .inr (.inr h)
      · rintro (h | h | h)
        · exact .inl (.inr h)
        · exact .inl (.inl h)
        · exact .inr h

theorem turnAll_spec (n : Net) : ∀ (c m : Nat) (out : Net), m + c = n.length → out.length = n.length →
    (∀ k, k < n.length → out.getD k [] = cast (preds n k m)) →
    (turnAll n (List.range' m c) out).length = n.length ∧ ∀ k, k < n.length → (turnAll n (List.range' m c) out).getD k [] = cast (preds n k n.length) := by
  intro c
  induction c with
  | zero =>
    intro m out hm hl h
    have : m = n.length := by omega
    subst this
    exact ⟨hl, h⟩
  | succ c ih =>
    intro m out hm hl h
    rw [List.range'_succ]
    unfold turnAll
    obtain ⟨a, b⟩ := turnRow_spec m (fun k => cast (preds n k m)) (fun k hh => by have := (mem_preds.1 (mem_cast.1 hh)).1; omega) n.length (waysN n m) [] out hl (fun k hk => Edge.lt (n := n) (a := m) hk) (by
      intro k hk
      rw [h k hk]; simp)
    refine ih (m + 1) _ (by omega) a fun k hk => ?_
    rw [b k hk]
    unfold preds cast
    rw [List.range_succ, List.filter_append, List.map_append]
    congr 1
    by_cases hc : k ∈ waysN n m
    · simp [hc]
    · simp [hc]

theorem turn_length (n : Net) : (turn n).length = n.length := by
  unfold turn
  rw [List.range_eq_range']
  exact (turnAll_spec n n.length 0 _ (by omega) (by simp) (fun k hk => by simp [preds, cast, List.getD_eq_getElem?_getD, hk])).1
theorem turn_row {n : Net} {k : Nat} (hk : k < n.length) : (turn n).getD k [] = cast (preds n k n.length) := by
  unfold turn
  rw [List.range_eq_range']
  exact (turnAll_spec n n.length 0 _ (by omega) (by simp) (fun k hk => by simp [preds, cast, List.getD_eq_getElem?_getD, hk])).2 k hk

theorem ways_turn {n : Net} {k : Nat} (hk : k < n.length) : waysN (turn n) k = preds n k n.length := by
  unfold waysN waysI
  rw [turn_row hk]
  unfold cast
  rw [List.filter_map, List.map_map]
  have : (preds n k n.length).filter (has (turn n) ∘ fun k : Nat => (k : Int)) = preds n k n.length := by
    rw [List.filter_eq_self]
    intro a ha
    have := (mem_preds.1 ha).1
    simp only [Function.comp, has, turn_length, Bool.and_eq_true, decide_eq_true_eq]
    omega
  rw [this]
  have h2 : (Int.toNat ∘ fun k : Nat => (k : Int)) = id := by funext x; simp
  rw [h2, List.map_id]
theorem edge_turn {n : Net} {a b : Nat} : Edge (turn n) a b ↔ Edge n b a := by
  constructor
  · intro h
    have ha : a < n.length := by have := h.lt'; rwa [turn_length] at this
    unfold Edge at h
    rw [ways_turn ha] at h
    exact (mem_preds.1 h).2
  · intro h
    unfold Edge
    rw [ways_turn h.lt]
    exact mem_preds.2 ⟨h.lt', h⟩
theorem edge_turn2 {n : Net} {a b : Nat} : Edge (turn (turn n)) a b ↔ Edge n a b := edge_turn.trans edge_turn

theorem rp_of_edges {n n' : Net} (h : ∀ a b, Edge n a b → Edge n' a b) {a b : Nat} (r : RP n a b) : RP n' a b := by
  induction r with
  | refl => exact .refl _
  | step e _ ih => exact .step (h _ _ e) ih
theorem tp_of_edges {n n' : Net} (h : ∀ a b, Edge n a b → Edge n' a b) {a b : Nat} (r : TP n a b) : TP n' a b := by
  obtain ⟨k, hk, hr⟩ := r
  exact ⟨k, h _ _ hk, rp_of_edges h hr⟩
theorem rp_turn {n : Net} {a b : Nat} (r : RP (turn n) a b) : RP n b a := by
  induction r with
  | refl => exact .refl _
  | step e _ ih => exact ih.trans (.one (edge_turn.1 e))
theorem rp_turn' {n : Net} {a b : Nat} (r : RP n a b) : RP (turn n) b a := by
  induction r with
  | refl => exact .refl _
  | step e _ ih => exact ih.trans (.one (edge_turn.2 e))
theorem tp_turn {n : Net} {a : Nat} : TP (turn n) a a ↔ TP n a a := by
  constructor
  · rintro ⟨k, hk, hr⟩
    exact (rp_turn hr).tail (edge_turn.1 hk)
  · rintro ⟨k, hk, hr⟩
    exact (rp_turn' hr).tail (edge_turn.2 hk)

theorem reach_turn2 (n : Net) (v : Nat) : reach (turn (turn n)) (v : Int) = reach n (v : Int) := by
  refine asc_ext (asc_reach _ _) (asc_reach _ _) fun a => ?_
  rw [mem_reach, mem_reach]
  exact ⟨tp_of_edges fun _ _ => edge_turn2.1, tp_of_edges fun _ _ => edge_turn2.2⟩
theorem rings_turn (n : Net) : rings (turn n) = rings n :=
  told_unique (turn_length n) (rings_told _) (rings_told _) fun _ _ =>
    ⟨fun ⟨h1, h2⟩ => ⟨rp_turn h2, rp_turn h1⟩, fun ⟨h1, h2⟩ => ⟨rp_turn' h2, rp_turn' h1⟩⟩

/-! ### Order -/
instance (n : Net) (a b : Nat) : Decidable (Edge n a b) := inferInstanceAs (Decidable (b ∈ waysN n a))
/-- how many lead to a point that don't stand in a list -/
def cnt (n : Net) (l : List Nat) (v : Nat) : Nat := ((List.range n.length).filter fun u => (waysN n u).contains v && !l.contains u).length

theorem dec_spec : ∀ (ws : List Nat) (a : List Int), ws.Nodup → (dec (cast ws) a).length = a.length ∧ ∀ v, v < a.length → (dec (cast ws) a).getD v 0 = a.getD v 0 - (if v ∈ ws then 1 else 0) := by
  intro ws
  induction ws with
  | nil => intro a _; exact ⟨rfl, fun v _ => by simp [cast, dec]⟩
  | cons k ws ih =>
    intro a hn
    obtain ⟨hk, hn⟩ := List.nodup_cons.1 hn
    obtain ⟨h1, h2⟩ := ih (a.set k (a.getD k 0 - 1)) hn
    have e : dec (cast (k :: ws)) a = dec (cast ws) (a.set k (a.getD k 0 - 1)) := by simp [cast, dec]
    rw [e]
    refine ⟨by rw [h1, List.length_set], fun v hv => ?_⟩
    rw [h2 v (by rw [List.length_set]; exact hv), getD_set]
    by_cases ekv : k = v
    · subst ekv
      rw [if_pos ⟨rfl, hv⟩, if_neg hk, if_pos (by simp)]
      omega
    · rw [if_neg (fun (hh : k = v ∧ v < a.length) => ekv hh.1)]
      simp [Ne.symm ekv]

theorem filter_erase {p : Nat → Bool} {v : Nat} : ∀ (l : List Nat), l.Nodup → v ∈ l → p v = true → (l.filter fun u => p u && !(u == v)).length + 1 = (l.filter p).length := by
  intro l
  induction l with
  | nil => intro _ h; cases h
  | cons x l ih =>
    intro hn hv hp
    obtain ⟨hx, hn⟩ := List.nodup_cons.1 hn
    simp only [List.filter_cons]
    rcases List.mem_cons.1 hv with e | hv
    · subst e
      simp only [hp, beq_self_eq_true, Bool.not_true, Bool.and_false, if_true, List.length_cons]
      simp only [Bool.false_eq_true, if_false]
      congr 2
      refine List.filter_congr fun a ha => ?_
      have : a ≠ v := fun e => hx (e ▸ ha)
      simp [this]
    · have hxv : x ≠ v := fun e => hx (e ▸ hv)
      have := ih hn hv hp
      cases hpx : p x with
      | true => simp [hxv]; omega
      | false => simpa using this

theorem cnt_push {n : Net} {l : List Nat} {v u : Nat} (hv : v < n.length) (hl : v ∉ l) : cnt n (l ++ [v]) u + (if Edge n v u then 1 else 0) = cnt n l u := by
  unfold cnt
  have e1 : (List.range n.length).filter (fun w => (waysN n w).contains u && !(l ++ [v]).contains w) = (List.range n.length).filter (fun w => ((waysN n w).contains u && !l.contains w) && !(w == v)) := by
    refine List.filter_congr fun w _ => ?_
    by_cases e : w = v
    · subst e; simp
    · simp [e]
  rw [e1]
  by_cases he : Edge n v u
  · rw [if_pos he]
    refine filter_erase _ List.nodup_range (List.mem_range.2 hv) ?_
    have : u ∈ waysN n v := he
    simp [this, hl]
  · rw [if_neg he, Nat.add_zero]
    congr 1
    refine List.filter_congr fun w _ => ?_
    by_cases e : w = v
    · subst e
      have : u ∉ waysN n w := he
      simp [this]
    · simp [e]

theorem cnt_zero {n : Net} {l : List Nat} {v : Nat} : cnt n l v = 0 ↔ ∀ u, Edge n u v → u ∈ l := by
  unfold cnt
  rw [List.length_eq_zero_iff, List.filter_eq_nil_iff]
  constructor
  · intro h u hu
    have := h u (List.mem_range.2 hu.lt')
    have hm : v ∈ waysN n u := hu
    simpa [hm] using this
  · intro h u _ hc
    simp only [Bool.and_eq_true, List.contains_iff_mem, Bool.not_eq_true'] at hc
    have := h u hc.1
    rw [← Bool.not_eq_true, List.contains_iff_mem] at hc
    exact hc.2 this

structure OrdInv (n : Net) (ahead : List Int) (l : List Nat) : Prop where
  len : ahead.length = n.length
  val : ∀ v, v < n.length → ahead.getD v 0 = if v ∈ l then -1 else (cnt n l v : Int)
  nodup : l.Nodup
  lt : ∀ v, v ∈ l → v < n.length
  pre : ∀ v, v ∈ l → ∀ u, Edge n u v → u ∈ l
  ord : ∀ u v, Edge n u v → v ∈ l → l.idxOf u < l.idxOf v

theorem idxOf_append_left {l r : List Nat} {u : Nat} (h : u ∈ l) : (l ++ r).idxOf u = l.idxOf u := by
  rw [List.idxOf_append, if_pos h]

theorem OrdInv.push {n : Net} {ahead : List Int} {l : List Nat} (h : OrdInv n ahead l) {v : Nat} (hv : v < n.length) (hl : v ∉ l) (hp : ∀ u, Edge n u v → u ∈ l) :
    OrdInv n (dec ((turn (turn n)).getD v []) (ahead.set v (-1))) (l ++ [v]) := by
  have hrow : (turn (turn n)).getD v [] = cast (preds (turn n) v (turn n).length) := turn_row (by rw [turn_length]; exact hv)
  have hnd : (preds (turn n) v (turn n).length).Nodup := (asc_preds _ _ _).imp fun h e => by omega
  obtain ⟨d1, d2⟩ := dec_spec _ (ahead.set v (-1)) hnd
  rw [hrow]
  have hsv : ∀ u, u ∈ preds (turn n) v (turn n).length ↔ Edge n v u := by
    intro u
    rw [mem_preds, edge_turn, turn_length]
    exact ⟨fun h => h.2, fun h => ⟨h.lt, h⟩⟩
  refine ⟨by rw [d1, List.length_set]; exact h.len, ?_, ?_, ?_, ?_, ?_⟩
  · intro u hu
    rw [d2 u (by rw [List.length_set, h.len]; exact hu), getD_set, h.len]
    by_cases e : v = u
    · subst e
      have : ¬ Edge n v v := fun hh => hl (hp v hh)
      rw [if_pos ⟨rfl, hv⟩, if_neg (fun hh => this ((hsv v).1 hh)), if_pos (by simp)]
      omega
    · rw [if_neg (fun (hh : v = u ∧ u < n.length) => e hh.1), h.val u hu]
      have hc := cnt_push (u := u) hv hl
      by_cases hul : u ∈ l
      · have : ¬ Edge n v u := fun hh => hl (h.pre u hul v hh)
        rw [if_pos hul, if_neg (fun hh => this ((hsv u).1 hh)), if_pos (show u ∈ l ++ [v] by simp [hul])]
        omega
      · rw [if_neg hul, if_neg (show ¬ u ∈ l ++ [v] by simp [hul, Ne.symm e])]
        by_cases he : Edge n v u
        · rw [if_pos ((hsv u).2 he)]
          rw [if_pos he] at hc
          omega
        · rw [if_neg (fun hh => he ((hsv u).1 hh))]
          rw [if_neg he] at hc
          omega
  · rw [List.nodup_append]
    exact ⟨h.nodup, by simp, fun a ha b hb e => hl (by simp at hb; rw [← hb, ← e]; exact ha)⟩
  · intro u hu
    rcases List.mem_append.1 hu with hu | hu
    · exact h.lt u hu
    · simp at hu; subst hu; exact hv
  · intro u hu w hw
    rcases List.mem_append.1 hu with hu | hu
    · exact List.mem_append.2 (.inl (h.pre u hu w hw))
    · simp at hu; subst hu; exact List.mem_append.2 (.inl (hp w hw))
  · intro u w hw hm
    rcases List.mem_append.1 hm with hm | hm
    · rw [idxOf_append_left hm, idxOf_append_left (h.pre w hm u hw)]
      exact h.ord u w hw hm
    · simp at hm
      subst hm
      have hu := hp u hw
      rw [idxOf_append_left hu, List.idxOf_append, if_neg hl]
      have := List.idxOf_lt_length_iff.2 hu
      omega

/-- of finitely many points, each of which has one of them ahead of it, one leads back to itself -/
theorem cycle {n : Net} (c : Nat) : ∀ (S : List Nat), S.length ≤ c → S ≠ [] → (∀ v, v ∈ S → ∃ u, u ∈ S ∧ Edge n u v) → ∃ w, TP n w w := by
  induction c with
  | zero => intro S h hne; cases S with
    | nil => exact absurd rfl hne
    | cons _ _ => simp at h
  | succ c ih =>
    intro S hc hne hS
    obtain ⟨v, hv⟩ : ∃ v, v ∈ S := by
      cases S with
      | nil => exact absurd rfl hne
      | cons x _ => exact ⟨x, by simp⟩
    by_cases hvv : TP n v v
    · exact ⟨v, hvv⟩
    · classical
      obtain ⟨u, hu, huv⟩ := hS v hv
      refine ih (S.filter fun u => decide (TP n u v)) ?_ ?_ ?_
      · have : (S.filter fun u => decide (TP n u v)).length < (S.filter fun _ => true).length :=
          filter_lt (fun _ _ _ => rfl) hv (by simp [hvv]) rfl
        have h3 : (S.filter fun _ => true) = S := List.filter_eq_self.2 (fun _ _ => rfl)
        rw [h3] at this
        omega
      · intro e
        have : u ∈ S.filter fun u => decide (TP n u v) := List.mem_filter.2 ⟨hu, by simpa using ⟨v, huv, .refl _⟩⟩
        rw [e] at this
        cases this
      · intro w hw
        obtain ⟨hwS, hwv⟩ := List.mem_filter.1 hw
        have hwv : TP n w v := by simpa using hwv
        obtain ⟨x, hx, hxw⟩ := hS w hwS
        exact ⟨x, List.mem_filter.2 ⟨hx, by simpa using ⟨w, hxw, hwv.rp⟩⟩, hxw⟩

theorem nodup_sub {l : List Nat} (h : l.Nodup) : ∀ {l' : List Nat}, (∀ v, v ∈ l → v ∈ l') → l.length ≤ l'.length := by
  induction l with
  | nil => intro _ _; simp
  | cons x r ih =>
    intro l' hl
    obtain ⟨hx, hr⟩ := List.nodup_cons.1 h
    have h1 := ih hr (l' := l'.filter fun v => !(v == x)) (by
      intro v hv
      refine List.mem_filter.2 ⟨hl v (by simp [hv]), ?_⟩
      have : v ≠ x := fun e => hx (e ▸ hv)
      simpa using this)
    have h2 : (l'.filter fun v => !(v == x)).length < (l'.filter fun _ => true).length :=
      filter_lt (fun _ _ _ => rfl) (hl x (by simp)) (by simp) rfl
    have h3 : (l'.filter fun _ => true) = l' := List.filter_eq_self.2 (fun _ _ => rfl)
    rw [h3] at h2
    simp only [List.length_cons]
    omega
theorem nodup_le {l : List Nat} {N : Nat} (h : l.Nodup) (hl : ∀ v, v ∈ l → v < N) : l.length ≤ N := by
  have := nodup_sub h (l' := List.range N) fun v hv => List.mem_range.2 (hl v hv)
  simpa using this
theorem nodup_lacks {l : List Nat} {N : Nat} (hN : l.length < N) : ∃ v, v < N ∧ v ∉ l := by
  refine Classical.byContradiction fun hh => ?_
  have h1 : ∀ v, v ∈ List.range N → v ∈ l := by
    intro v hv
    refine Classical.byContradiction fun hv' => hh ⟨v, List.mem_range.1 hv, hv'⟩
  have := nodup_sub List.nodup_range h1
  simp at this
  omega

theorem orderLoop_spec {n : Net} (m : Nat) : ∀ (ahead : List Int) (l : List Nat), OrdInv n ahead l → l.length + m = n.length →
    (orderLoop (turn (turn n)) m ahead l = none ∧ ∃ w, TP n w w) ∨
    ∃ l', orderLoop (turn (turn n)) m ahead l = some l' ∧ l'.length = n.length ∧ l'.Nodup ∧ (∀ v, v ∈ l' → v < n.length) ∧ (∀ v, v < n.length → v ∈ l') ∧ ∀ u v, Edge n u v → l'.idxOf u < l'.idxOf v := by
  induction m with
  | zero =>
    intro ahead l h hm
    right
    have hall : ∀ v, v < n.length → v ∈ l := by
      intro v hv
      refine Classical.byContradiction fun hv' => ?_
      have := nodup_le (l := v :: l) (N := n.length) (List.nodup_cons.2 ⟨hv', h.nodup⟩) (by
        intro u hu
        rcases List.mem_cons.1 hu with e | hu
        · rw [e]; exact hv
        · exact h.lt u hu)
      simp at this
      omega
    exact ⟨l, rfl, by omega, h.nodup, h.lt, hall, fun u v he => h.ord u v he (hall v he.lt)⟩
  | succ m ih =>
    intro ahead l h hm
    unfold orderLoop
    by_cases hi : ahead.idxOf 0 < ahead.length
    · rw [if_pos hi]
      have hv : ahead.idxOf 0 < n.length := by rw [← h.len]; exact hi
      have h0 : ahead.getD (ahead.idxOf 0) 0 = 0 := by
        rw [List.getD_eq_getElem?_getD, List.getElem?_eq_getElem hi, Option.getD_some, List.getElem_idxOf hi]
      have hval := h.val _ hv
      rw [h0] at hval
      have hnl : ahead.idxOf 0 ∉ l := by
        intro hh
        rw [if_pos hh] at hval
        omega
      rw [if_neg hnl] at hval
      have hp := cnt_zero.1 (show cnt n l (ahead.idxOf 0) = 0 by omega)
      exact ih _ _ (h.push hv hnl hp) (by simp; omega)
    · rw [if_neg hi]
      left
      refine ⟨rfl, ?_⟩
      have hz : (0 : Int) ∉ ahead := fun hh => hi (List.idxOf_lt_length_iff.2 hh)
      refine cycle (n := n) ((List.range n.length).filter fun v => !l.contains v).length _ (Nat.le_refl _) ?_ ?_
      · intro e
        obtain ⟨v, hv, hvl⟩ := nodup_lacks (N := n.length) (l := l) (by omega)
        have : v ∈ (List.range n.length).filter fun v => !l.contains v := List.mem_filter.2 ⟨List.mem_range.2 hv, by simpa using hvl⟩
        rw [e] at this
        cases this
      · intro v hv
        obtain ⟨hv, hvl⟩ := List.mem_filter.1 hv
        have hv := List.mem_range.1 hv
        have hvl : v ∉ l := by simpa using hvl
        refine Classical.byContradiction fun hh => ?_
        have hc : cnt n l v = 0 := cnt_zero.2 fun u hu => Classical.byContradiction fun hul => hh ⟨u, List.mem_filter.2 ⟨List.mem_range.2 hu.lt', by simpa using hul⟩, hu⟩
        have hval := h.val v hv
        rw [if_neg hvl, hc] at hval
        apply hz
        have hvl' : v < ahead.length := by rw [h.len]; exact hv
        rw [List.getD_eq_getElem?_getD, List.getElem?_eq_getElem hvl', Option.getD_some] at hval
        have := List.getElem_mem hvl'
        rw [hval] at this
        exact this

theorem ordInv_start (n : Net) : OrdInv n ((turn n).map fun r => (r.length : Int)) [] := by
  refine ⟨by simp [turn_length], ?_, by simp, by simp, by simp, by simp⟩
  intro v hv
  have hv' : v < (turn n).length := by rw [turn_length]; exact hv
  have h1 : ((turn n).map fun r => (r.length : Int)).getD v 0 = (((turn n).getD v []).length : Int) := by
    simp [List.getD_eq_getElem?_getD, List.getElem?_eq_getElem hv']
  rw [h1, turn_row hv]
  unfold cast preds cnt
  simp

/-- WHAT Order TELLS -/
theorem order_told (n : Net) : ((∃ w, TP n w w) ∧ order n = ([], 7)) ∨
    ((∀ w, ¬ TP n w w) ∧ ∃ l, (order n = if n.length > 200 then ([], 4) else (l, 0)) ∧ l.length = n.length ∧ l.Nodup ∧ (∀ v, v ∈ l → v < n.length) ∧ (∀ v, v < n.length → v ∈ l) ∧ ∀ u v, Edge n u v → l.idxOf u < l.idxOf v) := by
  unfold order
  rcases orderLoop_spec n.length _ _ (ordInv_start n) (by simp) with ⟨e, hw⟩ | ⟨l, e, h1, h2, h3, h4, h5⟩
  · left
    rw [e]
    exact ⟨hw, rfl⟩
  · right
    rw [e]
    refine ⟨?_, l, rfl, h1, h2, h3, h4, h5⟩
    rintro w ⟨k, hk, hr⟩
    have key : ∀ {a b : Nat}, RP n a b → l.idxOf a ≤ l.idxOf b := by
      intro a b r
      induction r with
      | refl => exact Nat.le_refl _
      | step e _ ih => have := h5 _ _ e; omega
    have := h5 _ _ hk
    have := key hr
    omega

/-! ### Longest -/
/-- just so many waysN, one behind the other -/
inductive Ch (n : Net) : Nat → Nat → Nat → Prop
  | zero (a : Nat) : Ch n 0 a a
  | succ {k a b c : Nat} : Ch n k a b → Edge n b c → Ch n (k + 1) a c
theorem Ch.cons {n : Net} {k a b c : Nat} (e : Edge n a b) (h : Ch n k b c) : Ch n (k + 1) a c := by
  induction h with
  | zero => exact .succ (.zero _) e
  | succ _ e' ih => exact .succ (ih e) e'
theorem Ch.turn {n : Net} {k a b : Nat} (h : Ch n k a b) : Ch (turn n) k b a := by
  induction h with
  | zero => exact .zero _
  | succ _ e ih => exact .cons (edge_turn.2 e) ih
theorem Ch.turned {n : Net} {k a b : Nat} (h : Ch (RingM.turn n) k a b) : Ch n k b a := by
  induction h with
  | zero => exact .zero _
  | succ _ e ih => exact .cons (edge_turn.1 e) ih

structure LongInv (n : Net) (P : List Nat) (long : List Nat) (most : Nat) : Prop where
  len : long.length = n.length
  is : ∀ v, v < n.length → ∃ a, Ch n (long.getD v 0) a v
  all : ∀ u, u ∈ P → ∀ w, Edge n u w → long.getD u 0 + 1 ≤ long.getD w 0
  top : ∀ v, v < n.length → long.getD v 0 ≤ most
  one : most = 0 ∨ ∃ v, v < n.length ∧ long.getD v 0 = most

theorem longRow_spec {n : Net} {P : List Nat} {v : Nat} (hv : v < n.length) (hvP : v ∉ P) (hP : ∀ w, w ∈ P → ∀ u, Edge n u w → u ∈ P) (hvv : ¬ Edge n v v) : ∀ (ks : List Nat) (long : List Nat) (most : Nat),
    (∀ k, k ∈ ks → Edge n v k) → LongInv n P long most → (∀ k, Edge n v k → k ∉ ks → long.getD v 0 + 1 ≤ long.getD k 0) →
    LongInv n (P ++ [v]) (longRow v ks (long, most)).1 (longRow v ks (long, most)).2 := by
  intro ks
  induction ks with
  | nil =>
    intro long most _ h hd
    refine ⟨h.len, h.is, ?_, h.top, h.one⟩
    intro u hu w hw
    rcases List.mem_append.1 hu with hu | hu
    · exact h.all u hu w hw
    · simp at hu
      subst hu
      exact hd w hw (by simp)
  | cons k ks ih =>
    intro long most hks h hd
    have hk := hks k (by simp)
    have hkl : k < long.length := by rw [h.len]; exact hk.lt
    have hkv : k ≠ v := by intro e; subst e; exact hvv hk
    have hkP : k ∉ P := fun hh => hvP (hP k hh v hk)
    unfold longRow
    have hg : ∀ u, (long.set k (max (long.getD k 0) (long.getD v 0 + 1))).getD u 0 = if k = u then max (long.getD k 0) (long.getD v 0 + 1) else long.getD u 0 := by
      intro u
      rw [getD_set]
      by_cases e : k = u
      · subst e; simp [hkl]
      · rw [if_neg (fun (hh : k = u ∧ u < long.length) => e hh.1), if_neg e]
    have hle : ∀ u, long.getD u 0 ≤ (long.set k (max (long.getD k 0) (long.getD v 0 + 1))).getD u 0 := by
      intro u
      rw [hg]
      split
      · rename_i e; subst e; omega
      · exact Nat.le_refl _
    refine ih _ _ (fun k hk => hks k (by simp [hk])) ⟨by simp [h.len], ?_, ?_, ?_, ?_⟩ ?_
    · intro u hu
      rw [hg]
      split
      · rename_i e
        subst e
        rcases Nat.le_total (long.getD v 0 + 1) (long.getD k 0) with h1 | h1
        · rw [Nat.max_eq_left h1]; exact h.is k hu
        · rw [Nat.max_eq_right h1]
          obtain ⟨a, ha⟩ := h.is v hv
          exact ⟨a, .succ ha hk⟩
      · exact h.is u hu
    · intro u hu w hw
      rw [hg u, if_neg (by intro e; rw [e] at hkP; exact hkP hu)]
      exact Nat.le_trans (h.all u hu w hw) (hle w)
    · intro u hu
      rw [hg u, hg k, if_pos rfl]
      have := h.top u hu
      have := h.top k hk.lt
      split <;> omega
    · rw [hg k, if_pos rfl]
      rcases Nat.le_total (max (long.getD k 0) (long.getD v 0 + 1)) most with h1 | h1
      · rw [Nat.max_eq_left h1]
        rcases h.one with e | ⟨u, hu, e⟩
        · exact .inl e
        · right
          by_cases eku : k = u
          · subst eku
            exact ⟨k, hu, by rw [hg, if_pos rfl]; omega⟩
          · exact ⟨u, hu, by rw [hg, if_neg eku]; exact e⟩
      · rw [Nat.max_eq_right h1]
        exact .inr ⟨k, hk.lt, by rw [hg, if_pos rfl]⟩
    · intro j hj hjk
      rw [hg v, if_neg hkv]
      by_cases e : j = k
      · subst e
        rw [hg, if_pos rfl]; omega
      · exact Nat.le_trans (hd j hj (by simp [e, hjk])) (hle j)

theorem longAll_spec {n : Net} {l : List Nat} (hnd : l.Nodup) (hlt : ∀ v, v ∈ l → v < n.length) (ho : ∀ u v, Edge n u v → l.idxOf u < l.idxOf v) : ∀ (r P : List Nat) (long : List Nat) (most : Nat),
    l = P ++ r → LongInv n P long most → ∃ long' most', longAll n r (long, most) = (long', most') ∧ LongInv n l long' most' := by
  intro r
  induction r with
  | nil => intro P long most e h; exact ⟨long, most, rfl, by rw [e, List.append_nil]; exact h⟩
  | cons v r ih =>
    intro P long most e h
    have hv : v ∈ l := by rw [e]; simp
    have hvP : v ∉ P := by
      intro hh
      rw [e] at hnd
      exact (List.nodup_append.1 hnd).2.2 v hh v (by simp) rfl
    have hP : ∀ w, w ∈ P → ∀ u, Edge n u w → u ∈ P := by
      intro w hw u hu
      have h1 := ho u w hu
      have hwl : l.idxOf w < P.length := by
        rw [e, idxOf_append_left hw]
        exact List.idxOf_lt_length_iff.2 hw
      refine Classical.byContradiction fun hh => ?_
      have : l.idxOf u = (v :: r).idxOf u + P.length := by rw [e, List.idxOf_append, if_neg hh]
      omega
    have hvv : ¬ Edge n v v := fun hh => by have := ho v v hh; omega
    have := longRow_spec (hlt v hv) hvP hP hvv (waysN n v) long most (fun k hk => hk) h (fun k hk hk' => absurd hk hk')
    unfold longAll
    exact ih (P ++ [v]) _ _ (by rw [e]; simp) this

theorem longest_acyclic {n : Net} (hc : ∀ w, ¬ TP n w w) (hN : n.length ≤ 200) : ∃ m, longest n = (m, 0) ∧ (∃ a b, Ch n m a b) ∧ ∀ k a b, Ch n k a b → k ≤ m := by
  rcases order_told n with ⟨⟨w, hw⟩, _⟩ | ⟨_, l, e, h1, h2, h3, h4, h5⟩
  · exact absurd hw (hc w)
  · rw [if_neg (by omega)] at e
    have h0 : ∀ v, (List.replicate n.length 0).getD v 0 = 0 := by
      intro v
      simp only [List.getD_eq_getElem?_getD, List.getElem?_replicate]
      split <;> rfl
    obtain ⟨long, most, e2, hi⟩ := longAll_spec h2 h3 h5 l [] (List.replicate n.length 0) 0 (by simp)
      ⟨by simp, fun v _ => by rw [h0]; exact ⟨v, .zero v⟩, by simp, fun v _ => by rw [h0]; exact Nat.le_refl _, .inl rfl⟩
    refine ⟨most, ?_, ?_, ?_⟩
    · unfold longest
      rw [e]
      simp only [e2]
    · rcases hi.one with e | ⟨v, hv, e⟩
      · rw [e]; exact ⟨0, 0, .zero 0⟩
      · rw [← e]
        obtain ⟨a, ha⟩ := hi.is v hv
        exact ⟨a, v, ha⟩
    · intro k a b h
      have key : ∀ {k a b : Nat}, Ch n k a b → b < n.length → k ≤ long.getD b 0 := by
        intro k a b h
        induction h with
        | zero => intro _; exact Nat.zero_le _
        | succ _ e ih =>
          intro _
          have := hi.all _ (h4 _ e.lt') _ e
          have := ih e.lt'
          omega
      cases h with
      | zero => exact Nat.zero_le _
      | succ h' e =>
        have h2 := key (.succ h' e) e.lt
        have := hi.top b e.lt
        omega

theorem longest_cyclic {n : Net} (hc : ∃ w, TP n w w) : longest n = (0, 7) := by
  rcases order_told n with ⟨_, e⟩ | ⟨h, _⟩
  · unfold longest
    rw [e]
    rfl
  · obtain ⟨w, hw⟩ := hc
    exact absurd hw (h w)

theorem longest_turn {n : Net} (hN : n.length ≤ 200) : longest (turn n) = longest n := by
  by_cases hc : ∃ w, TP n w w
  · rw [longest_cyclic hc, longest_cyclic (hc.imp fun _ h => tp_turn.2 h)]
  · have hc1 : ∀ w, ¬ TP n w w := fun w hw => hc ⟨w, hw⟩
    obtain ⟨m, e, ⟨a, b, h1⟩, h2⟩ := longest_acyclic hc1 hN
    obtain ⟨m', e', ⟨a', b', h1'⟩, h2'⟩ := longest_acyclic (n := turn n) (fun w hw => hc1 w (tp_turn.1 hw)) (by rw [turn_length]; exact hN)
    have := h2 _ _ _ h1'.turned
    have := h2' _ _ _ h1.turn
    have : m = m' := by omega
    rw [e, e', this]

end RingM
