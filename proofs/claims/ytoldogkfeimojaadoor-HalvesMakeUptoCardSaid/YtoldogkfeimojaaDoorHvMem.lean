/- One step of the proof of a statement of this seat: plain laws and walks of the store, log, journal and halves packages; no condition. -/
import Derived.WalkKit
import Derived.WalkSpells
import Derived.WalkLawsBesides
import Derived.Lib.Hide
import Derived.Laws.AppendOwnNone
set_option linter.unusedVariables false
set_option linter.unusedSimpArgs false
open Go.RowKit
namespace Go.Proofs.Mem

/-- a slice type t of elements e of one cell, of zero value z -/
structure Elem (P : Program) (t e : TypeId) (z : Value) (bytes : Nat) : Prop where
  und : P.underlying t = some (.slice e)
  info : ∃ i, P.info? e = some i ∧ i.zero = some z ∧ i.size = 1 ∧ i.bytes = bytes
  cell : z.cells = #[z]

theorem elem_of {P : Program} {t e : TypeId} {z : Value} {bytes : Nat} (h : P.underlying t = some (.slice e)) (hi : (P.info? e).map (fun i => (i.zero, i.size, i.bytes)) = some (some z, 1, bytes)) (hz : z.cells = #[z]) : Elem P t e z bytes :=
  ⟨h, info_parts hi, hz⟩

/-- a value reads as some values -/
structure Rd (w : World) (A : Option Addr) (xs : List Value) : Prop where
  at_ : ∀ i, i < xs.length → ∃ b o, A = some ⟨b, o, none⟩ ∧ ∀ j (h : j < xs.length), w.cell? ⟨b, o + j, none⟩ = some xs[j]

abbrev Own (base : Nat) (w : World) (e : TypeId) (v : Value) (xs : List Value) : Prop := w.ownsRow base e 1 v xs.length xs

theorem Own.nil (base : Nat) (w : World) (e : TypeId) : Own base w e (.slice none 0 0) [] := World.ownsRow_nil w base e 1

theorem add_lit (b o j : Nat) : (⟨b, o, none⟩ : Addr).add j = ⟨b, o + j, none⟩ := by unfold Addr.add; split <;> simp_all

/-- what a slice of the call's own is -/
theorem Own.shape {base : Nat} {w : World} {e : TypeId} {v : Value} {xs : List Value} (h : Own base w e v xs) :
    (v = .slice none 0 0 ∧ xs = []) ∨ ∃ g c, v = .slice (some ⟨g, 0, none⟩) xs.length c ∧ base ≤ g ∧ g < w.heap.size ∧ xs.length ≤ c ∧ c ≤ maxLen ∧ v.ownBlock = some g := by
  rcases h.2 with ⟨rfl, h0⟩ | ⟨g, cap, cur, rfl, hb, hg, hnc, hcm, hcs, htake⟩
  · exact .inl ⟨rfl, List.eq_nil_of_length_eq_zero h0⟩
  · exact .inr ⟨g, cap, rfl, hb, (Array.getElem?_eq_some_iff.1 hg).1, hnc, hcm, rfl⟩
theorem Own.lt {base : Nat} {w : World} {e : TypeId} {g n c : Nat} {xs : List Value} (h : Own base w e (.slice (some ⟨g, 0, none⟩) n c) xs) : g < w.heap.size :=
  (World.ownsRow.lt h g rfl).2
theorem Own.cell {base : Nat} {w : World} {e : TypeId} {g n c : Nat} {xs : List Value} (h : Own base w e (.slice (some ⟨g, 0, none⟩) n c) xs) (hn : n = xs.length) (j : Nat) (hj : j < xs.length) : w.cell? ⟨g, j, none⟩ = some xs[j] := by
  subst hn
  rw [World.ownsRow.cellAt h j (by omega)]
  simp [hj]
theorem Own.rd {base : Nat} {w : World} {e : TypeId} {v : Value} {xs : List Value} (h : Own base w e v xs) :
    ∃ A c, v = .slice A xs.length c ∧ Rd w A xs ∧ xs.length ≤ c ∧ c ≤ maxLen ∧ (∀ a, A = some a → a.spot = none ∧ a.off = 0 ∧ base ≤ a.block ∧ a.block < w.heap.size) ∧ v.ownBlock = A.map Addr.block := by
  rcases h.shape with ⟨rfl, rfl⟩ | ⟨g, c, rfl, hb, hl, hc, hm, ho⟩
  · exact ⟨none, 0, rfl, ⟨fun i hi => absurd hi (by simp)⟩, by simp, by unfold maxLen; omega, (fun a ha => by cases ha), rfl⟩
  · refine ⟨_, c, rfl, ⟨fun i hi => ⟨g, 0, rfl, fun j hj => ?_⟩⟩, hc, hm, fun a ha => ?_, by simp [ho]⟩
    · rw [Nat.zero_add]; exact h.cell rfl j hj
    · cases ha; exact ⟨rfl, rfl, hb, hl⟩

theorem grownBy_refl (w : World) (g : Option Nat) : w.grownBy w g := ⟨rfl, rfl, rfl, Nat.le_refl _, fun _ _ _ => rfl⟩
theorem grownBy_trans {w w1 w2 : World} {g : Option Nat} (h : w.grownBy w1 g) (k : w1.grownBy w2 g) : w.grownBy w2 g :=
  ⟨k.os.trans h.os, k.tape.trans h.tape, k.output.trans h.output, Nat.le_trans h.size k.size, fun i hi hne => (k.block i (Nat.lt_of_lt_of_le hi h.size) hne).trans (h.block i hi hne)⟩
theorem grownBy_setCell (w : World) (g o : Nat) (u : Value) : w.grownBy (w.setCell ⟨g, o, none⟩ u) (some g) :=
  ⟨rfl, rfl, rfl, by simp [World.setCell], fun k _ hk => Below.heap_setCell _ _ _ _ (fun e => hk (by simp [e]))⟩
theorem grownBy_of_below {w w' : World} (h : Below w.heap.size w w') (g : Option Nat) : w.grownBy w' g := ⟨h.os, h.tape, h.output, h.size, fun k hk _ => h.block k hk⟩
theorem below_of_grown {B : Nat} {w w' : World} {g : Option Nat} (h : w.grownBy w' g) (hB : B ≤ w.heap.size) (hg : ∀ k, g = some k → B ≤ k) : Below B w w' :=
  (Below.refl B w).grown h hB hg
theorem below_drewN {B : Nat} {w W : World} (h : Below B w W) (n : Nat) : Below B w (W.drewN n) := ⟨h.os, h.tape, h.output, h.size, h.block⟩

theorem cell_below {w w' : World} {a : Addr} {v : Value} (hb : Below w.heap.size w w') (h : w.cell? a = some v) : w'.cell? a = some v :=
  (hb.cell (p := a) (World.block_lt_of_cell? w a h)).trans h
theorem cell_grown {w w' : World} {g : Option Nat} {a : Addr} {v : Value} (hg : w.grownBy w' g) (h : w.cell? a = some v) (hne : some a.block ≠ g) : w'.cell? a = some v := hg.cell h hne
theorem Rd.below {w w' : World} {A : Option Addr} {xs : List Value} (h : Rd w A xs) (hb : Below w.heap.size w w') : Rd w' A xs :=
  ⟨fun i hi => by
    obtain ⟨b, o, e, hc⟩ := h.at_ i hi
    exact ⟨b, o, e, fun j hj => cell_below hb (hc j hj)⟩⟩
theorem Rd.grown {w w' : World} {A : Option Addr} {xs : List Value} {g : Option Nat} (h : Rd w A xs) (hg : w.grownBy w' g) (hne : ∀ a, A = some a → some a.block ≠ g) : Rd w' A xs :=
  ⟨fun i hi => by
    obtain ⟨b, o, e, hc⟩ := h.at_ i hi
    exact ⟨b, o, e, fun j hj => hg.cell (a := ⟨b, o + j, none⟩) (hc j hj) (hne ⟨b, o, none⟩ e)⟩⟩

theorem Own.below {base : Nat} {w w' : World} {e : TypeId} {v : Value} {xs : List Value} (h : Own base w e v xs) (hb : Below w.heap.size w w') : Own base w' e v xs :=
  h.kept (grownBy_of_below hb none) (by cases v.ownBlock <;> simp)
theorem Own.grown {base : Nat} {w w' : World} {e : TypeId} {v : Value} {xs : List Value} {g : Option Nat} (h : Own base w e v xs) (hg : w.grownBy w' g) (hne : v.ownBlock = none ∨ v.ownBlock ≠ g) : Own base w' e v xs := h.kept hg hne
theorem Own.base {base base' : Nat} {w : World} {e : TypeId} {v : Value} {xs : List Value} (h : Own base w e v xs) (hb : base' ≤ base) : Own base' w e v xs := by
  refine ⟨h.1, ?_⟩
  rcases h.2 with h' | ⟨g, cap, cur, h1, h2, h3⟩
  · exact .inl h'
  · exact .inr ⟨g, cap, cur, h1, Nat.le_trans hb h2, h3⟩
/-- a slice cut shorter -/
theorem Own.cut {base : Nat} {w : World} {e : TypeId} {g n c m : Nat} {xs : List Value} (h : Own base w e (.slice (some ⟨g, 0, none⟩) n c) xs) (hm : m ≤ xs.length) :
    Own base w e (.slice (some ⟨g, 0, none⟩) m c) (xs.take m) := by
  rcases h.2 with ⟨h', _⟩ | ⟨g', cap', cur, h', hb, hg, hnc, hcm, hcs, htake⟩
  · simp at h'
  · simp only [Value.slice.injEq, Option.some.injEq, Addr.mk.injEq, and_true] at h'
    obtain ⟨rfl, rfl, rfl⟩ := h'
    have hl : (xs.take m).length = m := by rw [List.length_take]; omega
    refine ⟨by omega, .inr ⟨g, c, cur, by rw [hl], hb, hg, by omega, hcm, hcs, ?_⟩⟩
    rw [hl, ← htake, List.take_take]
    congr 1
    omega
/-- an element stored -/
theorem Own.store {base : Nat} {w : World} {e : TypeId} {g n c : Nat} {xs : List Value} (h : Own base w e (.slice (some ⟨g, 0, none⟩) n c) xs) (hn : n = xs.length) (j : Nat) (u : Value) :
    Own base (w.setCell ⟨g, j, none⟩ u) e (.slice (some ⟨g, 0, none⟩) n c) (xs.set j u) ∧ w.grownBy (w.setCell ⟨g, j, none⟩ u) (some g) := by
  subst hn
  have := World.ownsRow.stored h j u
  refine ⟨?_, this.2⟩
  unfold Own
  rw [List.length_set]
  exact this.1
theorem Own.frozen {base : Nat} {w : World} {e : TypeId} {g n c : Nat} {xs : List Value} (h : Own base w e (.slice (some ⟨g, 0, none⟩) n c) xs) (hn : n = xs.length) (j : Nat) : w.frozen? ⟨g, j, none⟩ = false := by
  subst hn
  exact World.ownsRow.frozenAt h j

theorem madeCells_one (z : Value) (n : Nat) : (madeCells #[z] (n * 1)).toList = List.replicate n z := by
  apply List.ext_getElem
  · simp [madeCells]
  · intro i h1 h2
    simp [madeCells, Nat.mod_one]

/-- the new slice lies in no old block but the elder one's -/
def Moves (w : World) (v v' : Value) : Prop := ∀ g, g < w.heap.size → v.ownBlock ≠ some g → v'.ownBlock ≠ some g

section
variable {P : Program} {ops : Array Oper} {rest : List Oper} {o : Oper} {a : Act} {Q : Exit → Act → World → Prop}

/-- make([]T, n) -/
theorem wp_make {w : World} {t e : TypeId} {z : Value} {bytes : Nat} (E : Elem P t e z bytes) (hg : o.guard = none) (l c : Operand) (hop : o.op = Op.makeSlice t l c) (base : Nat) (L C : Int) (n : Nat) (hl : a.eval l = .int .i64 L) (hc : a.eval c = .int .i64 C)
    (hL : L = (n : Int)) (hC : C = (n : Int)) (b2 : bytes * n ≤ 281474976710656) (b3 : n ≤ maxLen) (b4 : base ≤ w.heap.size)
    (hK : ∀ w', Own base w' e (.slice (some ⟨w.heap.size, 0, none⟩) n n) (List.replicate n z) → Below w.heap.size w w' → w.heap.size < w'.heap.size → wpList P ops Q rest (a.put o.dst (.slice (some ⟨w.heap.size, 0, none⟩) n n)) w') :
    wpList P ops Q (o :: rest) a w := by
  obtain ⟨i, h2, h3, h4, h5⟩ := E.info
  refine wpList_make_full w hg l c t hop base e i z 1 E.und h2 h3 h4 .i64 .i64 L C n hl hc hL hC (by rw [h5]; exact b2) b3 b4 fun w' hown hgr => ?_
  rw [E.cell, madeCells_one] at hown
  refine hK w' ?_ (below_of_grown hgr (Nat.le_refl _) (fun k hk => by cases hk)) ?_
  · unfold Own; rw [List.length_replicate]; exact hown
  · rcases hown.2 with ⟨h', _⟩ | ⟨g', cap', cur, h', hb, hg, _⟩
    · simp at h'
    · simp only [Value.slice.injEq, Option.some.injEq, Addr.mk.injEq, and_true, true_and] at h'
      rw [h'.1]
      exact (Array.getElem?_eq_some_iff.1 hg).1

/-- append(v, src...) -/
theorem wp_append {w : World} {t e : TypeId} {z : Value} {bytes : Nat} (E : Elem P t e z bytes) (hgd : o.guard = none) (s x : Operand) (ho : o.op = .call { callee := .builtin .append, args := #[s, x], argTypes := #[t, t] })
    (base : Nat) (v : Value) (xs : List Value) (hs : a.eval s = v) (hown : Own base w e v xs) (A : Option Addr) (m c : Nat) (ys : List Value) (hx : a.eval x = .slice A m c) (hm : m = ys.length) (hnil : A = none → c = 0) (hr : Rd w A ys) (h1 : ∀ u ∈ ys, u.oneCell' = true)
    (hb : (xs.length + ys.length) * bytes ≤ 140737488355328) (hb1 : 0 < bytes) (hbase : base ≤ w.heap.size)
    (h : ∀ v' w', Own base w' e v' (xs ++ ys) → w.grownBy w' v.ownBlock → Moves w v v' → wpList P ops Q rest (a.put o.dst v') w') : wpList P ops Q (o :: rest) a w := by
  obtain ⟨i, h2, h3, h4, h5⟩ := E.info
  subst hm
  cases A with
  | none =>
    have h0 : ys = [] := by
      cases ys with
      | nil => rfl
      | cons y r => obtain ⟨b, o, hh, _⟩ := hr.at_ 0 (by simp); cases hh
    subst h0
    have hc := hnil rfl
    subst hc
    refine wpList_append_own_none hgd s x t ho base e i 1 E.und h2 v xs.length xs hs hown hx (h _ _ ?_ (grownBy_refl _ _) (fun g _ hg => hg))
    rw [List.append_nil]; exact hown
  | some ad =>
    have hcells : ∀ j u, ys[j]? = some u → w.cell? (ad.add j) = some u := by
      intro j u hu
      obtain ⟨hj, rfl⟩ := List.getElem?_eq_some_iff.1 hu
      obtain ⟨b, o, e, hcell⟩ := hr.at_ j hj
      cases e
      rw [add_lit]
      exact hcell j hj
    have hmax : xs.length + ys.length ≤ maxLen := by
      have : (xs.length + ys.length) * 1 ≤ (xs.length + ys.length) * bytes := Nat.mul_le_mul_left _ hb1
      unfold maxLen
      omega
    have grows : ∀ (ao : Option Addr) (cap : Nat), a.eval s = .slice ao xs.length cap → (ao = none → xs.length = 0 ∧ cap = 0) → (∀ b, ao = some b → ∀ j u, xs[j]? = some u → w.cell? (b.add j) = some u) → cap < xs.length + ys.length → wpList P ops Q (o :: rest) a w := by
      intro ao cap hs' hn' holds hfull
      refine wpList_append_grows w hgd s x t ho e i z 1 bytes E.und h2 h3 h4 h5 (by rw [E.cell]; rfl) (by decide) ao xs.length cap xs hs' hn' (by omega) holds ad ys.length c ys hx (by omega) hcells h1 hfull hmax hb fun v' w' o1 g1 => ?_
      have o2 : Own w.heap.size w' e v' (xs ++ ys) := by unfold Own; rw [List.length_append]; exact o1
      refine h v' w' (o2.base hbase) ⟨g1.os, g1.tape, g1.output, g1.size, fun k hk _ => g1.block k hk (by simp)⟩ ?_
      intro g hg _ hh
      have := (o1.lt g hh).1
      omega
    rcases hown.shape with ⟨rfl, h0⟩ | ⟨g, cap, rfl, hbg, hgl, hcc, hcm, hob⟩
    · subst h0
      by_cases hy : ys = []
      · subst hy
        refine wpList_append_own w hgd s x t ho base e i z 1 bytes E.und h2 h3 h4 h5 (by rw [E.cell]; rfl) (by decide) _ 0 [] hs hown ad 0 c [] hx rfl hcells h1 hmax hb hbase fun v' w' o1 g1 hn => ?_
        obtain rfl := hn.2 ⟨rfl, rfl⟩
        exact h _ w' o1 g1 (fun g _ hg => hg)
      · have : 0 < ys.length := List.length_pos_iff.2 hy
        exact grows none 0 hs (fun _ => ⟨rfl, rfl⟩) (fun b hb => by cases hb) (by simpa using this)
    · by_cases hfit : xs.length + ys.length ≤ cap
      · refine wpList_append_fits w hgd s x t ho base e i 1 E.und h2 h4 g xs.length cap xs hs hown ad ys.length c ys hx (by omega) hcells h1 hfit fun w' o1 g1 => ?_
        refine h _ w' ?_ g1 (fun k _ hk hh => hk (by rw [hob]; exact hh))
        unfold Own; rw [List.length_append]; exact o1
      · refine grows (some ⟨g, 0, none⟩) cap hs (fun hh => by cases hh) (fun b hb j u hu => ?_) (by omega)
        cases hb
        obtain ⟨hj, rfl⟩ := List.getElem?_eq_some_iff.1 hu
        rw [add_lit, Nat.zero_add]
        exact Own.cell hown rfl j hj

/-- append(v, x), behind the slice of x alone -/
theorem wp_push {w : World} {t e : TypeId} {z : Value} {bytes : Nat} (E : Elem P t e z bytes) (hgd : o.guard = none) (s x : Operand) (ho : o.op = .call { callee := .builtin .append, args := #[s, x], argTypes := #[t, t] })
    (base : Nat) (v : Value) (xs : List Value) (hs : a.eval s = v) (y : Value) (hx : a.eval x = .slice (some ⟨w.heap.size, 0, none⟩) 1 1) (hown : Own base w e v xs) (h1 : y.oneCell' = true)
    (hb : (xs.length + 1) * bytes ≤ 140737488355328) (hb1 : 0 < bytes) (hbase : base ≤ w.heap.size)
    (h : ∀ v' w', Own base w' e v' (xs ++ [y]) → w.grownBy w' v.ownBlock → Moves w v v' → wpList P ops Q rest (a.put o.dst v') w') : wpList P ops Q (o :: rest) a (w.alloc (.cells #[y] e)) := by
  refine wp_append E hgd s x ho base v xs hs (World.ownsRow.alloc hown _) (some ⟨w.heap.size, 0, none⟩) 1 1 [y] hx rfl (fun hh => by cases hh) ⟨fun i hi => ⟨_, _, rfl, fun j hj => ?_⟩⟩ (fun u hu => ?_) hb hb1 (by simp; omega) fun v' w' o1 g1 hm => h v' w' o1 ?_ (fun g hg => hm g (by simp; omega))
  · simp at hj
    subst hj
    simp
  · simp at hu; subst hu; exact h1
  · exact grownBy_trans (World.grownBy_alloc w _ _) g1
end
end Go.Proofs.Mem
