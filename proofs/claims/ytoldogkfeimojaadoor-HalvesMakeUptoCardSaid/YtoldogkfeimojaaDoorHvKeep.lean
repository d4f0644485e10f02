/- One step of the proof of a statement of this seat: plain laws and walks of the store, log, journal and halves packages; no condition. -/
import Derived.Test.YtoldogkfeimojaaDoorHvMem
import Derived.Laws.BitsAllLaws
import Derived.Laws.CopyRow
import Derived.Laws.Rows
set_option linter.unusedVariables false
set_option linter.unusedSimpArgs false
/-! what a call leaves of older memory: all blocks but some -/
open Go.RowKit
namespace Go.Proofs.Mem

/-- all blocks of w but those of S lie in w' as they lay -/
structure Keeps (S : Nat → Prop) (w w' : World) : Prop where
  os : w'.os = w.os
  tape : w'.tape = w.tape
  output : w'.output = w.output
  size : w.heap.size ≤ w'.heap.size
  block : ∀ k, k < w.heap.size → ¬ S k → w'.heap[k]? = w.heap[k]?

def none' : Nat → Prop := fun _ => False
theorem Keeps.refl (S : Nat → Prop) (w : World) : Keeps S w w := ⟨rfl, rfl, rfl, Nat.le_refl _, fun _ _ _ => rfl⟩
theorem Keeps.step {S T : Nat → Prop} {w w1 w2 : World} (h : Keeps S w w1) (k : Keeps T w1 w2) (hT : ∀ i, i < w.heap.size → T i → S i) : Keeps S w w2 :=
  ⟨k.os.trans h.os, k.tape.trans h.tape, k.output.trans h.output, Nat.le_trans h.size k.size, fun i hi hn => (k.block i (Nat.lt_of_lt_of_le hi h.size) (fun ht => hn (hT i hi ht))).trans (h.block i hi hn)⟩
theorem Keeps.trans {S : Nat → Prop} {w w1 w2 : World} (h : Keeps S w w1) (k : Keeps S w1 w2) : Keeps S w w2 := h.step k fun _ _ h => h
theorem Keeps.mono {S T : Nat → Prop} {w w' : World} (h : Keeps S w w') (hT : ∀ i, i < w.heap.size → S i → T i) : Keeps T w w' :=
  ⟨h.os, h.tape, h.output, h.size, fun i hi hn => h.block i hi (fun hs => hn (hT i hi hs))⟩
theorem Keeps.of_below {S : Nat → Prop} {w w' : World} (h : Below w.heap.size w w') : Keeps S w w' := ⟨h.os, h.tape, h.output, h.size, fun i hi _ => h.block i hi⟩
theorem Keeps.below {S : Nat → Prop} {w w1 w2 : World} (h : Keeps S w w1) (k : Below w1.heap.size w1 w2) : Keeps S w w2 := h.trans (.of_below k)
theorem Keeps.alloc {S : Nat → Prop} {w w1 : World} (h : Keeps S w w1) (o : Obj) : Keeps S w (w1.alloc o) := h.below ((Below.refl _ _).alloc (Nat.le_refl _) o)
theorem Keeps.drew {S : Nat → Prop} {w w1 : World} (h : Keeps S w w1) : Keeps S w w1.drew := ⟨h.os, h.tape, h.output, h.size, h.block⟩
theorem Keeps.un {S : Nat → Prop} {w w1 : World} (h : Keeps S w.drew w1) : Keeps S w w1 := ⟨h.os, h.tape, h.output, h.size, h.block⟩
theorem Keeps.drewN {S : Nat → Prop} {w w1 : World} (h : Keeps S w w1) (n : Nat) : Keeps S w (w1.drewN n) := ⟨h.os, h.tape, h.output, h.size, h.block⟩
theorem Keeps.setCell {S : Nat → Prop} {w w1 : World} (h : Keeps S w w1) {a : Addr} (ha : S a.block ∨ w.heap.size ≤ a.block) (v : Value) : Keeps S w (w1.setCell a v) :=
  h.step (T := fun k => k = a.block) ⟨rfl, rfl, rfl, by simp [World.setCell], fun k _ hk => Below.heap_setCell _ _ _ _ hk⟩ (by rintro i hi rfl; rcases ha with h | h; exact h; omega)
theorem Keeps.setRow {S : Nat → Prop} {w w1 : World} (h : Keeps S w w1) {g : Nat} (ha : S g ∨ w.heap.size ≤ g) (cs : Array Value) : Keeps S w (w1.setRow g cs) :=
  h.step (T := fun k => k = g) ⟨rfl, rfl, rfl, by simp, fun k _ hk => setRow_other w1 g k cs hk⟩ (by rintro i hi rfl; rcases ha with h | h; exact h; omega)
theorem Keeps.grown {S : Nat → Prop} {w w1 w2 : World} {r : Option Nat} (h : Keeps S w w1) (k : w1.grownBy w2 r) (hr : ∀ g, r = some g → S g ∨ w.heap.size ≤ g) : Keeps S w w2 :=
  h.step (T := fun k => r = some k) ⟨k.os, k.tape, k.output, k.size, fun i hi hn => k.block i hi (fun e => hn e.symm)⟩ (fun i hi e => by rcases hr i e with h | h; exact h; omega)
theorem Keeps.to_below {S : Nat → Prop} {w w' : World} (h : Keeps S w w') (B : Nat) (hB : B ≤ w.heap.size) (hS : ∀ i, i < B → ¬ S i) : Below B w w' := ⟨h.os, h.tape, h.output, h.size, fun i hi => h.block i (by omega) (hS i hi)⟩
theorem Keeps.to_below0 {w w' : World} (h : Keeps none' w w') : Below w.heap.size w w' := h.to_below _ (Nat.le_refl _) (fun _ _ h => h)
theorem Keeps.cell {S : Nat → Prop} {w w' : World} {a : Addr} {v : Value} (hk : Keeps S w w') (h : w.cell? a = some v) (hn : ¬ S a.block) : w'.cell? a = some v :=
  (World.cell?_of_block (hk.block a.block (World.block_lt_of_cell? w a h) hn)).trans h
theorem Keeps.rd {S : Nat → Prop} {w w' : World} {A : Option Addr} {xs : List Value} (hk : Keeps S w w') (h : Rd w A xs) (hn : ∀ a, A = some a → ¬ S a.block) : Rd w' A xs :=
  ⟨fun i hi => by
    obtain ⟨b, o, e, hc⟩ := h.at_ i hi
    exact ⟨b, o, e, fun j hj => hk.cell (a := ⟨b, o + j, none⟩) (hc j hj) (hn ⟨b, o, none⟩ e)⟩⟩
theorem Keeps.rd0 {S : Nat → Prop} {w w' : World} {A : Option Addr} {xs : List Value} (hk : Keeps S w w') (h : Rd w A xs) (hn : ∀ a, A = some a → 0 < xs.length → ¬ S a.block) : Rd w' A xs :=
  ⟨fun i hi => by
    obtain ⟨b, o, e, hc⟩ := h.at_ i hi
    exact ⟨b, o, e, fun j hj => hk.cell (a := ⟨b, o + j, none⟩) (hc j hj) (hn ⟨b, o, none⟩ e (by omega))⟩⟩
theorem Keeps.own {S : Nat → Prop} {w w' : World} {base : Nat} {e : TypeId} {v : Value} {xs : List Value} (hk : Keeps S w w') (h : Own base w e v xs) (hn : ∀ g, v.ownBlock = some g → ¬ S g) : Own base w' e v xs := by
  refine ⟨h.1, ?_⟩
  rcases h.2 with h' | ⟨g, cap, cur, h1, h2, h3, h4⟩
  · exact .inl h'
  · refine .inr ⟨g, cap, cur, h1, h2, ?_, h4⟩
    subst h1
    rw [hk.block g (Array.getElem?_eq_some_iff.1 h3).1 (hn g rfl), h3]

/-- a block of cells, known whole -/
def Blk (w : World) (g : Nat) (t : TypeId) (cs : List Value) : Prop := w.heap[g]? = some (.cells cs.toArray t (0, 0))
theorem Blk.lt {w : World} {g : Nat} {t : TypeId} {cs : List Value} (h : Blk w g t cs) : g < w.heap.size := (Array.getElem?_eq_some_iff.1 h).1
theorem Blk.cell {w : World} {g : Nat} {t : TypeId} {cs : List Value} (h : Blk w g t cs) (i : Nat) (hi : i < cs.length) : w.cell? ⟨g, i, none⟩ = some cs[i] := by
  unfold Blk at h
  simp [World.cell?, h, hi]
theorem Blk.cell0 {w : World} {g : Nat} {t : TypeId} {v : Value} {l : List Value} (h : Blk w g t (v :: l)) : w.cell? ⟨g, 0, none⟩ = some v := h.cell 0 (by simp)
theorem Blk.cell1 {w : World} {g : Nat} {t : TypeId} {a v : Value} {l : List Value} (h : Blk w g t (a :: v :: l)) : w.cell? ⟨g, 1, none⟩ = some v := h.cell 1 (by simp)
theorem Blk.cell2 {w : World} {g : Nat} {t : TypeId} {a b v : Value} {l : List Value} (h : Blk w g t (a :: b :: v :: l)) : w.cell? ⟨g, 2, none⟩ = some v := h.cell 2 (by simp)
theorem Blk.cell3 {w : World} {g : Nat} {t : TypeId} {a b c v : Value} {l : List Value} (h : Blk w g t (a :: b :: c :: v :: l)) : w.cell? ⟨g, 3, none⟩ = some v := h.cell 3 (by simp)
theorem Blk.cell4 {w : World} {g : Nat} {t : TypeId} {a b c d v : Value} {l : List Value} (h : Blk w g t (a :: b :: c :: d :: v :: l)) : w.cell? ⟨g, 4, none⟩ = some v := h.cell 4 (by simp)
theorem Blk.cell5 {w : World} {g : Nat} {t : TypeId} {a b c d e v : Value} {l : List Value} (h : Blk w g t (a :: b :: c :: d :: e :: v :: l)) : w.cell? ⟨g, 5, none⟩ = some v := h.cell 5 (by simp)
theorem Blk.cell6 {w : World} {g : Nat} {t : TypeId} {a b c d e f v : Value} {l : List Value} (h : Blk w g t (a :: b :: c :: d :: e :: f :: v :: l)) : w.cell? ⟨g, 6, none⟩ = some v := h.cell 6 (by simp)
theorem Blk.free {w : World} {g : Nat} {t : TypeId} {cs : List Value} (h : Blk w g t cs) (i : Nat) : w.frozen? ⟨g, i, none⟩ = false := by
  unfold Blk at h
  simp [World.frozen?, h]
theorem Blk.same {w w' : World} {g : Nat} {t : TypeId} {cs : List Value} (h : Blk w g t cs) (he : w'.heap[g]? = w.heap[g]?) : Blk w' g t cs := by
  unfold Blk at h ⊢
  rw [he, h]
theorem Blk.keeps {S : Nat → Prop} {w w' : World} {g : Nat} {t : TypeId} {cs : List Value} (h : Blk w g t cs) (hk : Keeps S w w') (hn : ¬ S g) : Blk w' g t cs := h.same (hk.block g h.lt hn)
theorem Blk.below {w w' : World} {g : Nat} {t : TypeId} {cs : List Value} (h : Blk w g t cs) (hk : Below w.heap.size w w') : Blk w' g t cs := h.same (hk.block g h.lt)
theorem Blk.grown {w w' : World} {g : Nat} {t : TypeId} {cs : List Value} {r : Option Nat} (h : Blk w g t cs) (hk : w.grownBy w' r) (hn : r ≠ some g) : Blk w' g t cs := h.same (hk.block g h.lt (fun e => hn e.symm))
theorem Blk.set {w : World} {g : Nat} {t : TypeId} {cs : List Value} (h : Blk w g t cs) (i : Nat) (u : Value) : Blk (w.setCell ⟨g, i, none⟩ u) g t (cs.set i u) := by
  unfold Blk at h ⊢
  rw [heap_setCell_same w g i cs.toArray t u h]
  simp
theorem Blk.other {w : World} {g : Nat} {t : TypeId} {cs : List Value} (h : Blk w g t cs) (a : Addr) (u : Value) (hn : g ≠ a.block) : Blk (w.setCell a u) g t cs := h.same (Below.heap_setCell _ _ _ _ hn)
theorem Blk.alloc {w : World} {g : Nat} {t : TypeId} {cs : List Value} (h : Blk w g t cs) (o : Obj) : Blk (w.alloc o) g t cs := h.same (Below.heap_alloc _ _ _ h.lt)
theorem Blk.drew {w : World} {g : Nat} {t : TypeId} {cs : List Value} (h : Blk w g t cs) : Blk w.drew g t cs := h
theorem Blk.new (w : World) (t : TypeId) (cs : List Value) : Blk (w.alloc (.cells cs.toArray t)) w.heap.size t cs := heap_alloc_new w _
theorem Blk.row {w : World} {g : Nat} {t : TypeId} {cs ds : List Value} (h : Blk w g t cs) : Blk (w.setRow g ds.toArray) g t ds := setRow_heap w g _ _ t _ h
theorem Blk.rd {w : World} {g : Nat} {t : TypeId} {cs : List Value} (h : Blk w g t cs) : Rd w (some ⟨g, 0, none⟩) cs :=
  ⟨fun i hi => ⟨g, 0, rfl, fun j hj => by rw [Nat.zero_add]; exact h.cell j hj⟩⟩
end Go.Proofs.Mem
