/- One step of the proof of a statement of this seat: plain laws and walks of the ring package; no condition. -/
import Derived.Test.YthdbkilncddniaaW25
set_option linter.unusedVariables false
set_option linter.unusedSimpArgs false
open Go.RowKit
namespace Go.Proofs.Ythdbkilncddniaa.Ring
open RingM Go.Proofs.Mem

def netA : Net := [[1], [2], [1]]
def netB : Net := [[], [0], [0]]
def netC : Net := [[1], [2], []]
theorem ringsA : rings netA = [[0], [1, 2]] := by decide
theorem orderA : (order netA).2 = 7 := by decide
theorem orderB : order netB = ([1, 2, 0], 0) := by decide
theorem longC : longest netC = (2, 0) := by decide
theorem turnA : turn netA = [[], [0, 2], [1]] := by decide
theorem reachA : reach netA 0 = [1, 2] := by decide
theorem loopsA1 : loops netA 1 = true := by decide
theorem loopsA0 : loops netA 0 = false := by decide
theorem smallA : Small netA := small_of (by decide)
theorem smallB : Small netB := small_of (by decide)
theorem smallC : Small netC := small_of (by decide)

theorem rows_le {n : Net} (h : n.all (fun r => decide (r.length ≤ 1000000)) = true) : ∀ i, (row n i).length ≤ 1000000 := fun i => by
  by_cases hi : i < n.length
  · have := List.all_eq_true.1 h _ (row_mem hi)
    simpa using this
  · rw [row_out hi]; simp
/-- a net of three rows, built -/
def litW3 (w : World) (x y z : List Int) : World :=
  (((w.alloc (.cells (ints x).toArray 3)).alloc (.cells (ints y).toArray 3)).alloc (.cells (ints z).toArray 3)).alloc (.cells #[.slice (some ⟨w.heap.size, 0, none⟩) x.length x.length, .slice (some ⟨w.heap.size + 1, 0, none⟩) y.length y.length, .slice (some ⟨w.heap.size + 1 + 1, 0, none⟩) z.length z.length] 26)
def litW2 (w : World) (x y : List Int) : World :=
  ((w.alloc (.cells (ints x).toArray 3)).alloc (.cells (ints y).toArray 3)).alloc (.cells #[.slice (some ⟨w.heap.size, 0, none⟩) x.length x.length, .slice (some ⟨w.heap.size + 1, 0, none⟩) y.length y.length] 26)
def litW1 (w : World) (x : List Int) : World := w.alloc (.cells (ints x).toArray 3)
theorem litW3_heap (w : World) (x y z : List Int) : (litW3 w x y z).heap = w.heap ++ #[.cells (ints x).toArray 3, .cells (ints y).toArray 3, .cells (ints z).toArray 3, .cells #[.slice (some ⟨w.heap.size, 0, none⟩) x.length x.length, .slice (some ⟨w.heap.size + 1, 0, none⟩) y.length y.length, .slice (some ⟨w.heap.size + 1 + 1, 0, none⟩) z.length z.length] 26] := by
  apply Array.ext'
  simp only [litW3, World.alloc, Array.toList_push, Array.toList_append, List.append_assoc, List.cons_append, List.nil_append]
theorem litW2_heap (w : World) (x y : List Int) : (litW2 w x y).heap = w.heap ++ #[.cells (ints x).toArray 3, .cells (ints y).toArray 3, .cells #[.slice (some ⟨w.heap.size, 0, none⟩) x.length x.length, .slice (some ⟨w.heap.size + 1, 0, none⟩) y.length y.length] 26] := by
  apply Array.ext'
  simp only [litW2, World.alloc, Array.toList_push, Array.toList_append, List.append_assoc, List.cons_append, List.nil_append]
theorem litW1_heap (w : World) (x : List Int) : (litW1 w x).heap = w.heap ++ #[.cells (ints x).toArray 3] := by
  apply Array.ext'
  simp only [litW1, World.alloc, Array.toList_push, Array.toList_append]
theorem below_more {w w' : World} {a : Array Obj} (h : w'.heap = w.heap ++ a) (ho : w'.os = w.os) (ht : w'.tape = w.tape) (hp : w'.output = w.output) : Below w.heap.size w w' :=
  ⟨ho, ht, hp, by rw [h]; simp, fun k hk => by rw [h, Array.getElem?_append_left hk]⟩
theorem lit3_below (w : World) (x y z : List Int) : Below w.heap.size w (litW3 w x y z) := below_more (litW3_heap w x y z) rfl rfl rfl
theorem lit2_below (w : World) (x y : List Int) : Below w.heap.size w (litW2 w x y) := below_more (litW2_heap w x y) rfl rfl rfl
theorem lit1_below (w : World) (x : List Int) : Below w.heap.size w (litW1 w x) := below_more (litW1_heap w x) rfl rfl rfl
theorem rdI_block {w : World} {g : Nat} {x : List Int} (h : w.heap[g]? = some (.cells (ints x).toArray 3)) : RdI w (some ⟨g, 0, none⟩) x := by
  refine ⟨fun i _ => ⟨g, 0, rfl, fun j hj => ?_⟩⟩
  unfold World.cell?
  simp only [h, Nat.zero_add]
  simp [ints, nth, List.getD_eq_getElem?_getD, hj]
theorem lit1_rd (w : World) (x : List Int) : RdI (litW1 w x) (some ⟨w.heap.size, 0, none⟩) x := rdI_block (by rw [litW1_heap]; simp)
theorem cell_block {w : World} {g k : Nat} {a : Array Value} {t : TypeId} {v : Value} (h : w.heap[g]? = some (.cells a t (0, 0))) (hv : a[k]? = some v) : w.cell? ⟨g, 0 + k, none⟩ = some v := by
  unfold World.cell?
  simp only [h, Nat.zero_add]
  exact hv
theorem lit3_rd (w : World) (x y z : List Int) : RdN (litW3 w x y z) (some ⟨w.heap.size + 1 + 1 + 1, 0, none⟩) [x, y, z] := by
  have hh := litW3_heap w x y z
  have hg : ∀ k, (litW3 w x y z).heap[w.heap.size + k]? = (#[.cells (ints x).toArray 3, .cells (ints y).toArray 3, .cells (ints z).toArray 3, .cells #[.slice (some ⟨w.heap.size, 0, none⟩) x.length x.length, .slice (some ⟨w.heap.size + 1, 0, none⟩) y.length y.length, .slice (some ⟨w.heap.size + 1 + 1, 0, none⟩) z.length z.length] 26] : Array Obj)[k]? := fun k => by
    rw [hh, Array.getElem?_append_right (by omega)]
    simp
  refine ⟨fun i _ => ⟨_, 0, rfl, fun j hj => ?_⟩⟩
  match j, hj with
  | 0, _ => exact ⟨_, _, cell_block (hg 3) rfl, rdI_block (hg 0)⟩
  | 1, _ => exact ⟨_, _, cell_block (hg 3) rfl, rdI_block (hg 1)⟩
  | 2, _ => exact ⟨_, _, cell_block (hg 3) rfl, rdI_block (hg 2)⟩
  | k + 3, h => simp at h; omega
theorem lit2_rd (w : World) (x y : List Int) : RdN (litW2 w x y) (some ⟨w.heap.size + 1 + 1, 0, none⟩) [x, y] := by
  have hh := litW2_heap w x y
  have hg : ∀ k, (litW2 w x y).heap[w.heap.size + k]? = (#[.cells (ints x).toArray 3, .cells (ints y).toArray 3, .cells #[.slice (some ⟨w.heap.size, 0, none⟩) x.length x.length, .slice (some ⟨w.heap.size + 1, 0, none⟩) y.length y.length] 26] : Array Obj)[k]? := fun k => by
    rw [hh, Array.getElem?_append_right (by omega)]
    simp
  refine ⟨fun i _ => ⟨_, 0, rfl, fun j hj => ?_⟩⟩
  match j, hj with
  | 0, _ => exact ⟨_, _, cell_block (hg 2) rfl, rdI_block (hg 0)⟩
  | 1, _ => exact ⟨_, _, cell_block (hg 2) rfl, rdI_block (hg 1)⟩
  | k + 2, h => simp at h; omega

set_option maxHeartbeats 4000000 in
set_option maxRecDepth 100000 in
theorem awake_any (w : World) : Calls Try.prog 7 #[] w fun e w' => e = .returned (.bool true) ∧ Below w.heap.size w w' := by
  go_enter Try.func7, Try.ntmps7
  go_wp2_with fail
  have h1 := lit3_rd w [1] [2] [1]
  have b1 := lit3_below w [1] [2] [1]
  show Calls Try.prog 9 _ (litW3 w [1] [2] [1]) _
  generalize litW3 w [1] [2] [1] = w1 at h1 b1 ⊢
  have hr := rings_out w1 _ 3 netA smallA h1
  rw [ringsA] at hr
  refine hr.mono ?_
  rintro e w2 ⟨A2, c2, rfl, h2, b2⟩
  have r2 := h1.below b2
  have bb2 := b1.trans (b2.mono b1.size)
  clear h1 b1 b2 hr
  have ho := order_any _ netA 3 w2 smallA r2
  go_wp2_with fail
  refine ho.mono ?_
  rintro e w3 ⟨A3, c3, rfl, _, _, b3⟩
  have h3 := h2.below b3
  have r3 := r2.below b3
  have bb3 := bb2.trans (b3.mono bb2.size)
  rw [orderA]
  clear ho h2 r2 bb2 b3
  go_wp2_with fail
  have k4 := lit3_rd w3 [] [0] [0]
  have l4 := lit3_below w3 [] [0] [0]
  show Calls Try.prog 12 _ (litW3 w3 [] [0] [0]) _
  generalize litW3 w3 [] [0] [0] = w4 at k4 l4 ⊢
  have ho := order_any _ netB 3 w4 smallB k4
  rw [orderB] at ho
  refine ho.mono ?_
  rintro e w5 ⟨A5, c5, rfl, _, k5, b5⟩
  have bb5 := l4.trans (b5.mono l4.size)
  have h5 := h3.below bb5
  have r5 := r3.below bb5
  have q5 := rdI_of_nat k5
  have bw5 := bb3.trans (bb5.mono bb3.size)
  clear ho k4 l4 h3 r3 bb3 k5 bb5 b5
  go_wp2_with fail
  have k6 := lit3_rd w5 [1] [2] []
  have l6 := lit3_below w5 [1] [2] []
  show Calls Try.prog 14 _ (litW3 w5 [1] [2] []) _
  generalize litW3 w5 [1] [2] [] = w6 at k6 l6 ⊢
  have ho := longest_any _ netC 3 w6 smallC k6
  rw [longC] at ho
  refine ho.mono ?_
  rintro e w7 ⟨rfl, b7⟩
  have bb7 := l6.trans (b7.mono l6.size)
  have h7 := h5.below bb7
  have r7 := r5.below bb7
  have q7 := q5.below bb7
  have bw7 := bw5.trans (bb7.mono bw5.size)
  clear ho k6 l6 h5 r5 q5 bw5 bb7 b7
  go_wp2_with fail
  have ht := turn_out w7 _ 3 netA smallA r7
  rw [turnA] at ht
  refine ht.mono ?_
  rintro e w8 ⟨A8, c8, rfl, t8, b8⟩
  have h8 := h7.below b8
  have r8 := r7.below b8
  have q8 := q7.below b8
  have bw8 := bw7.trans (b8.mono bw7.size)
  clear ht h7 r7 q7 bw7 b8
  go_wp2_with fail
  have k9 := lit2_rd w8 [0] [1, 2]
  have l9 := lit2_below w8 [0] [1, 2]
  show Calls Try.prog 15 _ (litW2 w8 [0] [1, 2]) _
  generalize litW2 w8 [0] [1, 2] = w9 at k9 l9 ⊢
  have ha := all_any A2 _ [[0], [1, 2]] [[0], [1, 2]] c2 2 w9 (by decide) (rows_le (by decide)) (rows_le (by decide)) (h8.below l9) k9
  rw [decide_eq_true rfl] at ha
  refine ha.mono ?_
  rintro e w10 ⟨rfl, hq⟩
  have bb := l9.trans ((below_of_drew hq).mono l9.size)
  have r10 := r8.below bb
  have q10 := q8.below bb
  have t10 := t8.below bb
  have bw10 := bw8.trans (bb.mono bw8.size)
  clear ha k9 l9 h8 r8 q8 t8 bw8 bb hq
  go_wp2_with fail
  have k11 := lit1_rd w10 [1, 2, 0]
  have l11 := lit1_below w10 [1, 2, 0]
  show Calls Try.prog 16 _ (litW1 w10 [1, 2, 0]) _
  generalize litW1 w10 [1, 2, 0] = w11 at k11 l11 ⊢
  have ha := same_any A5 _ (RingM.cast [1, 2, 0]) [1, 2, 0] c5 3 w11 (by decide) (by decide) (q10.below l11) k11
  rw [decide_eq_true (by decide)] at ha
  refine ha.mono ?_
  rintro e w12 ⟨rfl, hq⟩
  have bb := l11.trans ((below_of_drew hq).mono l11.size)
  have r12 := r10.below bb
  have t12 := t10.below bb
  have bw12 := bw10.trans (bb.mono bw10.size)
  clear ha k11 l11 r10 q10 t10 bw10 bb hq
  go_wp2_with fail
  have ha := reach_in _ netA 3 0 w12 smallA (by decide) r12
  rw [show reach netA ((0 : Nat) : Int) = [1, 2] from reachA] at ha
  refine ha.mono ?_
  rintro e w13 ⟨A13, c13, rfl, _, k13, b13⟩
  have q13 := rdI_of_nat k13
  have r13 := r12.below b13
  have t13 := t12.below b13
  have bw13 := bw12.trans (b13.mono bw12.size)
  clear ha r12 t12 bw12 b13 k13
  go_wp2_with fail
  have k14 := lit1_rd w13 [1, 2]
  have l14 := lit1_below w13 [1, 2]
  show Calls Try.prog 16 _ (litW1 w13 [1, 2]) _
  generalize litW1 w13 [1, 2] = w14 at k14 l14 ⊢
  have ha := same_any A13 _ (RingM.cast [1, 2]) [1, 2] c13 2 w14 (by decide) (by decide) (q13.below l14) k14
  rw [decide_eq_true (by decide)] at ha
  refine ha.mono ?_
  rintro e w15 ⟨rfl, hq⟩
  have bb := l14.trans ((below_of_drew hq).mono l14.size)
  have r15 := r13.below bb
  have t15 := t13.below bb
  have bw15 := bw13.trans (bb.mono bw13.size)
  clear ha k14 l14 r13 q13 t13 bw13 bb hq
  go_wp2_with fail
  have ha := loops_any _ netA 3 1 w15 smallA (by decide) r15
  rw [show loops netA ((1 : Nat) : Int) = true from loopsA1] at ha
  refine ha.mono ?_
  rintro e w16 ⟨rfl, b16⟩
  have r16 := r15.below b16
  have t16 := t15.below b16
  have bw16 := bw15.trans (b16.mono bw15.size)
  clear ha r15 t15 bw15 b16
  go_wp2_with fail
  have ha := loops_any _ netA 3 0 w16 smallA (by decide) r16
  rw [show loops netA ((0 : Nat) : Int) = false from loopsA0] at ha
  refine ha.mono ?_
  rintro e w17 ⟨rfl, b17⟩
  have t17 := t16.below b17
  have bw17 := bw16.trans (b17.mono bw16.size)
  clear ha r16 t16 bw16 b17
  go_wp2_with fail
  have k18 := lit3_rd w17 [] [0, 2] [1]
  have l18 := lit3_below w17 [] [0, 2] [1]
  show Calls Try.prog 15 _ (litW3 w17 [] [0, 2] [1]) _
  generalize litW3 w17 [] [0, 2] [1] = w18 at k18 l18 ⊢
  have ha := all_any A8 _ [[], [0, 2], [1]] [[], [0, 2], [1]] c8 3 w18 (by decide) (rows_le (by decide)) (rows_le (by decide)) (t17.below l18) k18
  rw [decide_eq_true rfl] at ha
  refine ha.mono ?_
  rintro e w19 ⟨rfl, hq⟩
  have bb := l18.trans ((below_of_drew hq).mono l18.size)
  have bw19 := bw17.trans (bb.mono bw17.size)
  clear ha k18 l18 t17 bw17 bb hq
  go_wp2_with fail
  go_ret
  exact ⟨rfl, bw19⟩
end Go.Proofs.Ythdbkilncddniaa.Ring
