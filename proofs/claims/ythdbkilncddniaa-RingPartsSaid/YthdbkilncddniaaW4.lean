/- One step of the proof of a statement of this seat: plain laws and walks of the ring package; no condition. -/
import Derived.Test.YthdbkilncddniaaW3
import Derived.Test.YthdbkilncddniaaRingOrder
set_option linter.unusedVariables false
set_option linter.unusedSimpArgs false
open Go.RowKit
namespace Go.Proofs.Ythdbkilncddniaa.Ring
open RingM

def row (n : Net) (i : Nat) : List Int := n.getD i []

/-- a value reads as a net -/
structure RdN (w : World) (A : Option Addr) (n : Net) : Prop where
  at_ : ∀ i, i < n.length → ∃ b o, A = some ⟨b, o, none⟩ ∧ ∀ i, i < n.length → ∃ A' c', w.cell? ⟨b, o + i, none⟩ = some (.slice A' (row n i).length c') ∧ RdI w A' (row n i)

/-- a net that the laws look at -/
structure Small (n : Net) : Prop where
  len : n.length ≤ 24
  rows : ∀ i, (row n i).length ≤ 60

theorem RdI.below {w w' : World} {A : Option Addr} {l : List Int} (h : RdI w A l) (hb : Below w.heap.size w w') : RdI w' A l :=
  ⟨fun i hi => by
    obtain ⟨b, o, e, hc⟩ := h.at_ i hi
    exact ⟨b, o, e, fun j hj => (hb.cell (p := ⟨b, o + j, none⟩) (World.block_lt_of_cell? w _ (hc j hj))).trans (hc j hj)⟩⟩
theorem RdN.below {w w' : World} {A : Option Addr} {n : Net} (h : RdN w A n) (hb : Below w.heap.size w w') : RdN w' A n :=
  ⟨fun i hi => by
    obtain ⟨b, o, e, hc⟩ := h.at_ i hi
    refine ⟨b, o, e, fun j hj => ?_⟩
    obtain ⟨A', c', h1, h2⟩ := hc j hj
    exact ⟨A', c', (hb.cell (p := ⟨b, o + j, none⟩) (World.block_lt_of_cell? w _ h1)).trans h1, h2.below hb⟩⟩
theorem below_of_grown {B : Nat} {w w' : World} {g : Option Nat} (h : w.grownBy w' g) (hB : B ≤ w.heap.size) (hg : ∀ k, g = some k → B ≤ k) : Below B w w' :=
  (Below.refl B w).grown h hB hg

theorem own_base {w : World} {base base' : Nat} {e : TypeId} {size n : Nat} {v : Value} {xs : List Value} (h : w.ownsRow base e size v n xs) (hb : base' ≤ base) : w.ownsRow base' e size v n xs := by
  refine ⟨h.1, ?_⟩
  rcases h.2 with h' | ⟨g, cap, cur, h1, h2, h3⟩
  · exact .inl h'
  · exact .inr ⟨g, cap, cur, h1, Nat.le_trans hb h2, h3⟩

set_option maxHeartbeats 1000000 in
theorem ways_any (A : Option Addr) (n : Net) (c i : Nat) (w : World) (hs : Small n) (hi : i < n.length) (hA : RdN w A n) :
    Calls Try.prog 18 #[.slice A n.length c, .int .i64 i] w (MadeI w (waysI n i)) := by
  have hl := hs.len
  obtain ⟨b, o, rfl, hrows⟩ := hA.at_ i hi
  obtain ⟨A', c', hcell, hrow⟩ := hrows i hi
  have hrl := hs.rows i
  have HR := Lib.hid hrows
  clear hrows
  have hb1 : Below w.heap.size w (w.alloc (.cells #[.slice (some ⟨b, o, none⟩) n.length c] 23)) := (Below.refl _ _).alloc (Nat.le_refl _) _
  have hcell1 := cell_later (o := .cells #[.slice (some ⟨b, o, none⟩) n.length c] 23) hcell
  have hwf : waysI n i = (row n i).filter (hasI n.length) := rfl
  have HW := Lib.hid hwf
  clear hwf
  go_enter Try.func18, Try.ntmps18
  go_wp2_with fail
  refine (clone_any A' (row n i) c' _ (by omega) (hrow.below hb1)).mono ?_
  rintro e w1 ⟨v1, rfl, hown1, hbel1⟩
  have hsz1 : w.heap.size + 1 ≤ w1.heap.size := by have := hbel1.size; simpa using this
  have hbox : w1.cell? ⟨w.heap.size, 0, none⟩ = some (.slice (some ⟨b, o, none⟩) n.length c) := by
    rw [hbel1.cell (p := ⟨w.heap.size, 0, none⟩) (by simp)]
    simp
  go_wp2_with fail
  refine (deleteFunc_any (w.heap.size + 1) v1 (row n i) (some ⟨b, o, none⟩) n.length c w.heap.size w1 (by omega) (by omega) (by simpa using hown1) (by omega) hbox).mono ?_
  rintro e w2 ⟨v2, rfl, hown2, hgr2⟩
  rw [← HW.out] at hown2
  go_wp2
  go_ret
  refine ⟨_, rfl, ?_, ?_⟩
  · exact own_base hown2 (by omega)
  · refine (hb1.trans (below_of_grown (B := w.heap.size) ⟨hbel1.os, hbel1.tape, hbel1.output, hbel1.size, fun k hk _ => hbel1.block k hk⟩ (by simp) (g := none) (fun k hk => by cases hk))).trans ?_
    refine below_of_grown hgr2 (by omega) fun k hk => ?_
    have := (hown1.lt k hk).1
    simp at this
    omega
end Go.Proofs.Ythdbkilncddniaa.Ring
