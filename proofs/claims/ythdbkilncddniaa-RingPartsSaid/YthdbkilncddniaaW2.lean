/- One step of the proof of a statement of this seat: plain laws and walks of the ring package; no condition. -/
import Derived.Test.YthdbkilncddniaaW1
set_option linter.unusedVariables false
set_option linter.unusedSimpArgs false
open Go.RowKit
namespace Go.Proofs.Ythdbkilncddniaa.Ring

theorem info3 : (Try.prog.info? 3).map (fun i => (i.zero, i.size, i.bytes)) = some (some (.int .i64 0), 1, 8) := by kernel_rfl

abbrev OwnI (base : Nat) (w : World) (v : Value) (l : List Int) : Prop := w.ownsRow base 3 1 v l.length (ints l)

def MadeI (w : World) (l : List Int) (e : Ending) (w' : World) : Prop := ∃ v, e = .returned v ∧ OwnI w.heap.size w' v l ∧ Below w.heap.size w w'

theorem add_lit (b o j : Nat) : (⟨b, o, none⟩ : Addr).add j = ⟨b, o + j, none⟩ := by unfold Addr.add; split <;> simp_all
theorem ints_get {l : List Int} {j : Nat} {u : Value} (h : (ints l)[j]? = some u) : j < l.length ∧ u = .int .i64 (nth l j) := by
  unfold ints at h
  rw [List.getElem?_map] at h
  obtain ⟨x, hx, rfl⟩ := Option.map_eq_some_iff.1 h
  obtain ⟨hj, rfl⟩ := List.getElem?_eq_some_iff.1 hx
  exact ⟨hj, by simp [nth, List.getD_eq_getElem?_getD, hj]⟩
theorem ints_one (l : List Int) : ∀ u ∈ ints l, u.oneCell' = true := by
  intro u hu
  obtain ⟨x, _, rfl⟩ := List.mem_map.1 hu
  rfl
theorem RdI.cells {w : World} {a : Addr} {l : List Int} (h : RdI w (some a) l) (j : Nat) (u : Value) (hu : (ints l)[j]? = some u) : w.cell? (a.add j) = some u := by
  obtain ⟨hj, rfl⟩ := ints_get hu
  obtain ⟨b, o, e, hc⟩ := h.at_ j hj
  cases e
  rw [add_lit]
  exact hc j hj
theorem cell_later {w : World} {a : Addr} {v : Value} {o : Obj} (h : w.cell? a = some v) : (w.alloc o).cell? a = some v :=
  (World.cell?_of_block (Below.heap_alloc w o a.block (World.block_lt_of_cell? w a h))).trans h

set_option maxHeartbeats 400000 in
theorem clone_any (A : Option Addr) (l : List Int) (cap : Nat) (w : World) (hll : l.length ≤ 1000000) (hA : RdI w A l) :
    Calls Try.prog 20 #[.slice A l.length cap] w (MadeI w l) := by
  obtain ⟨i0, hi, hz0, hz1, hz2⟩ := info_parts info3
  cases A with
  | none =>
    have h0 : l = [] := by
      cases l with
      | nil => rfl
      | cons x r => obtain ⟨b, o, h, _⟩ := hA.at_ 0 (by simp); cases h
    subst h0
    have hnil := fun w => Lib.run_eql_slice_nil (P := Try.prog) w 26 3 none 0 cap 0 0 Try.underlying26
    go_enter Try.func20, Try.ntmps20
    go_wp2
    go_ret
    exact ⟨_, rfl, World.ownsRow_nil _ _ _ _, Below.refl _ _⟩
  | some a =>
    have hnil := fun w => Lib.run_eql_slice_nil (P := Try.prog) w 26 3 (some a) l.length cap 0 0 Try.underlying26
    go_enter Try.func20, Try.ntmps20
    go_wp2_with (at_builtin; refine wpList_append_own _ rfl _ _ 26 rfl w.heap.size 3 i0 (.int .i64 0) 1 8 Try.underlying26 hi hz0 hz1 hz2 rfl (by decide) _ 0 [] rfl ?c0 a l.length cap (ints l) rfl ?c1 ?c2 ?c3 ?c4 ?c5 ?c6 ?_)
    case c0 => exact World.ownsRow_made w #[] 0 (Nat.le_refl _) (by decide) rfl
    case c1 => simp [ints]
    case c2 => exact fun j u hu => (cell_later (hA.cells j u hu))
    case c3 => exact ints_one l
    case c4 => unfold maxLen; omega
    case c5 => omega
    case c6 => simp
    intro v' w1 hown hg hne
    go_wp2
    go_ret
    exact ⟨_, rfl, hown, ((Below.refl _ _).alloc (Nat.le_refl _) _).grown hg (by simp) (fun k hk => by simp [Value.ownBlock] at hk; omega)⟩
end Go.Proofs.Ythdbkilncddniaa.Ring
