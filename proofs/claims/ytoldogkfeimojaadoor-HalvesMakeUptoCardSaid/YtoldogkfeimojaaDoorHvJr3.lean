/- One step of the proof of a statement of this seat: plain laws and walks of the store, log, journal and halves packages; no condition. -/
import Derived.Test.YtoldogkfeimojaaDoorHvJr2
import Derived.RangeFuncNested
import Derived.RangeFuncBound
import Derived.RangeFuncCalls
import Derived.RangeFuncLeaves
import Derived.RangeFuncWrites
import Derived.Shelf.Abstract
import Derived.Shelf.RegionOpen
import Derived.OwnWalkIn
import Derived.TacticsInMore
import Derived.LoopNIn
import Derived.LoopIn
set_option linter.unusedVariables false
set_option linter.unusedSimpArgs false
open Go.RowKit Go.Shelf
namespace Go.Proofs.YtoldogkfeimojaaDoor.Hv
open Go.Proofs.Hv Go.Proofs.Mem
attribute [local go_sem] Oper.semAt_some

/-- all cells but those of some blocks read as they did -/
def KC (S : Nat → Prop) (W W' : World) : Prop := ∀ (a : Addr) (v : Value), ¬ S a.block → W.cell? a = some v → W'.cell? a = some v
theorem KC.refl (S : Nat → Prop) (W : World) : KC S W W := fun _ _ _ h => h
theorem KC.trans {S : Nat → Prop} {A B C : World} (h : KC S A B) (k : KC S B C) : KC S A C := fun a v hn hc => k a v hn (h a v hn hc)
theorem KC.keeps {S : Nat → Prop} {A B : World} (h : Keeps S A B) : KC S A B := fun _ _ hn hc => h.cell hc hn
theorem KC.putObj {S : Nat → Prop} {w : World} (W : World) (l : Nat) (o o' : Obj) (_ : w.heap.size ≤ l) (h : W.heap[l]? = some o) (hc : o.isCells = false) (_ : o.isWalk = false) : KC S W (W.putObj l o') :=
  fun _ _ _ hv => cell_kept hv (grownBy_putObj' W l o') (fun r e => by cases e; exact ⟨o, h, hc⟩)

/-- how many blocks a range of bytes touches -/
def cnt (lo hi : Nat) : Nat := (hi + 31) / 32 - lo / 32
abbrev vals {M : Nat} (l : List (Fin M)) : List Nat := l.map fun i => i.1
theorem vals_snoc {M : Nat} (l : List (Fin M)) (x : Fin M) : vals (l ++ [x]) = vals l ++ [x.1] := by simp [vals]
theorem range_snoc (a k : Nat) : List.range' a k ++ [a + k] = List.range' a (k + 1) := by
  rw [List.range'_concat]
  simp

set_option maxRecDepth 100000 in
set_option maxHeartbeats 1000000 in
theorem blocks1_in (n : Nat) (hn : 1 ≤ n) (l b1 b2 lo hi M : Nat) (S : Nat → Prop) (hb1 : ¬ S b1) (hb2 : ¬ S b2) (hhi : hi ≤ 32 * M) (hM : M ≤ 1000000) (hlo : lo ≤ 1000000000) (J Jx : List (Fin M) → World → Prop)
    (hY : ∀ pre x W, J pre W → pre.length < cnt lo hi → YieldAt Fence.wide (n - 1) Tryd.prog l #[.int .i64 (x.1 : Int)] W fun e W' =>
      (e = .returned (.bool true) ∧ J (pre ++ [x]) W' ∧ KC S W W') ∨ (e = .returned (.bool false) ∧ Jx (pre ++ [x]) W'))
    (W : World) (hc1 : W.cell? ⟨b1, 0, none⟩ = some (.int .i64 (lo : Int))) (hc2 : W.cell? ⟨b2, 0, none⟩ = some (.int .i64 (hi : Int))) (h0 : J [] W) :
    CallsIn Fence.wide n Tryd.prog 65 #[.func (.yield l) #[] #[], .pointer (some ⟨b1, 0, none⟩), .pointer (some ⟨b2, 0, none⟩)] W fun e W' => (∃ v, e = .returned v) ∧
      ((∃ ys, vals ys = List.range' (lo / 32) (cnt lo hi) ∧ J ys W') ∨ (∃ pre, (∃ k, k ≤ cnt lo hi ∧ vals pre = List.range' (lo / 32) k) ∧ Jx pre W')) := by
  refine callsIn_of_wp Tryd.func65 rfl trivial ?_ rfl
  simp only [Tryd.ntmps65, List.size_toArray, List.length_cons, List.length_nil, Nat.reduceAdd, Nat.reduceSub, Array.replicate_succ, Array.replicate_zero, List.push_toArray, List.append_toArray, List.nil_append, List.cons_append]
  gi_wp2
  gi_loopw [4] (fun i wr => ∃ (k : Nat) (pre : List (Fin M)), k ≤ cnt lo hi ∧ i = .int .i64 ((lo : Int) / 32 + (k : Int)) ∧ vals pre = List.range' (lo / 32) k ∧ J pre wr ∧ KC S W wr)
    (fun i _ => cnt lo hi - (intOf i - (lo : Int) / 32).toNat)
  case atStart => exact ⟨0, [], Nat.zero_le _, by simp, rfl, h0, KC.refl _ _⟩
  case round =>
    obtain ⟨k, pre, hk, rfl, hv, hJs, hkc⟩ := hrel
    have hx1 := hkc _ _ hb1 hc1
    have hx2 := hkc _ _ hb2 hc2
    have hpl : pre.length = k := by have := congrArg List.length hv; simpa [vals] using this
    have HH := Lib.hid (And.intro hv (And.intro hkc hpl))
    clear hv hkc hpl
    by_cases hlt : k < cnt lo hi
    · have hM' : lo / 32 + k < M := by unfold cnt at hlt; omega
      have hhi' : (lo / 32 + k) * 32 < hi := by unfold cnt at hlt; omega
      obtain ⟨fn, tmps, assign, body, hy, hR⟩ := hY pre ⟨lo / 32 + k, hM'⟩ wr hJs (by rw [HH.out.2.2]; exact hlt)
      push_cast at hy
      have g1 : ((lo : Int) / 32 + (k : Int)) * 32 < (hi : Int) := by omega
      have g2 : (0 : Int) ≤ (lo : Int) / 32 + (k : Int) := by omega
      have g3 : (lo : Int) / 32 + (k : Int) ≤ 1000000 := by omega
      gi_wp2
      refine hR.mono ?_
      have hsn : vals (pre ++ [⟨lo / 32 + k, hM'⟩]) = List.range' (lo / 32) (k + 1) := by rw [vals_snoc, HH.out.1]; exact range_snoc _ _
      have HN := Lib.hid hsn
      clear hsn
      rintro e W3 (⟨rfl, hJ3, hk3⟩ | ⟨rfl, hJx3⟩)
      · gi_wp2
        go_roundw
        case rel => exact ⟨k + 1, _, by omega, by go_num, HN.out, hJ3, HH.out.2.1.trans hk3⟩
        case measure => simp [intOf]; omega
      · gi_wp2
        refine bodyPost_ret (results_none rfl _ _ _) rfl ?_
        exact ⟨⟨_, rfl⟩, .inr ⟨_, ⟨k + 1, by omega, HN.out⟩, hJx3⟩⟩
    · obtain rfl : k = cnt lo hi := by omega
      have g1 : (hi : Int) ≤ ((lo : Int) / 32 + ((cnt lo hi : Nat) : Int)) * 32 := by unfold cnt; omega
      have g2 : (0 : Int) ≤ (lo : Int) / 32 + ((cnt lo hi : Nat) : Int) := by omega
      have g3 : (lo : Int) / 32 + ((cnt lo hi : Nat) : Int) ≤ 1000000000 := by unfold cnt; omega
      gi_wp2
      go_end0
      exact ⟨⟨_, rfl⟩, .inl ⟨_, HH.out.1, hJs⟩⟩
theorem blocks_stops (n : Nat) (hn : 1 ≤ n) (b1 b2 lo hi M : Nat) (S : Nat → Prop) (hb1 : ¬ S b1) (hb2 : ¬ S b2) (hhi : hi ≤ 32 * M) (hM : M ≤ 1000000) (hlo : lo ≤ 1000000000) (w : World)
    (hc1 : w.cell? ⟨b1, 0, none⟩ = some (.int .i64 (lo : Int))) (hc2 : w.cell? ⟨b2, 0, none⟩ = some (.int .i64 (hi : Int))) :
    SeqStopsK Fence.wide n Tryd.prog 65 #[.pointer (some ⟨b1, 0, none⟩), .pointer (some ⟨b2, 0, none⟩)] (fun x : Fin M => #[Value.int .i64 (x.1 : Int)]) (KC S)
      (fun ys => vals ys = List.range' (lo / 32) (cnt lo hi)) (fun pre => ∃ k, k ≤ cnt lo hi ∧ vals pre = List.range' (lo / 32) k) (cnt lo hi) w := fun l J Jx W hW _ _ hY h0 =>
  blocks1_in n hn l b1 b2 lo hi M S hb1 hb2 hhi hM hlo J Jx hY W (cell_below hW hc1) (cell_below hW hc2) h0
end Go.Proofs.YtoldogkfeimojaaDoor.Hv
