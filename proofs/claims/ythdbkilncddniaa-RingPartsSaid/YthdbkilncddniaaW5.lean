/- One step of the proof of a statement of this seat: plain laws and walks of the ring package; no condition. -/
import Derived.Test.YthdbkilncddniaaW4
set_option linter.unusedVariables false
set_option linter.unusedSimpArgs false
open Go.RowKit
namespace Go.Proofs.Ythdbkilncddniaa.Ring
open RingM

def Tells (w : World) (b : Bool) (e : Ending) (w' : World) : Prop := e = .returned (.bool b) ∧ Below w.heap.size w w'
def TellsI (w : World) (k : Int) (e : Ending) (w' : World) : Prop := e = .returned (.int .i64 k) ∧ Below w.heap.size w w'

theorem below_drewN {B : Nat} {w W : World} (h : Below B w W) (n : Nat) : Below B w (W.drewN n) := ⟨h.os, h.tape, h.output, h.size, h.block⟩

theorem same_upto {l r : List Int} (hl : l.length = r.length) (h : ∀ j, j < l.length → nth l j = nth r j) : decide (l = r) = true := by
  simp only [decide_eq_true_eq]
  apply List.ext_getElem hl
  intro i h1 h2
  have := h i h1
  simpa [nth, List.getD_eq_getElem?_getD, h1, h2] using this

def TellsQ (w : World) (b : Bool) (e : Ending) (w' : World) : Prop := e = .returned (.bool b) ∧ ∃ q, w' = w.drewN q
theorem drewN_add (w : World) (a b : Nat) : (w.drewN a).drewN b = w.drewN (a + b) := World.drewN_drewN ..

theorem below_of_drew {w wr : World} (h : ∃ q, wr = w.drewN q) : Below w.heap.size w wr := by
  obtain ⟨q, rfl⟩ := h
  exact below_drewN (Below.refl _ _) q
theorem drew_drewN {w wr : World} (h : ∃ q, wr = w.drewN q) (n : Nat) : ∃ q, wr.drewN n = w.drewN q := by
  obtain ⟨q, rfl⟩ := h
  exact ⟨_, drewN_add w q n⟩

set_option maxHeartbeats 1000000 in
theorem same_any (A B : Option Addr) (l r : List Int) (c c' : Nat) (w : World) (hl : l.length ≤ 1000000) (_hr : r.length ≤ 1000000) (hA : RdI w A l) (hB : RdI w B r) :
    Calls Try.prog 16 #[.slice A l.length c, .slice B r.length c'] w (TellsQ w (decide (l = r))) := by
  by_cases hlen : l.length = r.length
  · have hne : ((l.length : Int) != (r.length : Int)) = false := by simp [hlen]
    go_enter Try.func16, Try.ntmps16
    go_wp2
    go_loopw [5] (fun i wr => ∃ k : Nat, k ≤ l.length ∧ i = .int .i64 k ∧ (∀ j, j < k → nth l j = nth r j) ∧ ∃ q, wr = w.drewN q) (fun i _ => l.length - (intOf i).toNat)
    case atStart => exact ⟨0, Nat.zero_le _, rfl, fun j hj => by omega, 0, rfl⟩
    case round =>
      obtain ⟨k, hk, rfl, hs, hq⟩ := hrel
      have hb := below_of_drew hq
      have HQ := Lib.hid hq
      clear hq
      have HS := Lib.hid hs
      have HLEN := Lib.hid hlen
      clear hs
      by_cases hlt : k < l.length
      · have hltr : k < r.length := by omega
        clear hlen
        obtain ⟨b, o, rfl, hc⟩ := (hA.below hb).at_ k hlt
        obtain ⟨b', o', rfl, hc'⟩ := (hB.below hb).at_ k hltr
        have h1 := hc k hlt
        have h2 := hc' k hltr
        clear hc hc'
        cases he : (nth l k == nth r k) with
        | true =>
          have HE := Lib.hid he
          go_wp2
          go_quiet (fail)
          go_wp2
          go_roundw
          case rel => exact ⟨k + 1, by omega, by go_num, fun j hj => by
            rcases Nat.lt_or_ge j k with h | h
            · exact HS.out j h
            · have : j = k := by omega
              rw [this]; simpa using HE.out, drew_drewN HQ.out _⟩
          case measure => simp [intOf]; omega
        | false =>
          have HF : Hid (decide (l = r) = false) := by
            refine Lib.hid ?_
            simp only [decide_eq_false_iff_not]
            intro e
            rw [e] at he
            simp at he
          go_wp2
          go_quiet (fail)
          go_wp2
          go_ret
          exact ⟨by rw [HF.out]; rfl, drew_drewN HQ.out _⟩
      · have HT := Lib.hid (same_upto hlen fun j hj => HS.out j (by omega))
        clear hlen
        go_wp2
        go_ret
        exact ⟨by rw [HT.out]; rfl, HQ.out⟩
  · have hne : ((l.length : Int) != (r.length : Int)) = true := by simp; omega
    have HF : Hid (decide (l = r) = false) := by
      refine Lib.hid ?_
      simp only [decide_eq_false_iff_not]
      intro e
      rw [e] at hlen
      exact hlen rfl
    clear hlen
    go_enter Try.func16, Try.ntmps16
    go_wp2
    go_ret
    exact ⟨by rw [HF.out]; rfl, 0, rfl⟩

theorem all_upto {n m : Net} (hl : n.length = m.length) (h : ∀ j, j < n.length → row n j = row m j) : decide (n = m) = true := by
  simp only [decide_eq_true_eq]
  apply List.ext_getElem hl
  intro i h1 h2
  have := h i h1
  simpa [row, List.getD_eq_getElem?_getD, h1, h2] using this

set_option maxHeartbeats 1000000 in
theorem all_any (A B : Option Addr) (n m : Net) (c c' : Nat) (w : World) (hl : n.length ≤ 1000000) (hrl : ∀ i, (row n i).length ≤ 1000000) (hrm : ∀ i, (row m i).length ≤ 1000000) (hA : RdN w A n) (hB : RdN w B m) :
    Calls Try.prog 15 #[.slice A n.length c, .slice B m.length c'] w (TellsQ w (decide (n = m))) := by
  by_cases hlen : n.length = m.length
  · have hne : ((n.length : Int) != (m.length : Int)) = false := by simp [hlen]
    go_enter Try.func15, Try.ntmps15
    go_wp2
    go_loopw [5] (fun i wr => ∃ k : Nat, k ≤ n.length ∧ i = .int .i64 k ∧ (∀ j, j < k → row n j = row m j) ∧ ∃ q, wr = w.drewN q) (fun i _ => n.length - (intOf i).toNat)
    case atStart => exact ⟨0, Nat.zero_le _, rfl, fun j hj => by omega, 0, rfl⟩
    case round =>
      obtain ⟨k, hk, rfl, hs, hq⟩ := hrel
      have hb := below_of_drew hq
      have HQ := Lib.hid hq
      clear hq
      have HS := Lib.hid hs
      have HLEN := Lib.hid hlen
      clear hs
      by_cases hlt : k < n.length
      · have hltm : k < m.length := by omega
        clear hlen
        obtain ⟨b, o, rfl, hc⟩ := (hA.below hb).at_ k hlt
        obtain ⟨b', o', rfl, hc'⟩ := (hB.below hb).at_ k hltm
        obtain ⟨A1, c1, h1, r1⟩ := hc k hlt
        obtain ⟨B1, c2, h2, r2⟩ := hc' k hltm
        clear hc hc'
        have hsame := fun q => same_any A1 B1 (row n k) (row m k) c1 c2 (wr.drewN q) (hrl k) (hrm k) (r1.below (below_drewN (Below.refl _ _) q)) (r2.below (below_drewN (Below.refl _ _) q))
        by_cases he : row n k = row m k
        · have HE := Lib.hid he
          have ht : decide (row n k = row m k) = true := by simp [he]
          rw [ht] at hsame
          clear he ht
          go_wp2
          go_quiet ((go_at_call 16; exact Calls.quiet_of (hsame _)))
          go_wp2
          go_roundw
          case rel => exact ⟨k + 1, by omega, by go_num, fun j hj => by
            rcases Nat.lt_or_ge j k with h | h
            · exact HS.out j h
            · have : j = k := by omega
              rw [this]; exact HE.out, drew_drewN HQ.out _⟩
          case measure => simp [intOf]; omega
        · have HF : Hid (decide (n = m) = false) := by
            refine Lib.hid ?_
            simp only [decide_eq_false_iff_not]
            intro e
            rw [e] at he
            simp at he
          have ht : decide (row n k = row m k) = false := by simp [he]
          rw [ht] at hsame
          clear he ht
          go_wp2
          go_quiet ((go_at_call 16; exact Calls.quiet_of (hsame _)))
          go_wp2
          go_ret
          exact ⟨by rw [HF.out]; rfl, drew_drewN HQ.out _⟩
      · have HT := Lib.hid (all_upto hlen fun j hj => HS.out j (by omega))
        clear hlen
        go_wp2
        go_ret
        exact ⟨by rw [HT.out]; rfl, HQ.out⟩
  · have hne : ((n.length : Int) != (m.length : Int)) = true := by simp; omega
    have HF : Hid (decide (n = m) = false) := by
      refine Lib.hid ?_
      simp only [decide_eq_false_iff_not]
      intro e
      rw [e] at hlen
      exact hlen rfl
    clear hlen
    go_enter Try.func15, Try.ntmps15
    go_wp2
    go_ret
    exact ⟨by rw [HF.out]; rfl, 0, rfl⟩
end Go.Proofs.Ythdbkilncddniaa.Ring
