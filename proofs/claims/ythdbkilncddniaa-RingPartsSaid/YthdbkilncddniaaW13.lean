/- One step of the proof of a statement of this seat: plain laws and walks of the ring package; no condition. -/
import Derived.Test.YthdbkilncddniaaW12
import Derived.RegionTactic
import Derived.BigRegion
set_option linter.unusedVariables false
set_option linter.unusedSimpArgs false
open Go.RowKit
namespace Go.Proofs.Ythdbkilncddniaa.Ring
open RingM Go.Proofs.Mem

/-- in the loop over a point's ways -/
def LongIn (w w1 : World) (n : Net) (fin : Nat) (rest : List Nat) (j v gl : Nat) (A2 : Option Addr) (f : Nat) (v7 v33 : Value) (wr : World) : Prop :=
  ∃ (i : Nat) (long : List Nat) (most : Nat), i + f = (waysN n v).length + 1 ∧ i ≤ (waysN n v).length ∧ v33 = .int .i64 i ∧ v7 = .int .i64 most ∧
    (longAll n rest (longRow v ((waysN n v).drop i) (long, most))).2 = fin ∧ long.length = n.length ∧ (∀ x, long.getD x 0 ≤ 61 * j + i) ∧ most ≤ 61 * j + i ∧
    Own gl wr 3 (.slice (some ⟨gl, 0, none⟩) n.length n.length) (vints long) ∧ Rd wr A2 (vints (waysN n v)) ∧ Below w1.heap.size w1 wr

def LongOut (w1 : World) (n : Net) (fin : Nat) (l : List Nat) (gl : Nat) (f : Nat) (v7 v25 : Value) (wr : World) : Prop :=
  ∃ (j : Nat) (long : List Nat) (most : Nat), j + f = l.length + 1 ∧ j ≤ l.length ∧ v25 = .int .i64 j ∧ v7 = .int .i64 most ∧
    (longAll n (l.drop j) (long, most)).2 = fin ∧ long.length = n.length ∧ (∀ x, long.getD x 0 ≤ 61 * j) ∧ most ≤ 61 * j ∧
    Own gl wr 3 (.slice (some ⟨gl, 0, none⟩) n.length n.length) (vints long) ∧ Below w1.heap.size w1 wr

def LongPost (w : World) (r : Nat × Int) (e : Ending) (w' : World) : Prop :=
  e = .returned (.tuple #[.int .i64 (r.1 : Int), .int .i64 r.2]) ∧ Below w.heap.size w w'

theorem vints_zero (N : Nat) : List.replicate N (Value.int .i64 0) = vints (List.replicate N 0) := by simp [vints]
theorem vints_set (l : List Nat) (k x : Nat) : (vints l).set k (.int .i64 (x : Int)) = vints (l.set k x) := by simp [vints, List.map_set]
theorem vints_at {base : Nat} {w : World} {g n c : Nat} {l : List Nat} (h : Own base w 3 (.slice (some ⟨g, 0, none⟩) n c) (vints l)) (hn : n = l.length) {i : Nat} (hi : i < l.length) : w.cell? ⟨g, i, none⟩ = some (.int .i64 ((l.getD i 0 : Nat) : Int)) := by
  rw [Own.cell h (by rw [vints_length]; exact hn) i (by rw [vints_length]; exact hi)]
  simp [vints, List.getD_eq_getElem?_getD, hi]

theorem vint_eq {z : Int} {m : Nat} (h : z = (m : Int)) : Value.int .i64 z = .int .i64 (m : Int) := by rw [h]
theorem long_store {gl : Nat} {w : World} {n c k m : Nat} {z : Int} {l : List Nat} (h : Own gl w 3 (.slice (some ⟨gl, 0, none⟩) n c) (vints l)) (hn : n = l.length) (hz : z = (m : Int)) :
    Own gl (w.setCell ⟨gl, k, none⟩ (.int .i64 z)).drew 3 (.slice (some ⟨gl, 0, none⟩) n c) (vints (l.set k m)) := by
  subst hz
  have := (Own.store h (by rw [vints_length]; exact hn) k (.int .i64 (m : Int))).1
  rw [vints_set] at this
  exact this
theorem grown_store (w : World) (g k : Nat) (u : Value) : w.grownBy (w.setCell ⟨g, k, none⟩ u).drew (some g) :=
  have h := grownBy_setCell w g k u
  ⟨h.os, h.tape, h.output, h.size, h.block⟩
theorem longRow_step {v k : Nat} {r long : List Nat} {most : Nat} (hk : k < long.length) :
    longRow v (k :: r) (long, most) = longRow v r (long.set k (max (long.getD k 0) (long.getD v 0 + 1)), max most (max (long.getD k 0) (long.getD v 0 + 1))) := by
  rw [longRow, getD_set_eq hk]

set_option maxHeartbeats 2000000 in
theorem longest_any (A : Option Addr) (n : Net) (c : Nat) (w : World) (hs : Small n) (hA : RdN w A n) :
    Calls Try.prog 14 #[.slice A n.length c] w (LongPost w (longest n)) := by
  have hl := hs.len
  rcases order_told n with ⟨_, ho⟩ | ⟨_, l, ho, hll, hnd, hlt, _, _⟩
  · have hlong : longest n = (0, 7) := by unfold longest; rw [ho]; rfl
    have hord := order_any A n c w hs hA
    rw [ho] at hord
    have HL := Lib.hid hlong
    clear ho hlong
    go_enter Try.func14, Try.ntmps14
    go_wp2_with fail
    refine hord.mono ?_
    rintro e w1 ⟨A1, c1, rfl, _, _, hb1⟩
    go_wp2
    go_ret2
    rw [HL.out]
    exact ⟨rfl, hb1⟩
  · rw [if_neg (by omega)] at ho
    obtain ⟨fin, hfin⟩ : ∃ fin, fin = (longAll n l (List.replicate n.length 0, 0)).2 := ⟨_, rfl⟩
    have hlong : longest n = (fin, 0) := by unfold longest; rw [ho, hfin]; rfl
    have hord := order_any A n c w hs hA
    rw [ho] at hord
    have HL := Lib.hid hlong
    have HFIN := Lib.hid hfin
    have HLT := Lib.hid hlt
    have HLL := Lib.hid hll
    clear ho hlong hfin hlt hnd hll
    go_enter Try.func14, Try.ntmps14
    go_wp2_with fail
    refine hord.mono ?_
    rintro e w1 ⟨A1, c1, rfl, hown1, hrd1, hb1⟩
    have hsz1 := hb1.size
    go_wp2_with (refine wp_make E26 rfl _ _ rfl w1.heap.size _ _ n.length rfl rfl rfl rfl (by omega) (by unfold maxLen; omega) (Nat.le_refl _) ?_)
    intro w2 hown2 hb2 hsz2
    rw [vints_zero] at hown2
    have hst : LongOut w1 n fin l w1.heap.size (l.length + 1) (.int .i64 0) (.int .i64 0) w2 := by
      refine ⟨0, _, 0, by omega, by omega, rfl, rfl, HFIN.out.symm, by simp, fun x => ?_, by omega, hown2, hb2⟩
      simp only [List.getD_eq_getElem?_getD, List.getElem?_replicate]
      split <;> simp
    have HST := Lib.hid hst
    have hll24 : l.length ≤ 24 := by rw [HLL.out]; exact hl
    clear hst hown2 hb2
    go_wp2
    go_loopg [7, 25] (l.length + 1) (fun f v7 v25 wr => LongOut w1 n fin l w1.heap.size f v7 v25 wr)
    case atStart => exact HST.out
    case round =>
      obtain ⟨j, long, most, hf, hj, rfl, rfl, hrun, hlen, hbd, hmb, hown, hb⟩ := hrel
      obtain ⟨f0, hf0⟩ : ∃ x, x = gk := ⟨_, rfl⟩
      rw [← hf0] at hf
      have HF0 := Lib.hid hf0
      clear hf0
      by_cases hjl : j < l.length
      · obtain ⟨v, hv⟩ : ∃ v, v = l[j] := ⟨_, rfl⟩
        have hvn : v < n.length := by rw [hv]; exact HLT.out _ (List.getElem_mem hjl)
        obtain ⟨b1, o1, rfl, hc1⟩ := (hrd1.below hb).at_ j (by rw [vints_length]; exact hjl)
        have hcj : wr.cell? ⟨b1, o1 + j, none⟩ = some (.int .i64 (v : Int)) := by
          rw [hc1 j (by rw [vints_length]; exact hjl), hv]
          simp [vints]
        have hrun2 : (longAll n (l.drop (j + 1)) (longRow v ((waysN n v).drop 0) (long, most))).2 = fin := by
          rw [← hrun, drop_cons hjl, ← hv]
          rfl
        have HRUN := Lib.hid hrun2
        have HLEN := Lib.hid hlen
        have HBD := Lib.hid hbd
        have hbw : Below w.heap.size w wr := hb1.trans (hb.mono hsz1)
        have hszw := hb.size
        have hwl := ways_small hs v
        have hgl := hown.lt
        clear hrun hrun2 hlen hbd hv hc1
        go_wp2_with (go_at_call 18; refine (waysN_any A n c v wr hs hvn (hA.below hbw)).mono ?_; rintro e w3 ⟨A2, c2, rfl, hown3, hrd3, hnil3, hblk3, hb3⟩)
        have hst3 : LongIn w w1 n fin (l.drop (j + 1)) j v w1.heap.size A2 ((waysN n v).length + 1) (.int .i64 most) (.int .i64 0) w3 :=
          ⟨0, long, most, by omega, by omega, rfl, rfl, HRUN.out, HLEN.out, fun x => HBD.out x, by omega, hown.below hb3, hrd3, hb.trans (hb3.mono hszw)⟩
        have HST3 := Lib.hid hst3
        have hap : ∀ a, A2 = some a → a.block ≠ w1.heap.size := fun a ha => by have := hblk3 a ha; omega
        have HAP := Lib.hid hap
        clear hst3 hown3 hrd3 hown hb hb3 hbw hap hblk3
        go_loopg [7, 33] ((waysN n v).length + 1) (fun f v7 v33 wr => LongIn w w1 n fin (l.drop (j + 1)) j v w1.heap.size A2 f v7 v33 wr)
        case atStart => exact HST3.out
        case round =>
          obtain ⟨i, long, most, hif, hi, rfl, rfl, hrun, hlen, hbd, hmb2, hown, hrd, hb⟩ := hrel
          by_cases hlt2 : i < (waysN n v).length
          · obtain ⟨k, hkd⟩ : ∃ k, k = (waysN n v)[i] := ⟨_, rfl⟩
            have hk : k < n.length := by rw [hkd]; exact ways_lt (List.getElem_mem hlt2)
            obtain ⟨b2, o2, rfl, hc2⟩ := hrd.at_ i (by rw [vints_length]; exact hlt2)
            have hci : wr.cell? ⟨b2, o2 + i, none⟩ = some (.int .i64 (k : Int)) := by
              rw [hc2 i (by rw [vints_length]; exact hlt2), hkd]
              simp [vints]
            have hck := vints_at hown hlen.symm (i := k) (by rw [hlen]; exact hk)
            have hcv := vints_at hown hlen.symm (i := v) (by rw [hlen]; exact hvn)
            have hbk := hbd k
            have hbv := hbd v
            have hfz := Own.frozen hown (by rw [vints_length]; exact hlen.symm) k
            generalize hxk : long.getD k 0 = xk at hck hbk
            generalize hxv : long.getD v 0 = xv at hcv hbv
            have HXK := Lib.hid hxk
            have HXV := Lib.hid hxv
            have HLEN := Lib.hid hlen
            have HBD := Lib.hid hbd
            have HRUN := Lib.hid hrun
            have HOWN := Lib.hid hown
            have HRD := Lib.hid hrd
            have HKD := Lib.hid hkd
            clear hxk hxv hlen hbd hrun hown hrd hkd hc2
            go_wp2
            go_region
            go_wp2
            all_goals go_roundg (gk - 1)
            all_goals first | (case measure => omega) | skip
            all_goals
              case rel =>
                refine ⟨i + 1, long.set k (max xk (xv + 1)), max most (max xk (xv + 1)), by omega, by omega, by go_num, vint_eq (by omega), ?_, by simp [HLEN.out], fun x => ?_, by omega, long_store HOWN.out HLEN.out.symm (by omega), Rd.grown HRD.out (grown_store _ _ _ _) fun a ha hh => ?_, (hb.setCell (Nat.le_refl _) _).drew⟩
                · rw [← HRUN.out, drop_cons hlt2, ← HKD.out]
                  rw [longRow_step (by rw [HLEN.out]; exact hk), HXK.out, HXV.out]
                · have := HBD.out x
                  rw [getD_set]
                  split <;> omega
                · exact HAP.out a ha (by simpa using hh)
          · have hie : i = (waysN n v).length := by omega
            have hr : (longAll n (l.drop (j + 1)) (long, most)).2 = fin := by
              rw [hie, List.drop_length] at hrun
              exact hrun
            have HR := Lib.hid hr
            have HLEN := Lib.hid hlen
            have HBD := Lib.hid hbd
            clear hrun hr hie hlen hbd
            go_wp2
            go_roundg (f0 - 1)
            case measure => have := HF0.out; omega
            case rel => exact ⟨j + 1, long, most, by omega, by omega, by go_num, rfl, HR.out, HLEN.out, fun x => by have := HBD.out x; omega, by omega, hown, hb⟩
      · have hje : j = l.length := by omega
        have hr : most = fin := by
          rw [hje, List.drop_length] at hrun
          exact hrun
        have HR := Lib.hid hr
        clear hrun hr hje hlen hbd
        go_wp2
        go_ret2
        rw [HL.out]
        exact ⟨by rw [← HR.out]; rfl, hb1.trans (hb.mono hsz1)⟩
end Go.Proofs.Ythdbkilncddniaa.Ring
