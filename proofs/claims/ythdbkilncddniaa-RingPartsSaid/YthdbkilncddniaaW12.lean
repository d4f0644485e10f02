/- One step of the proof of a statement of this seat: plain laws and walks of the ring package; no condition. -/
import Derived.Test.YthdbkilncddniaaW11
set_option linter.unusedVariables false
set_option linter.unusedSimpArgs false
open Go.RowKit
namespace Go.Proofs.Ythdbkilncddniaa.Ring
open RingM Go.Proofs.Mem

/-- the blocks from lo on up to hi are as they were -/
def Stay (lo hi : Nat) (w w' : World) : Prop := ∀ k, lo ≤ k → k < hi → w'.heap[k]? = w.heap[k]?
theorem Stay.refl (lo hi : Nat) (w : World) : Stay lo hi w w := fun _ _ _ => rfl
theorem Stay.trans {lo hi : Nat} {w w1 w2 : World} (h : Stay lo hi w w1) (k : Stay lo hi w1 w2) : Stay lo hi w w2 := fun i h1 h2 => (k i h1 h2).trans (h i h1 h2)
theorem Stay.below {lo hi : Nat} {w w' : World} (h : Below hi w w') : Stay lo hi w w' := fun k _ hk => h.block k hk
theorem Stay.setCell {lo hi g o : Nat} {w : World} {u : Value} (h : g < lo ∨ hi ≤ g) : Stay lo hi w (w.setCell ⟨g, o, none⟩ u) := fun k h1 h2 => Below.heap_setCell _ _ _ _ (by simp; omega)
theorem Stay.grown {lo hi : Nat} {w w' : World} {g : Option Nat} (h : w.grownBy w' g) (hh : hi ≤ w.heap.size) (hg : ∀ b, g = some b → b < lo ∨ hi ≤ b) : Stay lo hi w w' :=
  fun k h1 h2 => h.block k (by omega) (fun e => by have := hg k e.symm; omega)
theorem Own.stay {base hi : Nat} {w w' : World} {e : TypeId} {v : Value} {xs : List Value} (h : Own base w e v xs) (hs : Stay base hi w w') (hl : ∀ g, v.ownBlock = some g → g < hi) : Own base w' e v xs := by
  refine ⟨h.1, ?_⟩
  rcases h.2 with h' | ⟨g, cap, cur, h1, h2, h3, h4⟩
  · exact .inl h'
  · refine .inr ⟨g, cap, cur, h1, h2, ?_, h4⟩
    rw [hs g h2 (hl g (by rw [h1]; rfl))]
    exact h3
theorem OwnNet.stay {base g : Nat} {w w' : World} {vals : List Value} {out : Net} (h : OwnNet base w g vals out) (hs : Stay base w.heap.size w w') : OwnNet base w' g vals out :=
  ⟨h.len, Own.stay h.top hs fun b hb => (World.ownsRow.lt h.top b hb).2, fun i hi => Own.stay (h.rows i hi) hs fun b hb => (World.ownsRow.lt (h.rows i hi) b hb).2, h.off, h.apart⟩

theorem turn_row' (n : Net) (k : Nat) : row (turn n) k = if k < n.length then RingM.cast (preds n k n.length) else [] := by
  by_cases h : k < n.length
  · rw [if_pos h, row, turn_row h]
  · rw [if_neg h, row_out (by rw [turn_length]; exact h)]
theorem preds_le (n : Net) (k : Nat) : (preds n k n.length).length ≤ n.length := by
  unfold preds
  have := List.length_filter_le (fun u => (waysN n u).contains k) (List.range n.length)
  simpa using this
theorem small_turn {n : Net} (hs : Small n) : Small (turn n) := by
  refine ⟨by rw [turn_length]; exact hs.len, fun k => ?_⟩
  rw [turn_row']
  split
  · rw [cast_length]
    have := preds_le n k
    have := hs.len
    omega
  · simp

/-- how many lead to each, as far as it is told -/
def aheadTo (m : Net) (N j : Nat) : List Int := (List.range N).map fun i => if i < j then ((row m i).length : Int) else 0
theorem aheadTo_length (m : Net) (N j : Nat) : (aheadTo m N j).length = N := by simp [aheadTo]
theorem aheadTo_zero (m : Net) (N : Nat) : ints (aheadTo m N 0) = List.replicate N (.int .i64 0) := by
  unfold aheadTo ints
  rw [List.map_map]
  apply List.ext_getElem
  · simp
  · intro i h1 h2; simp
theorem aheadTo_set (m : Net) (N j : Nat) : (aheadTo m N j).set j ((row m j).length : Int) = aheadTo m N (j + 1) := by
  unfold aheadTo
  apply List.ext_getElem
  · simp
  · intro i h1 h2
    simp only [List.length_set, List.length_map, List.length_range] at h1
    rw [List.getElem_set]
    simp only [List.getElem_map, List.getElem_range]
    by_cases e : j = i
    · subst e; simp
    · rw [if_neg e]
      by_cases h : i < j
      · rw [if_pos h, if_pos (by omega)]
      · rw [if_neg h, if_neg (by omega)]
theorem aheadTo_all (m : Net) : aheadTo m m.length m.length = m.map fun r => (r.length : Int) := by
  unfold aheadTo
  apply List.ext_getElem
  · simp
  · intro i h1 h2
    simp at h1
    simp [row, List.getD_eq_getElem?_getD, h1]

def OrderPost (w : World) (r : List Nat × Int) (e : Ending) (w' : World) : Prop :=
  ∃ A c, e = .returned (.tuple #[.slice A r.1.length c, .int .i64 r.2]) ∧ Own w.heap.size w' 3 (.slice A r.1.length c) (vints r.1) ∧ Rd w' A (vints r.1) ∧ Below w.heap.size w w'

/-- in the great loop -/
def OrdRel (w : World) (n : Net) (R : Option (List Nat)) (ga lo : Nat) (w4 : World) (f : Nat) (v8 v35 : Value) (wr : World) : Prop :=
  ∃ (j : Nat) (a : List Int) (l : List Nat), j + f = n.length + 1 ∧ j ≤ n.length ∧ v35 = .int .i64 j ∧ orderLoop (turn (turn n)) (n.length - j) a l = R ∧ l.length = j ∧ a.length = n.length ∧
    (∀ x, -(100 * (j : Int)) - 10 ≤ nth a x ∧ nth a x ≤ 100) ∧ Own w4.heap.size wr 3 v8 (vints l) ∧ Own ga wr 3 (.slice (some ⟨ga, 0, none⟩) n.length n.length) (ints a) ∧ Stay lo w4.heap.size w4 wr ∧ Below w.heap.size w wr ∧ w4.heap.size ≤ wr.heap.size

/-- in the inner loop -/
def OrdIn (n : Net) (R : Option (List Nat)) (l' : List Nat) (ks : List Int) (j : Nat) (ga lo : Nat) (w4 w : World) (v5 : Value) (f : Nat) (v53 : Value) (wr : World) : Prop :=
  ∃ (i : Nat) (a : List Int), i + f = ks.length + 1 ∧ i ≤ ks.length ∧ v53 = .int .i64 i ∧ orderLoop (turn (turn n)) (n.length - (j + 1)) (dec (ks.drop i) a) l' = R ∧ a.length = n.length ∧
    (∀ x, -(100 * (j : Int)) - 11 - i ≤ nth a x ∧ nth a x ≤ 100) ∧ Own w4.heap.size wr 3 v5 (vints l') ∧ Own ga wr 3 (.slice (some ⟨ga, 0, none⟩) n.length n.length) (ints a) ∧ Stay lo w4.heap.size w4 wr ∧ Below w.heap.size w wr ∧ w4.heap.size ≤ wr.heap.size

set_option maxHeartbeats 2000000 in
theorem order_any (A : Option Addr) (n : Net) (c : Nat) (w : World) (hs : Small n) (hA : RdN w A n) :
    Calls Try.prog 12 #[.slice A n.length c] w (OrderPost w (order n)) := by
  have hl := hs.len
  obtain ⟨R, hR⟩ : ∃ R, R = orderLoop (turn (turn n)) n.length ((turn n).map fun r => (r.length : Int)) [] := ⟨_, rfl⟩
  have HRR := Lib.hid hR
  clear hR
  go_enter Try.func12, Try.ntmps12
  go_wp2_with fail
  refine (turn_any A n c w hs hA).mono ?_
  rintro e w1 ⟨g1, vals1, rfl, hnet1, hb1⟩
  have hsz1 := hb1.size
  go_wp2_with (refine wp_make E26 rfl _ _ rfl w1.heap.size _ _ n.length rfl rfl rfl rfl (by omega) (by unfold maxLen; omega) (Nat.le_refl _) ?_)
  intro w2 hown2 hb2 hsz2
  rw [← aheadTo_zero (turn n) n.length] at hown2
  go_wp2_with fail
  go_loopg [19] (n.length + 1) (fun f v wr => ∃ j : Nat, j + f = n.length + 1 ∧ j ≤ n.length ∧ v = .int .i64 j ∧ Own w1.heap.size wr 3 (.slice (some ⟨w1.heap.size, 0, none⟩) n.length n.length) (ints (aheadTo (turn n) n.length j)) ∧ Below w1.heap.size w1 wr)
  case atStart => exact ⟨0, by omega, by omega, rfl, hown2, hb2⟩
  case round =>
    obtain ⟨j, hf, hj, rfl, hown, hb⟩ := hrel
    have hnetr := hnet1.below hb
    have hlr := hown.lt
    by_cases hlt : j < n.length
    · have hjv : j < vals1.length := by rw [hnet1.len, turn_length]; exact hlt
      obtain ⟨A3, c3, e3, hr3, _⟩ := (hnetr.rows j hjv).rd
      have hck : wr.cell? ⟨g1, j, none⟩ = some (.slice A3 (row (turn n) j).length c3) := by
        rw [hnetr.cell hjv, e3, ints_length]
      have hca : wr.cell? ⟨w1.heap.size, j, none⟩ = some (.int .i64 (nth (aheadTo (turn n) n.length j) j)) := by
        rw [Own.cell hown (by rw [ints_length, aheadTo_length]) j (by rw [ints_length, aheadTo_length]; exact hlt)]
        simp [ints, nth, List.getD_eq_getElem?_getD, aheadTo_length, hlt]
      have hfz := Own.frozen hown (by rw [ints_length, aheadTo_length]) j
      have hst := Own.store hown (by rw [ints_length, aheadTo_length]) j (.int .i64 ((row (turn n) j).length : Int))
      rw [ints_set, aheadTo_set] at hst
      have HST := Lib.hid hst
      clear hst e3
      go_wp2
      go_roundg (gk - 1)
      case measure => omega
      case rel => exact ⟨j + 1, by omega, by omega, by go_num, HST.out.1, hb.setCell (Nat.le_refl _) _⟩
    · have hje : j = n.length := by omega
      rw [hje] at hown
      have e4 : aheadTo (turn n) n.length n.length = (turn n).map fun r => (r.length : Int) := by
        have := aheadTo_all (turn n)
        rw [turn_length] at this
        exact this
      rw [e4] at hown
      clear hje e4
      have hs1 := small_turn hs
      have hbw : Below w.heap.size w wr := hb1.trans (hb.mono hsz1)
      have hszr := hb.size
      have htn := turn_length n
      have hturn2 := turn_any (some ⟨g1, 0, none⟩) (turn n) n.length wr hs1 hnetr.rdN
      rw [htn] at hturn2
      clear htn
      obtain ⟨wm, rfl⟩ : ∃ wm, wm = wr := ⟨_, rfl⟩
      go_wp2_with fail
      refine hturn2.mono ?_
      rintro e w4 ⟨g4, vals4, he4, hnet4, hb4⟩
      rw [turn_length] at he4
      subst he4
      have hlr4 : w1.heap.size < w4.heap.size := Nat.lt_of_lt_of_le hlr hb4.size
      have hst : OrdRel w n R w1.heap.size wm.heap.size w4 (n.length + 1) (.slice none 0 0) (.int .i64 0) w4 := by
        refine ⟨0, (turn n).map (fun r => (r.length : Int)), [], by omega, by omega, rfl, HRR.out.symm, rfl, by simp [turn_length], fun x => ?_, Own.nil _ _ _, hown.below hb4, Stay.refl _ _ _, hbw.trans (hb4.mono (by omega)), Nat.le_refl _⟩
        have h2 : nth ((turn n).map fun r => (r.length : Int)) x = ((row (turn n) x).length : Int) := by
          unfold nth row
          rw [List.getD_eq_getElem?_getD, List.getElem?_map, List.getD_eq_getElem?_getD]
          cases (turn n)[x]? <;> simp
        have h3 := (small_turn hs).rows x
        rw [h2]
        omega
      have HST := Lib.hid hst
      clear hst
      go_wp2_with fail
      go_loopg [8, 35] (n.length + 1) (fun f v8 v35 wr1 => OrdRel w n R w1.heap.size wm.heap.size w4 f v8 v35 wr1)
      case atStart => exact HST.out
      case round =>
        obtain ⟨j2, a, l, hf2, hj2, rfl, hrun, hll, hal, hab, hol, hoa, hsty, hbw2, hsz4⟩ := hrel
        obtain ⟨f0, hf0⟩ : ∃ x, x = gk := ⟨_, rfl⟩
        rw [← hf0] at hf2
        have HF0 := Lib.hid hf0
        clear hf0
        have hgal : w1.heap.size < wr.heap.size := hoa.lt
        have hszw := hbw2.size
        by_cases hlt2 : j2 < n.length
        · have hrun2 : (if a.idxOf 0 < a.length then orderLoop (turn (turn n)) (n.length - (j2 + 1)) (dec (row (turn (turn n)) (a.idxOf 0)) (a.set (a.idxOf 0) (-1))) (l ++ [a.idxOf 0]) else none) = R := by
            rw [← hrun, show n.length - j2 = (n.length - (j2 + 1)) + 1 by omega]
            rfl
          obtain ⟨Aa, ca, ea, hra, _⟩ := hoa.rd
          simp only [Value.slice.injEq] at ea
          have hra' : RdI wr (some ⟨w1.heap.size, 0, none⟩) a := rdI_of (by rw [ea.1]; exact hra)
          have hidx := index_any (some ⟨w1.heap.size, 0, none⟩) a n.length 0 wr (by omega) hra'
          rw [hal] at hidx
          have HAL := Lib.hid hal
          have HLL := Lib.hid hll
          have HAB := Lib.hid hab
          clear hrun hll hab ea hra hra' hal
          by_cases hz : a.idxOf 0 < a.length
          · rw [if_pos hz] at hrun2
            have HRUN := Lib.hid hrun2
            have hix : idxI a 0 = (a.idxOf 0 : Int) := by unfold idxI; rw [if_pos hz]
            rw [hix] at hidx
            obtain ⟨v, hv⟩ : ∃ v, v = a.idxOf 0 := ⟨_, rfl⟩
            rw [← hv] at hidx HRUN
            have hvl : v < n.length := by rw [hv, ← HAL.out]; exact hz
            have HV := Lib.hid hv
            clear hrun2 hix hz hv
            have hlen8 : (vints l).length = j2 := by rw [vints_length, HLL.out]
            have HL8 := Lib.hid hlen8
            clear hlen8
            go_wp2_with (first | (go_at_call 19; refine hidx.mono ?_; rintro e w5 ⟨rfl, rfl⟩) | (at_builtin; refine wp_push (w := wr) E26 rfl _ _ rfl w4.heap.size u8 (vints l) rfl (.int .i64 (v : Int)) rfl hol rfl ?c1 (by decide) hsz4 ?_))
            case c1 => rw [HL8.out]; omega
            intro v5 w5 hown5 hgr5 hmv5
            have e5 : vints l ++ [Value.int .i64 (v : Int)] = vints (l ++ [v]) := by rw [vints_append]; rfl
            rw [e5] at hown5
            clear e5
            have h8b : ∀ b, u8.ownBlock = some b → w4.heap.size ≤ b ∧ b < wr.heap.size := fun b hb => World.ownsRow.lt hol b hb
            have hoa5 : Own w1.heap.size w5 3 (.slice (some ⟨w1.heap.size, 0, none⟩) n.length n.length) (ints a) := hoa.grown hgr5 (.inr fun hh => by have : w4.heap.size ≤ w1.heap.size := (h8b _ hh.symm).1; omega)
            have hal5 : n.length = (ints a).length := by rw [ints_length, HAL.out]
            have hca5 : w5.cell? ⟨w1.heap.size, v, none⟩ = some (.int .i64 (nth a v)) := by
              rw [Own.cell hoa5 hal5 v (by rw [← hal5]; exact hvl)]
              have : v < a.length := by rw [HAL.out]; exact hvl
              simp [ints, nth, List.getD_eq_getElem?_getD, this]
            have hfz5 := Own.frozen hoa5 hal5 v
            obtain ⟨hoa6, hgr6⟩ := Own.store hoa5 hal5 v (.int .i64 (-1))
            rw [ints_set] at hoa6
            have hsty5 : Stay wm.heap.size w4.heap.size w4 w5 := hsty.trans (Stay.grown hgr5 hsz4 fun b hb => .inr (h8b b hb).1)
            have hsty6 : Stay wm.heap.size w4.heap.size w4 (w5.setCell ⟨w1.heap.size, v, none⟩ (.int .i64 (-1))) := hsty5.trans (Stay.setCell (.inl (by omega)))
            have hbw6 : Below w.heap.size w (w5.setCell ⟨w1.heap.size, v, none⟩ (.int .i64 (-1))) := (hbw2.grown hgr5 hszw fun b hb => by have := h8b b hb; omega).setCell (by simp; omega) _
            have hown6 : Own w4.heap.size (w5.setCell ⟨w1.heap.size, v, none⟩ (.int .i64 (-1))) 3 v5 (vints (l ++ [v])) := hown5.grown hgr6 (by
              cases hb : v5.ownBlock with
              | none => exact .inl rfl
              | some b =>
                have := (World.ownsRow.lt hown5 b hb).1
                exact .inr (by simp; omega))
            have hsz6 : w4.heap.size ≤ (w5.setCell ⟨w1.heap.size, v, none⟩ (.int .i64 (-1))).heap.size := Nat.le_trans hsz4 (Nat.le_trans hgr5.size hgr6.size)
            have hvv : v < vals4.length := by rw [hnet4.len, turn_length, turn_length]; exact hvl
            obtain ⟨A7, c7, e7, _⟩ := (hnet4.rows v hvv).rd
            rw [ints_length] at e7
            have hcr : (w5.setCell ⟨w1.heap.size, v, none⟩ (.int .i64 (-1))).cell? ⟨g4, v, none⟩ = some (.slice A7 (row (turn (turn n)) v).length c7) := by
              rw [(hnet4.stay hsty6).cell hvv, e7]
            have hne41 : g4 ≠ w1.heap.size := by have := hnet4.baseLe; omega
            have hcr5 : w5.cell? ⟨g4, v, none⟩ = some (.slice A7 (row (turn (turn n)) v).length c7) := by
              rw [(hnet4.stay hsty5).cell hvv, e7]
            have hst6 : OrdIn n R (l ++ [v]) (row (turn (turn n)) v) j2 w1.heap.size wm.heap.size w4 w v5 ((row (turn (turn n)) v).length + 1) (.int .i64 0) (w5.setCell ⟨w1.heap.size, v, none⟩ (.int .i64 (-1))) := by
              refine ⟨0, a.set v (-1), by omega, by omega, rfl, HRUN.out, by simp [HAL.out], fun x => ?_, hown6, hoa6, hsty6, hbw6, hsz6⟩
              have := HAB.out x
              unfold nth at this ⊢
              rw [getD_set]
              split <;> omega
            have HST6 := Lib.hid hst6
            have HE7 := Lib.hid e7
            clear hst6 e7 hoa5 hoa6 hgr6 hsty5 hsty6 hbw6 hown6 hsz6 hcr hsty hbw2 hoa hol hszw
            go_wp2
            go_loopg [53] ((row (turn (turn n)) v).length + 1) (fun f v53 wr => OrdIn n R (l ++ [v]) (row (turn (turn n)) v) j2 w1.heap.size wm.heap.size w4 w v5 f v53 wr)
            case atStart => exact HST6.out
            case round =>
              obtain ⟨i, a', hif, hi, rfl, hrun, hal', hab', hol, hoa, hsty, hbw2, hsz4'⟩ := hrel
              have hrl := (small_turn (small_turn hs)).rows v
              have hrr := turn_row' (turn n) v
              rw [if_pos (by rw [turn_length]; exact hvl), turn_length] at hrr
              have hpl := preds_le (turn n) v
              rw [turn_length] at hpl
              by_cases hlt3 : i < (row (turn (turn n)) v).length
              · obtain ⟨k, hk, hkl⟩ : ∃ k : Nat, nth (row (turn (turn n)) v) i = (k : Int) ∧ k < n.length := by
                  rw [hrr] at hlt3 ⊢
                  rw [cast_length] at hlt3
                  refine ⟨(preds (turn n) v n.length)[i], ?_, (mem_preds.1 (List.getElem_mem hlt3)).1⟩
                  simp [nth, RingM.cast, List.getD_eq_getElem?_getD, hlt3]
                have hrd := ((hnet4.stay hsty).rows v hvv).rd
                obtain ⟨A8, c8, e8, hr8, _⟩ := hrd
                have e78 := HE7.out
                rw [e8] at e78
                simp only [Value.slice.injEq] at e78
                obtain ⟨rfl, _, rfl⟩ := e78
                obtain ⟨b, o, rfl, hcells⟩ := (rdI_of hr8).at_ i hlt3
                have hci := hcells i hlt3
                rw [hk] at hci
                have hal5' : n.length = (ints a').length := by rw [ints_length, hal']
                have hka' : k < a'.length := by rw [hal']; exact hkl
                have hck : wr.cell? ⟨w1.heap.size, k, none⟩ = some (.int .i64 (nth a' k)) := by
                  rw [Own.cell hoa hal5' k (by rw [← hal5']; exact hkl)]
                  simp [ints, nth, List.getD_eq_getElem?_getD, hka']
                have hfz' := Own.frozen hoa hal5' k
                obtain ⟨hoa7, hgr7⟩ := Own.store hoa hal5' k (.int .i64 (nth a' k - 1))
                rw [ints_set] at hoa7
                have hrun' : orderLoop (turn (turn n)) (n.length - (j2 + 1)) (dec ((row (turn (turn n)) v).drop (i + 1)) (a'.set k (nth a' k - 1))) (l ++ [v]) = R := by
                  rw [← hrun, drop_cons hlt3]
                  have : (row (turn (turn n)) v)[i] = (k : Int) := by rw [← hk, nth_get hlt3]
                  rw [this]
                  rfl
                have hbk := hab' k
                have HRUN' := Lib.hid hrun'
                have HAB' := Lib.hid hab'
                have HAL' := Lib.hid hal'
                have HOL := Lib.hid hol
                clear hrun hrun' hab' hal' hcells hk hr8 e8 hrr hal5' hol
                go_wp2
                go_roundg (gk - 1)
                case measure => omega
                case rel =>
                  refine ⟨i + 1, a'.set k (nth a' k - 1), by omega, by omega, by go_num, HRUN'.out, by simp [HAL'.out], fun x => ?_, HOL.out.grown hgr7 ?_, hoa7, hsty.trans (Stay.setCell (.inl (by omega))), hbw2.setCell (by simp; omega) _, Nat.le_trans hsz4' hgr7.size⟩
                  · have := HAB'.out x
                    unfold nth at this hbk ⊢
                    rw [getD_set]
                    split <;> omega
                  · cases hb : v5.ownBlock with
                    | none => exact .inl rfl
                    | some b =>
                      have := (World.ownsRow.lt HOL.out b hb).1
                      exact .inr (by simp; omega)
              · have hie : i = (row (turn (turn n)) v).length := by omega
                have hr2 : orderLoop (turn (turn n)) (n.length - (j2 + 1)) a' (l ++ [v]) = R := by
                  rw [hie, List.drop_length] at hrun
                  exact hrun
                have hi24 : i ≤ 24 := by rw [hie, hrr, cast_length]; omega
                have HR2 := Lib.hid hr2
                have HAB' := Lib.hid hab'
                have HAL' := Lib.hid hal'
                clear hrun hr2 hie hab' hal' hrr
                go_wp2
                go_roundg (f0 - 1)
                case measure => have := HF0.out; omega
                case rel =>
                  refine ⟨j2 + 1, a', l ++ [v], by omega, by omega, by go_num, HR2.out, by rw [List.length_append, HLL.out]; rfl, HAL'.out, fun x => ?_, hol, hoa, hsty, hbw2, hsz4'⟩
                  have := HAB'.out x
                  omega
          · rw [if_neg hz] at hrun2
            have hix : idxI a 0 = -1 := by unfold idxI; rw [if_neg hz]
            rw [hix] at hidx
            have HO : Hid (order n = ([], 7)) := by
              refine Lib.hid ?_
              unfold order
              rw [← HRR.out, ← hrun2]
            clear hrun2 hix hz
            go_wp2_with (go_at_call 19; refine hidx.mono ?_; rintro e w5 ⟨rfl, rfl⟩)
            go_ret2
            rw [HO.out]
            exact ⟨none, 0, rfl, Own.nil _ _ _, ⟨fun i hi => absurd hi (by simp [vints])⟩, hbw2⟩
        · have hje : n.length - j2 = 0 := by omega
          rw [hje] at hrun
          have HO : Hid (order n = (l, 0)) := by
            refine Lib.hid ?_
            unfold order
            rw [← HRR.out, ← hrun]
            simp only [orderLoop]
            rw [if_neg (by omega)]
          obtain ⟨A9, c9, e9, hr9, _⟩ := hol.rd
          rw [vints_length] at e9
          subst e9
          clear hrun hje hll hal hab
          go_wp2
          go_ret2
          rw [HO.out]
          exact ⟨A9, c9, rfl, hol.base (by omega), hr9, hbw2⟩
end Go.Proofs.Ythdbkilncddniaa.Ring
