/- One step of the proof of a statement of this seat: plain laws and walks of the ring package; no condition. -/
import Derived.Test.YthdbkilncddniaaW8
set_option linter.unusedVariables false
set_option linter.unusedSimpArgs false
open Go.RowKit
namespace Go.Proofs.Ythdbkilncddniaa.Ring
open RingM Go.Proofs.Mem

def ReachRel (w : World) (n : Net) (gs : Nat) (fin : List Bool) (f : Nat) (vt : Value) (wr : World) : Prop :=
  ∃ (seen : List Bool) (todo : List Nat), reachLoop n f seen todo = some fin ∧ seen.length = n.length ∧ (∀ v, v ∈ todo → v < n.length) ∧ todo.length + 60 * f ≤ 200000 ∧
    Own w.heap.size wr 3 vt (vints todo) ∧ Own w.heap.size wr 4 (.slice (some ⟨gs, 0, none⟩) n.length n.length) (bools seen) ∧ vt.ownBlock ≠ some gs ∧ Below w.heap.size w wr

def ReachPost (w : World) (l : List Nat) (e : Ending) (w' : World) : Prop :=
  ∃ A c, e = .returned (.slice A l.length c) ∧ Own w.heap.size w' 3 (.slice A l.length c) (vints l) ∧ Rd w' A (vints l) ∧ Below w.heap.size w w'

theorem bools_replicate (k : Nat) : List.replicate k (Value.bool false) = bools (List.replicate k false) := by simp [bools]

theorem sum_le {l : List Nat} {b : Nat} (h : ∀ x ∈ l, x ≤ b) : l.sum ≤ l.length * b := by
  induction l with
  | nil => simp
  | cons x r ih =>
    have h1 := h x (by simp)
    have h2 := ih (fun y hy => h y (by simp [hy]))
    simp only [List.sum_cons, List.length_cons, Nat.add_mul, Nat.one_mul]
    omega
theorem fuel_small {n : Net} (hs : Small n) : reachFuel n ≤ 3000 := by
  unfold reachFuel
  have := sum_le (l := n.map List.length) (b := 60) (by
    intro x hx
    obtain ⟨r, hr, rfl⟩ := List.mem_map.1 hx
    obtain ⟨i, hi, rfl⟩ := List.getElem_of_mem hr
    have := hs.rows i
    simpa [row, List.getD_eq_getElem?_getD, hi] using this)
  have h2 := hs.len
  rw [List.length_map] at this
  have : n.length * 60 ≤ 24 * 60 := Nat.mul_le_mul_right _ h2
  omega

theorem filter_succ_true {p : Nat → Bool} {j : Nat} (h : p j = true) : (List.range (j + 1)).filter p = (List.range j).filter p ++ [j] := by
  rw [List.range_succ, List.filter_append, List.filter_cons, h]
  rfl
theorem filter_succ_false {p : Nat → Bool} {j : Nat} (h : p j = false) : (List.range (j + 1)).filter p = (List.range j).filter p := by
  rw [List.range_succ, List.filter_append, List.filter_cons, h]
  simp

set_option maxHeartbeats 2000000 in
theorem reach_in (A : Option Addr) (n : Net) (c k : Nat) (w : World) (hs : Small n) (hk : k < n.length) (hA : RdN w A n) :
    Calls Try.prog 10 #[.slice A n.length c, .int .i64 k] w (ReachPost w (reach n (k : Int))) := by
  have hl := hs.len
  obtain ⟨fin, hfin, hfl, hfm⟩ := reach_loop n k
  have hreach : reach n (k : Int) = trues fin := by
    unfold reach
    rw [if_pos (by simp only [has, Bool.and_eq_true, decide_eq_true_eq]; omega), Int.toNat_natCast, hfin]
    rfl
  have HRE := Lib.hid hreach
  have HFIN := Lib.hid hfin
  have HFL := Lib.hid hfl
  have hh : hasI n.length (k : Int) = true := by simp [hasI]; omega
  have HH := Lib.hid hh
  clear hreach hfin hfl hh hfm
  go_enter Try.func10, Try.ntmps10
  go_wp2_with fail
  refine (has_any A n.length c k w (by omega)).mono ?_
  rintro e w' ⟨rfl, rfl⟩
  rw [HH.out]
  go_wp2_with (refine wp_make E41 rfl _ _ rfl w.heap.size _ _ n.length rfl rfl rfl rfl (by omega) (by unfold maxLen; omega) (Nat.le_refl _) ?_)
  intro w1 hown1 hb1 hsz1
  rw [bools_replicate] at hown1
  go_wp2_with fail
  refine (waysN_any A n c k w1 hs hk (hA.below hb1)).mono ?_
  rintro e w2 ⟨A2, c2, rfl, hown2, hrd2, hnil2, hblk2, hb2⟩
  have hbw2 : Below w.heap.size w w2 := hb1.trans (hb2.mono (by omega))
  have hstart : ReachRel w n w.heap.size fin (reachFuel n) (.slice A2 (waysN n k).length c2) w2 := by
    refine ⟨_, _, HFIN.out, by simp, fun v hv => ways_lt hv, ?_, hown2.base (by omega), hown1.below hb2, ?_, hbw2⟩
    · have h1 := ways_small hs k
      have h2 := fuel_small hs
      omega
    · cases A2 with
      | none => simp [Value.ownBlock]
      | some a =>
        have := hblk2 a rfl
        simp only [Value.ownBlock, ne_eq, Option.some.injEq]
        omega
  have HS := Lib.hid hstart
  clear hstart
  go_wp2_with fail
  go_loopg [6] (reachFuel n) (fun f vt wr => ReachRel w n w.heap.size fin f vt wr)
  case atStart => exact HS.out
  case round =>
    obtain ⟨seen, todo, hrun, hsl, htl, hbd, hot, hos, hne, hbw⟩ := hrel
    cases gk with
    | zero => simp [reachLoop] at hrun
    | succ f =>
      rcases List.eq_nil_or_concat todo with h0 | ⟨ini, v, h0⟩
      · subst h0
        have hfe : seen = fin := by simpa [reachLoop] using hrun
        subst hfe
        rcases hot.shape with ⟨rfl, _⟩ | ⟨g, ct, rfl, hg, hgl, hct, hcm, hob⟩
        all_goals
          have hlow : w.heap.size < wr.heap.size := hos.lt
          have HHOS := Lib.hid hos
          have HSL := Lib.hid hsl
          clear hrun htl hne hos hsl
          simp only [vints, List.map_nil, List.length_nil] at hot ⊢
          go_wp2
          go_loopg [8, 50] (n.length + 1) (fun f v8 v50 wr => ∃ j : Nat, j + f = n.length + 1 ∧ j ≤ n.length ∧ v50 = .int .i64 j ∧ Own w.heap.size wr 3 v8 (vints ((List.range j).filter fun i => seen.getD i false)) ∧ Own w.heap.size wr 4 (.slice (some ⟨w.heap.size, 0, none⟩) n.length n.length) (bools seen) ∧ v8.ownBlock ≠ some w.heap.size ∧ Below w.heap.size w wr ∧ w.heap.size < wr.heap.size)
          case atStart => exact ⟨0, by omega, by omega, rfl, Own.nil _ _ _, HHOS.out, by simp [Value.ownBlock], hbw, hlow⟩
          case round =>
            obtain ⟨j, hj, hjn, rfl, hol, hos, hne, hbr, hlr⟩ := hrel
            by_cases hlt : j < n.length
            · have hcs : wr.cell? ⟨w.heap.size, j, none⟩ = some (.bool (seen.getD j false)) := by
                rw [Own.cell hos (by rw [bools_length, HSL.out]) j (by rw [bools_length, HSL.out]; exact hlt)]
                simp [bools, List.getD_eq_getElem?_getD, HSL.out, hlt]
              have hszr := hbr.size
              have hcnt : ((List.range j).filter fun i => seen.getD i false).length ≤ j := by
                have := List.length_filter_le (fun i => seen.getD i false) (List.range j)
                simpa using this
              have HNE := Lib.hid hne
              clear hne
              cases hsv : seen.getD j false with
              | true =>
                rw [hsv] at hcs
                have HF : Hid ((List.range (j + 1)).filter (fun i => seen.getD i false) = (List.range j).filter (fun i => seen.getD i false) ++ [j]) := by
                  exact Lib.hid (filter_succ_true hsv)
                clear hsv
                go_wp2_with (at_builtin; go_loud (refine wp_push (w := wr) E26 rfl _ _ rfl w.heap.size u8 (vints _) rfl (.int .i64 (j : Int)) rfl hol rfl ?c1 (by decide) ?c2 ?_))
                case c1 => rw [vints_length]; omega
                case c2 => omega
                intro v4 w4 hown4 hgr4 hmv4
                go_wp2
                go_roundg (gk - 1)
                case measure => omega
                case rel =>
                  refine ⟨j + 1, by omega, by omega, by go_num, ?_, Own.grown hos hgr4 (.inr (by rintro hh; exact HNE.out hh.symm)), hmv4 _ hlr HNE.out, hbr.grown hgr4 hszr (fun k hk => (World.ownsRow.lt hol k hk).1), Nat.lt_of_lt_of_le hlr hgr4.size⟩
                  rw [HF.out, vints_append]
                  exact hown4
              | false =>
                rw [hsv] at hcs
                have HF : Hid ((List.range (j + 1)).filter (fun i => seen.getD i false) = (List.range j).filter (fun i => seen.getD i false)) := by
                  exact Lib.hid (filter_succ_false hsv)
                clear hsv
                go_wp2
                go_roundg (gk - 1)
                case measure => omega
                case rel =>
                  refine ⟨j + 1, by omega, by omega, by go_num, ?_, hos, HNE.out, hbr, hlr⟩
                  rw [HF.out]
                  exact hol
            · have HF : Hid ((List.range j).filter (fun i => seen.getD i false) = reach n (k : Int)) := by
                refine Lib.hid ?_
                rw [HRE.out]
                unfold trues
                have e : j = seen.length := by rw [HSL.out]; omega
                rw [e]
              clear hs
              go_wp2
              go_ret
              obtain ⟨A9, c9, e9, hr9, _⟩ := hol.rd
              rw [HF.out] at e9 hr9 hol
              rw [vints_length] at e9
              refine ⟨A9, c9, ?_, by rw [← e9]; exact hol, hr9, hbr⟩
              show Ending.returned u8 = _
              rw [e9]
      · rw [List.concat_eq_append] at h0
        subst h0
        have hv := htl v (by simp)
        have hrun' : (if seen.getD v false = true then reachLoop n f seen ini else reachLoop n f (seen.set v true) (ini ++ waysN n v)) = some fin := by
          have := hrun
          unfold reachLoop at this
          simpa using this
        rcases hot.shape with ⟨rfl, h0⟩ | ⟨g, ct, rfl, hg, hgl, hct, hcm, hob⟩
        · simp [vints] at h0
        · have hlen : (vints (ini ++ [v])).length = ini.length + 1 := by simp [vints]
          rw [hlen] at hot hct ⊢
          have hcv : wr.cell? ⟨g, ini.length, none⟩ = some (.int .i64 (v : Int)) := by
            rw [Own.cell hot hlen.symm ini.length (by omega)]
            simp [vints]
          have hgs : g ≠ w.heap.size := by rw [hob] at hne; simpa using hne
          have hcs : wr.cell? ⟨w.heap.size, v, none⟩ = some (.bool (seen.getD v false)) := by
            rw [Own.cell hos (by rw [bools_length, hsl]) v (by rw [bools_length, hsl]; exact hv)]
            simp [bools, List.getD_eq_getElem?_getD, hsl, hv]
          have hcut := Own.cut hot (m := ini.length) (by omega)
          have htk : (vints (ini ++ [v])).take ini.length = vints ini := by simp [vints]
          rw [htk] at hcut
          unfold maxLen at hcm
          simp only [List.length_append, List.length_singleton] at hbd
          have HR := Lib.hid hrun'
          have HTL := Lib.hid htl
          have HLEN := Lib.hid hlen
          have HHOT := Lib.hid hot
          have HHOS := Lib.hid hos
          have HSL := Lib.hid hsl
          clear hrun hrun' htl hlen htk hne hob hot hos hsl
          cases hsv : seen.getD v false with
          | true =>
            rw [hsv] at hcs
            have HSV := Lib.hid hsv
            clear hsv
            go_wp2
            go_roundg f
            case measure => omega
            case rel =>
              have hr := HR.out
              rw [HSV.out, if_pos rfl] at hr
              exact ⟨seen, ini, hr, HSL.out, fun v hv => HTL.out v (by simp [hv]), by omega, hcut, HHOS.out, by simp [Value.ownBlock]; omega, hbw⟩
          | false =>
            rw [hsv] at hcs
            have HSV := Lib.hid hsv
            clear hsv
            have hfz := Own.frozen HHOS.out (by rw [bools_length, HSL.out]) v
            obtain ⟨hos2, hgr2⟩ := Own.store HHOS.out (by rw [bools_length, HSL.out]) v (.bool true)
            rw [bools_set] at hos2
            have hb2' : Below w.heap.size w (wr.setCell ⟨w.heap.size, v, none⟩ (.bool true)) := hbw.setCell (Nat.le_refl _) _
            have hcut2 := Own.grown hcut hgr2 (.inr (by simp [Value.ownBlock]; omega))
            go_wp2_with fail
            refine (waysN_any A n c v _ hs hv (hA.below hb2')).mono ?_
            rintro e w3 ⟨A3, c3, rfl, hown3, hrd3, hnil3, hblk3, hb3⟩
            have hsz3 := hb3.size
            have hszr := hbw.size
            simp only [World.setCell, Array.size_modify] at hsz3 hblk3
            have hw3 := ways_small hs v
            go_wp2_with (at_builtin; refine wp_append E26 rfl _ _ rfl w.heap.size _ (vints ini) rfl (Own.below hcut2 hb3) A3 _ c3 (vints (waysN n v)) rfl (vints_length _).symm hnil3 hrd3 (vints_one _) ?c1 (by decide) ?c2 ?_)
            case c1 => rw [vints_length, vints_length]; omega
            case c2 => omega
            intro v4 w4 hown4 hgr4 hmv4
            rw [← vints_append] at hown4
            have hos4 := Own.grown (Own.below hos2 hb3) hgr4 (.inr (by simp [Value.ownBlock]; omega))
            have hbw4 : Below w.heap.size w w4 := (hb2'.trans (hb3.mono (by simp only [World.setCell, Array.size_modify]; omega))).grown hgr4 (by omega) (fun k hk => by simp [Value.ownBlock] at hk; omega)
            have hne4 : v4.ownBlock ≠ some w.heap.size := hmv4 _ (by omega) (by simp [Value.ownBlock]; omega)
            go_wp2
            go_roundg f
            case measure => omega
            case rel =>
              have hr := HR.out
              rw [HSV.out, if_neg (by simp)] at hr
              exact ⟨seen.set v true, ini ++ waysN n v, hr, by simp [HSL.out], fun u hu => (List.mem_append.1 hu).elim (fun h => HTL.out u (by simp [h])) ways_lt, by rw [List.length_append]; omega, hown4, hos4, hne4, hbw4⟩
end Go.Proofs.Ythdbkilncddniaa.Ring
