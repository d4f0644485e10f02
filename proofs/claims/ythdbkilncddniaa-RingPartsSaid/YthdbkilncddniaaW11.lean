/- One step of the proof of a statement of this seat: plain laws and walks of the ring package; no condition. -/
import Derived.Test.YthdbkilncddniaaW10
set_option linter.unusedVariables false
set_option linter.unusedSimpArgs false
open Go.RowKit
namespace Go.Proofs.Ythdbkilncddniaa.Ring
open RingM Go.Proofs.Mem

abbrev val (vals : List Value) (i : Nat) : Value := vals.getD i (.slice none 0 0)
theorem val_get {vals : List Value} {i : Nat} (h : i < vals.length) : vals[i] = val vals i := by simp [val, List.getD_eq_getElem?_getD, h]

/-- a net of the call's own: the outer row, in block g, holds slices of the call's own -/
structure OwnNet (base : Nat) (w : World) (g : Nat) (vals : List Value) (out : Net) : Prop where
  len : vals.length = out.length
  top : Own base w 26 (.slice (some ⟨g, 0, none⟩) vals.length vals.length) vals
  rows : ∀ i, i < vals.length → Own base w 3 (val vals i) (ints (row out i))
  off : ∀ i, i < vals.length → (val vals i).ownBlock ≠ some g
  apart : ∀ i j, i < vals.length → j < vals.length → i ≠ j → (val vals i).ownBlock = none ∨ (val vals i).ownBlock ≠ (val vals j).ownBlock

theorem OwnNet.below {base g : Nat} {w w' : World} {vals : List Value} {out : Net} (h : OwnNet base w g vals out) (hb : Below w.heap.size w w') : OwnNet base w' g vals out :=
  ⟨h.len, h.top.below hb, fun i hi => (h.rows i hi).below hb, h.off, h.apart⟩
theorem OwnNet.base {base base' g : Nat} {w : World} {vals : List Value} {out : Net} (h : OwnNet base w g vals out) (hb : base' ≤ base) : OwnNet base' w g vals out :=
  ⟨h.len, h.top.base hb, fun i hi => (h.rows i hi).base hb, h.off, h.apart⟩
theorem OwnNet.cell {base g : Nat} {w : World} {vals : List Value} {out : Net} (h : OwnNet base w g vals out) {i : Nat} (hi : i < vals.length) : w.cell? ⟨g, i, none⟩ = some (val vals i) := by
  rw [Own.cell h.top rfl i hi, val_get hi]
theorem OwnNet.rdN {base g : Nat} {w : World} {vals : List Value} {out : Net} (h : OwnNet base w g vals out) : RdN w (some ⟨g, 0, none⟩) out := by
  refine ⟨fun i hi => ⟨g, 0, rfl, fun j hj => ?_⟩⟩
  have hj' : j < vals.length := by rw [h.len]; exact hj
  obtain ⟨A, c, e, hr, _⟩ := (h.rows j hj').rd
  refine ⟨A, c, ?_, rdI_of hr⟩
  rw [Nat.zero_add, h.cell hj', e, ints_length]
theorem val_replicate (N i : Nat) : val (List.replicate N (.slice none 0 0)) i = .slice none 0 0 := by
  simp only [val, List.getD_eq_getElem?_getD, List.getElem?_replicate]
  split <;> rfl
theorem OwnNet.new {base g N : Nat} {w : World} (h : Own base w 26 (.slice (some ⟨g, 0, none⟩) N N) (List.replicate N (.slice none 0 0))) : OwnNet base w g (List.replicate N (.slice none 0 0)) (List.replicate N []) := by
  refine ⟨by simp, by rw [List.length_replicate]; exact h, fun i hi => ?_, fun i hi => ?_, fun i j hi hj hn => ?_⟩
  · have : row (List.replicate N []) i = [] := by
      simp only [row, List.getD_eq_getElem?_getD, List.getElem?_replicate]
      split <;> rfl
    rw [val_replicate, this]
    exact Own.nil _ _ _
  · rw [val_replicate]; simp [Value.ownBlock]
  · rw [val_replicate]; exact .inl rfl
theorem OwnNet.lt {base g : Nat} {w : World} {vals : List Value} {out : Net} (h : OwnNet base w g vals out) : g < w.heap.size := h.top.lt
theorem OwnNet.baseLe {base g : Nat} {w : World} {vals : List Value} {out : Net} (h : OwnNet base w g vals out) : base ≤ g := (World.ownsRow.lt h.top g rfl).1

/-- a row grows, and is stored back -/
theorem OwnNet.push {base g k : Nat} {w w' : World} {vals : List Value} {out : Net} (h : OwnNet base w g vals out) (hk : k < vals.length) {v' : Value} {x : Int}
    (ho : Own base w' 3 v' (ints (row out k ++ [x]))) (hg : w.grownBy w' (val vals k).ownBlock) (hm : Moves w (val vals k) v') :
    OwnNet base (w'.setCell ⟨g, k, none⟩ v') g (vals.set k v') (out.set k (row out k ++ [x])) := by
  have hgl := h.lt
  have hv' : v'.ownBlock ≠ some g := hm g hgl (h.off k hk)
  have htop : Own base w' 26 (.slice (some ⟨g, 0, none⟩) vals.length vals.length) vals := h.top.grown hg (.inr (fun hh => h.off k hk (by rw [← hh]; rfl)))
  obtain ⟨ht2, hg2⟩ := Own.store htop rfl k v'
  have hval : ∀ i, i < vals.length → val (vals.set k v') i = if k = i then v' else val vals i := by
    intro i hi
    rw [val, getD_set]
    by_cases e : k = i
    · rw [if_pos ⟨e, hi⟩, if_pos e]
    · rw [if_neg (fun hh => e hh.1), if_neg e]
  have hrow : ∀ i, i < vals.length → row (out.set k (row out k ++ [x])) i = if k = i then row out k ++ [x] else row out i := by
    intro i hi
    rw [row, getD_set, ← h.len]
    by_cases e : k = i
    · rw [if_pos ⟨e, hi⟩, if_pos e]
    · rw [if_neg (fun hh => e hh.1), if_neg e]; rfl
  have hapart : ∀ i, i < vals.length → k ≠ i → (val vals i).ownBlock = none ∨ ∃ b, (val vals i).ownBlock = some b ∧ b < w.heap.size ∧ v'.ownBlock ≠ some b ∧ (val vals k).ownBlock ≠ some b := by
    intro i hi e
    cases hb : (val vals i).ownBlock with
    | none => exact .inl rfl
    | some b =>
      have hbl := (World.ownsRow.lt (h.rows i hi) b hb).2
      have hne : (val vals k).ownBlock ≠ some b := by
        rcases h.apart k i hk hi e with hh | hh
        · rw [hh]; simp
        · rw [← hb]; exact hh
      exact .inr ⟨b, rfl, hbl, hm b hbl hne, hne⟩
  refine ⟨by simp [h.len], ?_, fun i hi => ?_, fun i hi => ?_, fun i j hi hj hn => ?_⟩
  · rw [List.length_set]; exact ht2
  · rw [List.length_set] at hi
    rw [hval i hi, hrow i hi]
    by_cases e : k = i
    · rw [if_pos e, if_pos e]
      exact ho.grown hg2 (.inr hv')
    · rw [if_neg e, if_neg e]
      refine Own.grown (Own.grown (h.rows i hi) hg ?_) hg2 (.inr (h.off i hi))
      rcases hapart i hi e with hh | ⟨b, h1, h2, h3, h4⟩
      · exact .inl hh
      · rw [h1]; exact .inr (Ne.symm h4)
  · rw [List.length_set] at hi
    rw [hval i hi]
    split
    · exact hv'
    · exact h.off i hi
  · rw [List.length_set] at hi hj
    rw [hval i hi, hval j hj]
    by_cases e : k = i
    · have e' : k ≠ j := fun e2 => hn (e.symm.trans e2)
      rw [if_pos e, if_neg e']
      rcases hapart j hj e' with hh | ⟨b, h1, h2, h3, h4⟩
      · cases hv : v'.ownBlock with
        | none => exact .inl rfl
        | some b => rw [hh]; exact .inr (by simp)
      · rw [h1]; exact .inr h3
    · rw [if_neg e]
      by_cases e' : k = j
      · rw [if_pos e']
        rcases hapart i hi e with hh | ⟨b, h1, h2, h3, h4⟩
        · exact .inl hh
        · rw [h1]; exact .inr (Ne.symm h3)
      · rw [if_neg e']
        exact h.apart i j hi hj hn

theorem drop_cons {α : Type} {l : List α} {i : Nat} (h : i < l.length) : l.drop i = l[i] :: l.drop (i + 1) := (List.getElem_cons_drop h).symm

def TurnPost (w : World) (n : Net) (e : Ending) (w' : World) : Prop :=
  ∃ g vals, e = .returned (.slice (some ⟨g, 0, none⟩) n.length n.length) ∧ OwnNet w.heap.size w' g vals (turn n) ∧ Below w.heap.size w w'

theorem row_replicate (N i : Nat) : row (List.replicate N []) i = [] := by
  simp only [row, List.getD_eq_getElem?_getD, List.getElem?_replicate]
  split <;> rfl

/-- in the loop over a point's ways -/
def TurnIn (w : World) (n : Net) (j : Nat) (A2 : Option Addr) (g : Nat) (f : Nat) (v : Value) (wr : World) : Prop :=
  ∃ (i : Nat) (vals : List Value) (out : Net), i + f = (waysN n j).length + 1 ∧ i ≤ (waysN n j).length ∧ v = .int .i64 i ∧ vals.length = n.length ∧
    turnAll n (List.range' (j + 1) (n.length - (j + 1))) (turnRow j ((waysN n j).drop i) out) = turn n ∧ (∀ k, (row out k).length ≤ 61 * j + i) ∧ OwnNet w.heap.size wr g vals out ∧
    (∀ k, k < n.length → ∀ a, A2 = some a → (val vals k).ownBlock ≠ some a.block) ∧ (∀ a, A2 = some a → a.block ≠ g) ∧ Rd wr A2 (vints (waysN n j)) ∧ Below w.heap.size w wr

set_option maxHeartbeats 2000000 in
theorem turn_any (A : Option Addr) (n : Net) (c : Nat) (w : World) (hs : Small n) (hA : RdN w A n) :
    Calls Try.prog 13 #[.slice A n.length c] w (TurnPost w n) := by
  have hl := hs.len
  have HT : Hid (turnAll n (List.range' 0 n.length) (List.replicate n.length []) = turn n) := by
    refine Lib.hid ?_
    unfold turn
    rw [List.range_eq_range']
  go_enter Try.func13, Try.ntmps13
  go_wp2_with (refine wp_make E23 rfl _ _ rfl w.heap.size _ _ n.length rfl rfl rfl rfl (by omega) (by unfold maxLen; omega) (Nat.le_refl _) ?_)
  intro w1 hown1 hb1 hsz1
  go_wp2_with fail
  go_loopg [12] (n.length + 1) (fun f v wr => ∃ (j : Nat) (vals : List Value) (out : Net), j + f = n.length + 1 ∧ j ≤ n.length ∧ v = .int .i64 j ∧ vals.length = n.length ∧ turnAll n (List.range' j (n.length - j)) out = turn n ∧ (∀ i, (row out i).length ≤ 61 * j) ∧ OwnNet w.heap.size wr w.heap.size vals out ∧ Below w.heap.size w wr)
  case atStart => exact ⟨0, _, _, by omega, by omega, rfl, by simp, HT.out, fun i => by rw [row_replicate]; simp, OwnNet.new hown1, hb1⟩
  case round =>
    obtain ⟨j, vals, out, hf, hj, rfl, hvl, hrun, hrl, hnet, hbw⟩ := hrel
    by_cases hlt : j < n.length
    · have hrun' : turnAll n (List.range' (j + 1) (n.length - (j + 1))) (turnRow j ((waysN n j).drop 0) out) = turn n := by
        rw [← hrun, show n.length - j = (n.length - (j + 1)) + 1 by omega, List.range'_succ]
        rfl
      have HR := Lib.hid hrun'
      have HVL := Lib.hid hvl
      have HRL := Lib.hid hrl
      clear hrun hrun' hvl hrl
      go_wp2_with fail
      refine (waysN_any A n c j wr hs hlt (hA.below hbw)).mono ?_
      rintro e w2 ⟨A2, c2, rfl, hown2, hrd2, hnil2, hblk2, hb2⟩
      have hw2 : Below w.heap.size w w2 := hbw.trans (hb2.mono hbw.size)
      have hnet2 := hnet.below hb2
      have hwl := ways_small hs j
      have hszr := hbw.size
      have hst : TurnIn w n j A2 w.heap.size ((waysN n j).length + 1) (.int .i64 0) w2 := by
        refine ⟨0, vals, out, by omega, by omega, rfl, HVL.out, HR.out, fun i => HRL.out i, hnet2, fun i hi a ha hh => ?_, fun a ha hh => ?_, hrd2, hw2⟩
        · have := (World.ownsRow.lt (hnet.rows i (by rw [HVL.out]; exact hi)) _ hh).2
          have := hblk2 a ha
          omega
        · have := hblk2 a ha
          have := hnet.lt
          omega
      have HST := Lib.hid hst
      clear hnet hst hnet2 hown2 hrd2 hblk2 hb2 hbw
      go_wp2_with fail
      obtain ⟨f0, hf0⟩ : ∃ x, x = gk := ⟨_, rfl⟩
      rw [← hf0] at hf
      have HF0 := Lib.hid hf0
      clear hf0
      go_loopg [19] ((waysN n j).length + 1) (fun f v wr => TurnIn w n j A2 w.heap.size f v wr)
      case atStart => exact HST.out
      case round =>
        obtain ⟨i, vals, out, hif, hi, rfl, hvl, hrun, hrl, hnet, hap, hapg, hrd, hbw⟩ := hrel
        by_cases hlt2 : i < (waysN n j).length
        · obtain ⟨k, hkd⟩ : ∃ k, k = (waysN n j)[i] := ⟨_, rfl⟩
          have hk : k < n.length := by rw [hkd]; exact ways_lt (List.getElem_mem hlt2)
          obtain ⟨b2, o2, rfl, hc2⟩ := hrd.at_ i (by rw [vints_length]; exact hlt2)
          have hci : wr.cell? ⟨b2, o2 + i, none⟩ = some (.int .i64 (k : Int)) := by
            rw [hc2 i (by rw [vints_length]; exact hlt2), hkd]
            simp [vints]
          have hb2lt : b2 < wr.heap.size := World.block_lt_of_cell? wr _ hci
          have hkv : k < vals.length := by rw [hvl]; exact hk
          have hrow := hnet.rows k hkv
          obtain ⟨A3, c3, e3, hr3, _⟩ := hrow.rd
          have hck : wr.cell? ⟨w.heap.size, k, none⟩ = some (.slice A3 (row out k).length c3) := by
            rw [hnet.cell hkv, e3, ints_length]
          have hrun2 : turnAll n (List.range' (j + 1) (n.length - (j + 1))) (if (row out k).contains (j : Int) then turnRow j ((waysN n j).drop (i + 1)) out else turnRow j ((waysN n j).drop (i + 1)) (out.set k (row out k ++ [(j : Int)]))) = turn n := by
            rw [← hrun, drop_cons hlt2, ← hkd]
            rfl
          have hrlk := hrl k
          have hcon := contains_any A3 (row out k) c3 (j : Int) wr (by omega) (rdI_of hr3)
          have HR2 := Lib.hid hrun2
          have HVL2 := Lib.hid hvl
          have HRL2 := Lib.hid hrl
          have HKD := Lib.hid hkd
          have HRD := Lib.hid hrd
          have HAP := Lib.hid hap
          have HAPG := Lib.hid hapg
          have HE3 := Lib.hid e3
          clear hrun hrun2 hvl hrl hkd hc2 hrd hap hapg
          cases hcc : (row out k).contains (j : Int) with
          | true =>
            rw [hcc] at hcon
            have HCC := Lib.hid hcc
            clear hcc e3
            go_wp2_with (go_at_call 26; refine hcon.mono ?_; rintro e w5 ⟨rfl, rfl⟩)
            go_roundg (gk - 1)
            case measure => omega
            case rel =>
              have hr := HR2.out
              rw [HCC.out, if_pos rfl] at hr
              exact ⟨i + 1, vals, out, by omega, by omega, by go_num, HVL2.out, hr, fun x => by have := HRL2.out x; omega, hnet, HAP.out, HAPG.out, HRD.out, hbw⟩
          | false =>
            rw [hcc] at hcon
            have HCC := Lib.hid hcc
            rw [e3, ints_length] at hrow
            clear hcc e3
            have hszr := hbw.size
            have hgl := hnet.lt
            go_wp2_with (first | (go_at_call 26; refine hcon.mono ?_; rintro e w5 ⟨rfl, rfl⟩) | (at_builtin; refine wp_push (w := wr) E26 rfl _ _ rfl w.heap.size (.slice A3 (row out k).length c3) (ints (row out k)) rfl (.int .i64 (j : Int)) rfl hrow rfl ?c1 (by decide) ?c2 ?_))
            case c1 => rw [ints_length]; omega
            case c2 => omega
            intro v4 w4 hown4 hgr4 hmv4
            have e1 : ints (row out k) ++ [Value.int .i64 (j : Int)] = ints (row out k ++ [(j : Int)]) := by rw [ints_append]; rfl
            rw [e1] at hown4
            obtain ⟨A4, c4, rfl, _⟩ := hown4.rd
            clear e1
            have ev : Value.slice A3 (row out k).length c3 = val vals k := by have := HE3.out; rw [ints_length] at this; exact this.symm
            rw [ev] at hgr4 hmv4
            have hpush := hnet.push hkv hown4 hgr4 hmv4
            have hne : (val vals k).ownBlock ≠ some w.heap.size := hnet.off k hkv
            have hck4 := cell_grown hgr4 hck (fun hh => hne hh.symm)
            have hfz4 : w4.frozen? ⟨w.heap.size, k, none⟩ = false := Own.frozen (hnet.top.grown hgr4 (.inr (fun hh => hne (by rw [← hh]; rfl)))) rfl k
            have HPUSH := Lib.hid hpush
            have HEV := Lib.hid ev
            clear hpush ev hne
            go_wp2
            go_roundg (gk - 1)
            case measure => omega
            case rel =>
              have hr := HR2.out
              rw [HCC.out, if_neg (by simp)] at hr
              have hg5 : w4.grownBy _ (some w.heap.size) := grownBy_setCell w4 w.heap.size k (.slice A4 (ints (row out k ++ [(j : Int)])).length c4)
              refine ⟨i + 1, _, _, by omega, by omega, by go_num, by rw [List.length_set]; exact HVL2.out, hr, fun x => ?_, HPUSH.out, fun x hx a ha => ?_, HAPG.out, ?_, (hbw.grown hgr4 hszr (fun b hb => (World.ownsRow.lt (hnet.rows k hkv) b hb).1)).setCell (Nat.le_refl _) _⟩
              · have h1 := HRL2.out x
                have h2 := HRL2.out k
                rw [row, getD_set]
                split
                · simp only [List.length_append, List.length_singleton]; omega
                · have : (out.getD x []).length ≤ 61 * j + i := h1
                  omega
              · rw [val, getD_set]
                split
                · exact hmv4 _ (by cases ha; exact hb2lt) (HAP.out k hk a ha)
                · exact HAP.out x hx a ha
              · refine Rd.grown (Rd.grown HRD.out hgr4 fun a ha hh => ?_) hg5 fun a ha hh => ?_
                · exact HAP.out k hk a ha hh.symm
                · have := HAPG.out a ha
                  simp at hh
                  omega
        · have hie : i = (waysN n j).length := by omega
          have hr : turnAll n (List.range' (j + 1) (n.length - (j + 1))) out = turn n := by
            rw [hie, List.drop_length] at hrun
            exact hrun
          have HR2 := Lib.hid hr
          have HVL2 := Lib.hid hvl
          have HRL2 := Lib.hid hrl
          clear hrun hr hie hvl hrl hap hapg
          go_wp2
          go_roundg (f0 - 1)
          case measure => have := HF0.out; omega
          case rel => exact ⟨j + 1, vals, out, by omega, by omega, by go_num, HVL2.out, HR2.out, fun x => by have := HRL2.out x; omega, hnet, hbw⟩
    · have hje : j = n.length := by omega
      have hr : out = turn n := by
        rw [hje, Nat.sub_self] at hrun
        exact hrun
      rw [hr] at hnet
      clear hrun hr hrl
      go_wp2
      go_ret
      exact ⟨_, _, rfl, hnet, hbw⟩
end Go.Proofs.Ythdbkilncddniaa.Ring
