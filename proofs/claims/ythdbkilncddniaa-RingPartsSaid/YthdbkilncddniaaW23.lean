/- One step of the proof of a statement of this seat: plain laws and walks of the ring package; no condition. -/
import Derived.Test.YthdbkilncddniaaW22
import Derived.Test.YthdbkilncddniaaShf2
import Derived.Deep.RegionHeld3
set_option linter.unusedVariables false
set_option linter.unusedSimpArgs false
open Go.RowKit
namespace Go.Proofs.Ythdbkilncddniaa.Ring
open RingM Go.Proofs.Mem Go.Sort

theorem closure_any (b1 o1 n1 c1 b2 o2 n2 c2 : Nat) (x y : Int) (w : World) (h1 : 0 < n1) (h2 : 0 < n2) (hc1 : w.cell? ⟨b1, o1, none⟩ = some (.int .i64 x)) (hc2 : w.cell? ⟨b2, o2, none⟩ = some (.int .i64 y)) :
    Calls Try.prog 23 #[.slice (some ⟨b1, o1, none⟩) n1 c1, .slice (some ⟨b2, o2, none⟩) n2 c2] w fun e w' => e = .returned (.int .i64 (cmpI x y)) ∧ ∃ q, w' = w.drewN q := by
  have hc1' : w.cell? ⟨b1, o1, none⟩ = some (.int .i64 x) := hc1
  have hc2' : w.cell? ⟨b2, o2, none⟩ = some (.int .i64 y) := hc2
  have hcomp := fun q => compare_any x y (w.drewN q)
  go_enter Try.func23, Try.ntmps23
  go_wp2_with fail
  go_region_held3 (fun w' => w'.cell? ⟨b1, o1, none⟩ = some (.int .i64 x) ∧ w'.cell? ⟨b2, o2, none⟩ = some (.int .i64 y)) (go_keep) ((go_at_call 24; refine (compare_any x y _).mono ?_; rintro e w' ⟨rfl, rfl⟩))
  go_wp2_with fail
  go_ret
  exact ⟨rfl, 1, rfl⟩

/-- the value's own head -/
def hd (out : List (List Nat)) (i : Nat) : Nat := (out.getD i []).headD 0
theorem cmpI_nat (x y : Nat) : cmpI x y < 0 ↔ x < y := by
  unfold cmpI
  split
  · omega
  · split <;> omega
theorem finMap {α : Type} (k : Nat) (d : α) (l : List α) (hl : l.length = k) : (List.finRange k).map (fun i => l.getD i.1 d) = l := by
  apply List.ext_getElem
  · simp [hl]
  · intro i h1 h2
    simp [List.getD_eq_getElem?_getD, h2]

def SortLPost (base : Nat) (vo : Value) (out : List (List Nat)) (w : World) (e : Ending) (w' : World) : Prop :=
  e = .returned (.tuple #[]) ∧ ∃ ro', OwnOut base w' vo ro' (sortL out) ∧ w.grownBy w' vo.ownBlock

theorem sortFunc_any (base : Nat) (vo : Value) (ro : List Value) (out : List (List Nat)) (w : World) (ho : OwnOut base w vo ro out) (hne : ∀ r, r ∈ out → r ≠ []) (hh : out.Pairwise fun a b => a.headD 0 ≠ b.headD 0) (hl : out.length ≤ 1000) :
    Calls Try.prog 22 #[vo, .func (.func 23) #[] #[]] w (SortLPost base vo out w) := by
  have hlen := ho.len
  rcases ho.top.shape with ⟨rfl, h0⟩ | ⟨g, c, rfl, hb, hgl, hc, hcm, hob⟩
  · subst h0
    have h1 : out = [] := by cases out with
      | nil => rfl
      | cons _ _ => simp at hlen
    subst h1
    refine (Try.slices_SortFunc_none (α := Nat) none 0 _ w).mono ?_
    rintro e w' ⟨rfl, rfl⟩
    exact ⟨rfl, [], ho, grownBy_refl _ _⟩
  · cases hk : ro.length with
    | zero =>
      have h0 : ro = [] := List.eq_nil_of_length_eq_zero hk
      subst h0
      have h1 : out = [] := by cases out with
        | nil => rfl
        | cons _ _ => simp at hlen
      subst h1
      refine (Try.slices_SortFunc_none (α := Nat) _ c _ w).mono ?_
      rintro e w' ⟨rfl, rfl⟩
      exact ⟨rfl, [], ho, grownBy_refl _ _⟩
    | succ k =>
      obtain ⟨enc, henc⟩ : ∃ enc : Fin (k + 1) → Value, enc = fun i => ro.getD i.1 (.slice none 0 0) := ⟨_, rfl⟩
      obtain ⟨cf, hcf⟩ : ∃ cf : Fin (k + 1) → Fin (k + 1) → Int, cf = fun i j => cmpI (hd out i.1 : Int) (hd out j.1 : Int) := ⟨_, rfl⟩
      have hro : (List.finRange (k + 1)).map enc = ro := by rw [henc]; exact finMap (k + 1) _ ro hk
      have hinj : ∀ i j : Fin (k + 1), hd out i.1 = hd out j.1 → i = j := by
        have key : ∀ a b : Nat, a < b → b < out.length → hd out a ≠ hd out b := by
          intro a b hab hb2
          have := List.pairwise_iff_getElem.1 hh a b (by omega) hb2 hab
          unfold hd
          rw [List.getD_eq_getElem?_getD, List.getD_eq_getElem?_getD, List.getElem?_eq_getElem (by omega), List.getElem?_eq_getElem hb2]
          exact this
        intro i j e
        have hi := i.2
        have hj := j.2
        rcases Nat.lt_trichotomy i.1 j.1 with h | h | h
        · exact absurd e (key _ _ h (by omega))
        · exact Fin.ext h
        · exact absurd e.symm (key _ _ h (by omega))
      have hrow : ∀ i : Fin (k + 1), ∃ gi ni ci, enc i = .slice (some ⟨gi, 0, none⟩) ni ci ∧ 0 < ni ∧ gi ≠ g ∧ w.cell? ⟨gi, 0, none⟩ = some (.int .i64 (hd out i.1 : Nat)) := by
        intro i
        have hi := i.2
        have hr := ho.rows i.1 (by omega)
        have hm : out.getD i.1 [] ∈ out := by
          rw [List.getD_eq_getElem?_getD, List.getElem?_eq_getElem (by omega)]
          exact List.getElem_mem _
        obtain ⟨x, l, hxl⟩ := List.exists_cons_of_ne_nil (hne _ hm)
        have hap := own_ne_type hr ho.top (by decide)
        rcases hr.shape with ⟨_, h0⟩ | ⟨gi, ci, hv, _, _, _, _, hobi⟩
        · rw [hxl] at h0
          simp [vints] at h0
        · refine ⟨gi, _, ci, by rw [henc]; exact hv, by rw [hxl]; simp [vints], ?_, ?_⟩
          · rintro rfl
            rw [hobi] at hap
            rcases hap with h | h
            · simp at h
            · simp [Value.ownBlock] at h
          · have h2 := hr
            rw [hv] at h2
            have h3 := Own.cell h2 rfl 0 (by rw [hxl]; simp [vints])
            rw [h3]
            simp only [hxl, hd, vints, List.map_cons, List.getElem_cons_zero, List.headD_cons]
      have hlt : ∀ i j : Fin (k + 1), ltOf cf i j = decide (hd out i.1 < hd out j.1) := fun i j => by
        unfold ltOf
        rw [hcf, decide_eq_decide]
        exact cmpI_nat _ _
      have hO : SWO (ltOf cf) := ⟨fun x => by rw [hlt]; simp, fun x y z h1 h2 => by rw [hlt] at *; simp at *; omega, fun x y z h1 h2 => by rw [hlt] at *; simp at *; omega⟩
      have hT : ∀ x y, ltOf cf x y = false → ltOf cf y x = false → x = y := fun x y h1 h2 => by
        rw [hlt] at *
        simp at *
        exact hinj x y (by omega)
      have eg : ∀ args w, (callFunc 23 args).run Try.prog w = .ok (.enter 23 args) w := enters_of Try.func23 (by kernel_rfl) rfl
      have hH : Holds enc w g 0 (List.finRange (k + 1)).toArray := own_holds (e := 26) (n := ro.length) (c := c) (base := base) (by rw [hro]; exact ho.top) (by simp [hk])
      have hcmp : CmpLays1 Try.prog 23 #[] enc cf g 0 (List.finRange (k + 1)).toArray.size w := by
        refine CmpReads.lays ?_
        intro m os dk hdk x y
        obtain ⟨g1, n1, c1, e1, h1, hg1, hc1⟩ := hrow x
        obtain ⟨g2, n2, c2, e2, h2, hg2, hc2⟩ := hrow y
        have hgr : w.grownBy (sortWorld enc w g 0 m dk os) (some g) := grownBy_put w enc g m dk os
        have k1 := hgr.cell (a := ⟨g1, 0, none⟩) hc1 (by simpa using hg1)
        have k2 := hgr.cell (a := ⟨g2, 0, none⟩) hc2 (by simpa using hg2)
        have := closure_any g1 0 n1 c1 g2 0 n2 c2 _ _ _ h1 h2 k1 k2
        show Calls Try.prog 23 #[enc x, enc y] _ _
        rw [e1, e2, hcf]
        exact this
      have h1c : OneCell enc := fun i => by
        obtain ⟨g1, n1, c1, e1, _⟩ := hrow i
        rw [e1]
        rfl
      have hS := Try.slices_SortFunc_total enc h1c cf hO 23 #[] g 0 c (List.finRange (k + 1)).toArray w eg hcmp hH hgl (by simp; omega) hT
      have hsz : (List.finRange (k + 1)).toArray.size = k + 1 := by simp
      rw [hsz] at hS
      refine hS.mono ?_
      rintro e w' ⟨rfl, m, os, rfl⟩
      clear hS hcmp eg hT hO
      obtain ⟨ts, hts⟩ : ∃ ts, ts = ((List.finRange (k + 1)).toArray.toList.mergeSort fun x y => !(ltOf cf) y x) := ⟨_, rfl⟩
      rw [← hts]
      have hperm : ts.Perm (List.finRange (k + 1)) := by rw [hts]; exact List.mergeSort_perm _ _
      have htl : ts.length = k + 1 := by rw [hperm.length_eq]; simp
      have hnd : ts.Nodup := hperm.nodup_iff.2 (List.nodup_finRange _)
      have hasc : ts.Pairwise fun x y => hd out x.1 ≤ hd out y.1 := by
        have := List.pairwise_mergeSort (le := fun x y => !(ltOf cf) y x) (fun a b c h1 h2 => by simp only [hlt] at *; simp at *; omega) (fun a b => by simp only [hlt]; simp; omega) (List.finRange (k + 1))
        rw [show (List.finRange (k + 1)).mergeSort (fun x y => !(ltOf cf) y x) = ts from hts.symm] at this
        exact this.imp fun h => by simp only [hlt] at h; simpa using h
      have hsort : sortL out = ts.map fun i => out.getD i.1 [] := by
        refine headsAsc_ext (asc_sortL hh) ?_ ?_
        · rw [List.pairwise_map]
          refine (List.Pairwise.and hasc hnd).imp fun {a b} h => ?_
          have h3 : hd out a.1 ≠ hd out b.1 := fun e => h.2 (hinj _ _ e)
          have h4 := h.1
          unfold hd at h3 h4
          omega
        · intro a
          rw [mem_sortL]
          have hout : (List.finRange (k + 1)).map (fun i => out.getD i.1 []) = out := finMap (k + 1) _ out (by omega)
          rw [(hperm.map fun i : Fin (k + 1) => out.getD i.1 []).mem_iff, hout]
      have hown := own_put (enc := enc) (xs := List.finRange (k + 1)) (ts := ts) (n := ro.length) (by rw [hro]; exact ho.top) (by simp [hk]) (by simp [htl]) m os
      have hgr : w.grownBy (sortWorld enc w g 0 m ts.toArray os) (some g) := grownBy_put w enc g m ts.toArray os
      refine ⟨rfl, ts.map enc, ⟨by rw [hsort]; simp, ?_, fun i hi => ?_⟩, hgr⟩
      · show World.ownsRow _ _ _ _ _ _ _
        rw [List.length_map, htl]
        have h5 : World.ownsRow _ _ _ _ _ _ _ := hown
        rw [List.length_map, htl, hk] at h5
        exact h5
      · rw [List.length_map] at hi
        have h6 : val (ts.map enc) i = val ro (ts[i]).1 := by
          unfold val
          rw [List.getD_eq_getElem?_getD, List.getElem?_map, List.getElem?_eq_getElem hi, henc]
          rfl
        have h7 : (sortL out).getD i [] = out.getD (ts[i]).1 [] := by
          rw [hsort, List.getD_eq_getElem?_getD, List.getElem?_map, List.getElem?_eq_getElem hi]
          rfl
        rw [h6, h7]
        have h8 := ho.rows (ts[i]).1 (by have := (ts[i]).2; omega)
        exact h8.grown hgr (own_ne_type h8 ho.top (by decide))
end Go.Proofs.Ythdbkilncddniaa.Ring
