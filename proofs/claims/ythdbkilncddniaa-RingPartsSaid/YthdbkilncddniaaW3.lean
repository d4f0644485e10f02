/- One step of the proof of a statement of this seat: plain laws and walks of the ring package; no condition. -/
import Derived.Test.YthdbkilncddniaaW2
set_option linter.unusedVariables false
set_option linter.unusedSimpArgs false
open Go.RowKit
namespace Go.Proofs.Ythdbkilncddniaa.Ring

theorem own_beyond {w : World} {base e g n cap : Nat} {xs : List Value} (h : w.ownsRow base e 1 (.slice (some ⟨g, 0, none⟩) n cap) n xs) (o : Nat) (ho : n ≤ o) (u : Value) :
    (w.setCell ⟨g, o, none⟩ u).ownsRow base e 1 (.slice (some ⟨g, 0, none⟩) n cap) n xs := by
  rcases h.2 with ⟨h', _⟩ | ⟨g', cap', cur, h', hb, hg, hnc, hcm, hcs, htake⟩
  · simp at h'
  · simp only [Value.slice.injEq, Option.some.injEq, Addr.mk.injEq, and_true, true_and] at h'
    obtain ⟨rfl, rfl⟩ := h'
    refine ⟨h.1, .inr ⟨g, cap, cur.setIfInBounds o u, rfl, hb, heap_setCell_same w g o cur e u hg, hnc, hcm, by simpa using hcs, ?_⟩⟩
    rw [← htake]
    simp only [Array.toList_setIfInBounds]
    rw [List.take_set_of_le (by omega)]
theorem own_beyonds {base e g n cap : Nat} {xs : List Value} : ∀ (vs : List Value) (o : Nat) (w : World), n ≤ o → w.ownsRow base e 1 (.slice (some ⟨g, 0, none⟩) n cap) n xs →
    (w.setCells g o vs).ownsRow base e 1 (.slice (some ⟨g, 0, none⟩) n cap) n xs := by
  intro vs
  induction vs with
  | nil => intro o w _ h; exact h
  | cons v r ih => intro o w ho h; exact ih (o + 1) _ (by omega) (own_beyond h o ho v)
theorem grownBy_setCell (w : World) (g o : Nat) (u : Value) : w.grownBy (w.setCell ⟨g, o, none⟩ u) (some g) :=
  ⟨rfl, rfl, rfl, by simp [World.setCell], fun k _ hk => Below.heap_setCell _ _ _ _ (fun e => hk (by simp [e]))⟩
theorem grownBy_trans {w w1 w2 : World} {g : Option Nat} (h : w.grownBy w1 g) (k : w1.grownBy w2 g) : w.grownBy w2 g :=
  ⟨k.os.trans h.os, k.tape.trans h.tape, k.output.trans h.output, Nat.le_trans h.size k.size, fun i hi hne => (k.block i (Nat.lt_of_lt_of_le hi h.size) hne).trans (h.block i hi hne)⟩
theorem grownBy_refl (w : World) (g : Option Nat) : w.grownBy w g := ⟨rfl, rfl, rfl, Nat.le_refl _, fun _ _ _ => rfl⟩
theorem grownBy_setCells (g : Nat) : ∀ (vs : List Value) (o : Nat) (w : World), w.grownBy (w.setCells g o vs) (some g) := by
  intro vs
  induction vs with
  | nil => intro o w; exact grownBy_refl _ _
  | cons v r ih => intro o w; exact grownBy_trans (grownBy_setCell w g o v) (ih _ _)
/-- a row, cut shorter -/
theorem own_cut {w : World} {base e g n cap m : Nat} {xs : List Value} (h : w.ownsRow base e 1 (.slice (some ⟨g, 0, none⟩) n cap) n xs) (hm : m ≤ n) :
    w.ownsRow base e 1 (.slice (some ⟨g, 0, none⟩) m cap) m (xs.take m) := by
  rcases h.2 with ⟨h', _⟩ | ⟨g', cap', cur, h', hb, hg, hnc, hcm, hcs, htake⟩
  · simp at h'
  · simp only [Value.slice.injEq, Option.some.injEq, Addr.mk.injEq, and_true, true_and] at h'
    obtain ⟨rfl, rfl⟩ := h'
    have := h.1
    refine ⟨by simp; omega, .inr ⟨g, cap, cur, rfl, hb, hg, by omega, hcm, hcs, ?_⟩⟩
    rw [← htake, List.take_take]
    congr 1
    omega
theorem ints_take (l : List Int) (k : Nat) : (ints l).take k = ints (l.take k) := by simp [ints, List.map_take]
theorem ints_set (l : List Int) (k : Nat) (x : Int) : (ints l).set k (.int .i64 x) = ints (l.set k x) := by simp [ints, List.map_set]

theorem own_cell {w : World} {base g cap : Nat} {l : List Int} (h : OwnI base w (.slice (some ⟨g, 0, none⟩) l.length cap) l) (j : Nat) (hj : j < l.length) : w.cell? ⟨g, j, none⟩ = some (.int .i64 (nth l j)) := by
  rw [World.ownsRow.cellAt h j (by omega)]
  simp [ints, nth, List.getD_eq_getElem?_getD, hj]
theorem OwnI.shape {w : World} {base : Nat} {v : Value} {l : List Int} (h : OwnI base w v l) : ∃ A c, v = .slice A l.length c ∧ RdI w A l ∧ l.length ≤ c ∧ c ≤ maxLen ∧ ∀ b, A = some b → b.spot = none ∧ b.off = 0 ∧ base ≤ b.block ∧ b.block < w.heap.size := by
  rcases h.2 with ⟨rfl, h0⟩ | ⟨g, cap, cur, rfl, hb, hg, hnc, hcm, hcs, htake⟩
  · refine ⟨none, 0, by rw [h0], ⟨fun i hi => by omega⟩, by omega, by unfold maxLen; omega, fun b hb => by cases hb⟩
  · refine ⟨_, cap, rfl, ⟨fun i hi => ⟨g, 0, rfl, fun j hj => ?_⟩⟩, hnc, hcm, fun b hb' => ?_⟩
    · rw [Nat.zero_add]; exact own_cell h j hj
    · cases hb'
      exact ⟨rfl, rfl, hb, (Array.getElem?_eq_some_iff.1 hg).1⟩

def DelPost (base : Nat) (len : Nat) (w : World) (g : Option Nat) (l : List Int) (e : Ending) (w' : World) : Prop := ∃ v, e = .returned v ∧ OwnI base w' v (l.filter (hasI len)) ∧ w.grownBy w' g
def delI (len : Nat) (l : List Int) (j : Nat) : Nat := ((l.take j).filter (hasI len)).length

theorem delI_le (len : Nat) (l : List Int) (j : Nat) : delI len l j ≤ j := by
  unfold delI
  have := List.length_filter_le (hasI len) (l.take j)
  simp at this
  omega
theorem take_snoc {l : List Int} {j : Nat} (hj : j < l.length) : l.take (j + 1) = l.take j ++ [nth l j] := by
  rw [List.take_succ_eq_append_getElem hj]
  simp [nth, List.getD_eq_getElem?_getD, hj]
theorem delI_succ {len : Nat} {l : List Int} {j : Nat} (hj : j < l.length) : delI len l (j + 1) = delI len l j + if hasI len (nth l j) = true then 1 else 0 := by
  unfold delI
  rw [take_snoc hj, List.filter_append, List.length_append]
  cases h : hasI len (nth l j) <;> simp [h]
theorem filter_snoc {len : Nat} {l : List Int} {j : Nat} (hj : j < l.length) : (l.take (j + 1)).filter (hasI len) = (l.take j).filter (hasI len) ++ if hasI len (nth l j) = true then [nth l j] else [] := by
  rw [take_snoc hj, List.filter_append]
  cases h : hasI len (nth l j) <;> simp [h]

/-- the row in the loop: kept ones ahead, what is not yet looked at behind -/
structure DelRow (len : Nat) (l ys : List Int) (j : Nat) : Prop where
  len_ : ys.length = l.length
  kept : ys.take (delI len l j) = (l.take j).filter (hasI len)
  rest : ∀ i, j ≤ i → i < l.length → nth ys i = nth l i

theorem DelRow.skip {len : Nat} {l ys : List Int} {j : Nat} (h : DelRow len l ys j) (hj : j < l.length) (hf : hasI len (nth l j) = false) : DelRow len l ys (j + 1) :=
  ⟨h.len_, by rw [filter_snoc hj, delI_succ hj, hf]; simpa using h.kept, fun i hi hi' => h.rest i (by omega) hi'⟩
theorem DelRow.keep {len : Nat} {l ys : List Int} {j : Nat} (h : DelRow len l ys j) (hj : j < l.length) (ht : hasI len (nth l j) = true) : DelRow len l (ys.set (delI len l j) (nth l j)) (j + 1) := by
  have hle := delI_le len l j
  refine ⟨by simp [h.len_], ?_, fun i hi hi' => ?_⟩
  · rw [filter_snoc hj, delI_succ hj, ht]
    simp only [if_true]
    have : delI len l j < (ys.set (delI len l j) (nth l j)).length := by simp [h.len_]; omega
    rw [List.take_succ_eq_append_getElem this, List.getElem_set_self, List.take_set_of_le (Nat.le_refl _), h.kept]
  · have := h.rest i (by omega) hi'
    rw [← this]
    unfold nth
    simp only [List.getD_eq_getElem?_getD]
    rw [List.getElem?_set_ne (by omega)]

theorem zero3 (w : World) : (zeroValue 3).run Try.prog w = .ok (.int .i64 0) w := by kernel_rfl

set_option maxHeartbeats 1000000 in
theorem deleteFunc_any (base : Nat) (v : Value) (l : List Int) (B : Option Addr) (len c2 : Nat) (g : Nat) (w : World) (hl : len ≤ 9223372036854775807) (hll : l.length ≤ 1000000) (hv : OwnI base w v l) (hg : g < base) (hc : w.cell? ⟨g, 0, none⟩ = some (.slice B len c2)) :
    Calls Try.prog 27 #[v, .func (.func 28) #[] #[.pointer (some ⟨g, 0, none⟩)]] w (DelPost base len w v.ownBlock l) := by
  obtain ⟨A, cap, rfl, hA, hcap, hmax, hblk⟩ := hv.shape
  unfold maxLen at hmax
  by_cases hall : ∀ j, j < l.length → hasI len (nth l j) = true
  · have HI := Lib.hid (idxFn_none hall)
    have HF : Hid (l.filter (hasI len) = l) := by
      refine Lib.hid (List.filter_eq_self.2 fun x hx => ?_)
      obtain ⟨i, hi, rfl⟩ := List.getElem_of_mem hx
      have := hall i hi
      simpa [nth, List.getD_eq_getElem?_getD, hi] using this
    clear hall
    go_enter Try.func27, Try.ntmps27
    go_wp2_with (go_at_call 33; refine (indexFunc_any A l cap B len c2 g _ hl (by omega) hA hc).mono ?_; rintro e w' ⟨rfl, rfl⟩; rw [HI.out])
    go_ret
    exact ⟨_, rfl, by rw [HF.out]; exact hv, grownBy_refl _ _⟩
  · obtain ⟨k, hk, hkf, hkl⟩ : ∃ k, k < l.length ∧ hasI len (nth l k) = false ∧ ∀ j, j < k → hasI len (nth l j) = true := by
      have : ∃ k, k < l.length ∧ hasI len (nth l k) = false := by
        refine Classical.byContradiction fun hh => hall fun j hj => ?_
        cases h : hasI len (nth l j) with
        | true => rfl
        | false => exact absurd ⟨j, hj, h⟩ hh
      obtain ⟨k, hk⟩ := this
      induction k using Nat.strongRecOn with
      | _ k ih =>
        by_cases hh : ∃ j, j < k ∧ hasI len (nth l j) = false
        · obtain ⟨j, hj, hjf⟩ := hh
          exact ih j hj ⟨by omega, hjf⟩
        · refine ⟨k, hk.1, hk.2, fun j hj => ?_⟩
          cases h : hasI len (nth l j) with
          | true => rfl
          | false => exact absurd ⟨j, hj, h⟩ hh
    have HI := Lib.hid (idxFn_found hk hkl hkf)
    have hd : delI len l k = k := by
      unfold delI
      rw [List.filter_eq_self.2, List.length_take, Nat.min_eq_left (by omega)]
      intro x hx
      obtain ⟨i, hi, rfl⟩ := List.getElem_of_mem hx
      simp at hi
      have := hkl i (by omega)
      simpa [nth, List.getD_eq_getElem?_getD, show i < l.length by omega] using this
    have hrow : DelRow len l l (k + 1) := by
      refine ⟨rfl, ?_, fun _ _ _ => rfl⟩
      rw [filter_snoc hk, delI_succ hk, hkf, hd]
      simp only [Bool.false_eq_true, if_false, List.append_nil, Nat.add_zero]
      refine (List.filter_eq_self.2 ?_).symm
      intro x hx
      obtain ⟨i, hi, rfl⟩ := List.getElem_of_mem hx
      simp at hi
      have := hkl i (by omega)
      simpa [nth, List.getD_eq_getElem?_getD, show i < l.length by omega] using this
    have hdk : delI len l (k + 1) = k := by rw [delI_succ hk, hkf, hd]; simp
    obtain ⟨b, o, rfl, _⟩ := hA.at_ k hk
    obtain ⟨_, ho, hbb, hbl⟩ := hblk _ rfl
    simp only at ho hbb hbl
    subst ho
    have HR := Lib.hid hrow
    have HDK := Lib.hid hdk
    have HD := Lib.hid hd
    have HKL := Lib.hid hkl
    have HH := Lib.hid hall
    have HV := Lib.hid hv
    have HBK := Lib.hid hblk
    clear hrow hdk hd hkl hall hv hkf hblk
    have hk1 : ((k : Int) == -1) = false := by simp
    go_enter Try.func27, Try.ntmps27
    go_wp2_with (go_at_call 33; refine (indexFunc_any (some ⟨b, 0, none⟩) l cap B len c2 g _ hl (by omega) hA hc).mono ?_; rintro e w' ⟨rfl, rfl⟩; rw [HI.out])
    go_loopw [5, 6] (fun vi vj wr => ∃ (j : Nat) (ys : List Int), k + 1 ≤ j ∧ j ≤ l.length ∧ vi = .int .i64 (delI len l j) ∧ vj = .int .i64 j ∧ DelRow len l ys j ∧ delI len l j < j ∧ OwnI base wr (.slice (some ⟨b, 0, none⟩) ys.length cap) ys ∧ w.grownBy wr (some b)) (fun _ vj _ => l.length - (intOf vj).toNat)
    case atStart => exact ⟨k + 1, l, by omega, by omega, by rw [HDK.out], by go_num, HR.out, by rw [HDK.out]; omega, HV.out, grownBy_refl _ _⟩
    case round =>
      obtain ⟨j, ys, hj1, hj2, rfl, rfl, hrow, hlt1, hown, hgr⟩ := hrel
      have hdle := delI_le len l j
      have HR' := Lib.hid hrow
      have hyl : ys.length = l.length := hrow.len_
      unfold OwnI at hown
      rw [hyl] at hown
      have HYL := Lib.hid hyl
      clear hrow hyl
      have hcy : ∀ i, i < l.length → wr.cell? ⟨b, i, none⟩ = some (.int .i64 (nth ys i)) := fun i hi => by
        rw [World.ownsRow.cellAt hown i (by omega)]
        have : i < ys.length := by rw [HYL.out]; exact hi
        simp [ints, nth, List.getD_eq_getElem?_getD, this]
      have HCY := Lib.hid hcy
      clear hcy
      by_cases hlt : j < l.length
      · have hcj : wr.cell? ⟨b, j, none⟩ = some (.int .i64 (nth l j)) := by
          rw [← HR'.out.rest j (Nat.le_refl _) hlt]
          exact HCY.out j hlt
        have hcg : wr.cell? ⟨g, 0, none⟩ = some (.slice B len c2) := World.grownBy.cell hgr hc (by simp; omega)
        cases hh : hasI len (nth l j) with
        | true =>
          have HT := Lib.hid hh
          clear hh
          have hci : wr.cell? ⟨b, delI len l j, none⟩ = some (.int .i64 (nth ys (delI len l j))) := HCY.out _ (by omega)
          have hfi : wr.frozen? ⟨b, delI len l j, none⟩ = false := World.ownsRow.frozenAt hown _
          have hst := World.ownsRow.stored hown (delI len l j) (.int .i64 (nth l j))
          rw [ints_set] at hst
          have hds : delI len l (j + 1) = delI len l j + 1 := by rw [delI_succ hlt, HT.out]; rfl
          have HDS := Lib.hid hds
          clear hds
          go_wp2_with (go_at_call 28; refine (ways1_any _ _ _ _ _ _ hl hcg).mono ?_; rintro e w' ⟨rfl, rfl⟩; rw [HT.out])
          go_roundw
          case rel =>
            refine ⟨j + 1, ys.set (delI len l j) (nth l j), by omega, by omega, by rw [HDS.out]; go_num, by go_num, HR'.out.keep hlt HT.out, by rw [HDS.out]; omega, ?_, grownBy_trans hgr hst.2⟩
            unfold OwnI
            rw [List.length_set, HYL.out]
            exact hst.1
          case measure => simp [intOf]; omega
        | false =>
          have HT := Lib.hid hh
          clear hh
          have hds : delI len l (j + 1) = delI len l j := by rw [delI_succ hlt, HT.out]; rfl
          have HDS := Lib.hid hds
          clear hds
          go_wp2_with (go_at_call 28; refine (ways1_any _ _ _ _ _ _ hl hcg).mono ?_; rintro e w' ⟨rfl, rfl⟩; rw [HT.out])
          go_roundw
          case rel =>
            refine ⟨j + 1, ys, by omega, by omega, by rw [HDS.out], by go_num, HR'.out.skip hlt HT.out, by rw [HDS.out]; omega, ?_, hgr⟩
            unfold OwnI
            rw [HYL.out]
            exact hown
          case measure => simp [intOf]; omega
      · have hcl := fun w => Lib.run_clear_slice (P := Try.prog) wr 26 3 w (.int .i64 0) Try.underlying26 zero3 rfl rfl b (delI len l j) (l.length - delI len l j) (cap - delI len l j) (by omega) (fun i hi => by rw [HCY.out _ (by omega)]; rfl) (fun i hi => World.ownsRow.frozenAt hown _)
        have hjl : j = l.length := by omega
        have hkept : ys.take (delI len l j) = l.filter (hasI len) := by rw [HR'.out.kept, hjl, List.take_length]
        have HKEPT := Lib.hid hkept
        have hn : (l.filter (hasI len)).length = delI len l j := by rw [hjl]; unfold delI; rw [List.take_length]
        have HN := Lib.hid hn
        clear hn hkept hjl
        go_wp2
        go_ret
        refine ⟨_, rfl, ?_, grownBy_trans hgr (grownBy_setCells _ _ _ _)⟩
        have h1 := own_cut hown (m := delI len l j) (by omega)
        rw [ints_take, HKEPT.out] at h1
        unfold OwnI
        rw [HN.out]
        exact own_beyonds _ _ _ (Nat.le_refl _) h1

end Go.Proofs.Ythdbkilncddniaa.Ring
