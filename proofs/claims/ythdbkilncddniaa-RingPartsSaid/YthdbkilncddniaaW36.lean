/- One step of the proof of a statement of this seat: plain laws and walks of the ring package; no condition. -/
import Derived.Test.YthdbkilncddniaaW35
set_option linter.unusedVariables false
set_option linter.unusedSimpArgs false
open Go.RowKit
namespace Go.Proofs.Ythdbkilncddniaa.Ring
open RingM Go.Proofs.Mem

theorem E28 : Elem Try.prog 28 29 (.map none) 8 := elem_of Try.underlying28 (by kernel_rfl) rfl
theorem MapB.ne_own {w : World} {b base : Nat} {S : List Int} {e : TypeId} {v : Value} {xs : List Value} (h : MapB w b S) (ho : Own base w e v xs) : v.ownBlock = none ∨ v.ownBlock ≠ some b := by
  rcases ho.2 with ⟨rfl, _⟩ | ⟨g, cap, cur, rfl, _, hg, _⟩
  · exact .inl rfl
  · right
    intro he
    simp only [Value.ownBlock, Option.some.injEq] at he
    subst he
    obtain ⟨D, ⟨es, clock, hb, _⟩, _⟩ := h.own
    rw [hg] at hb
    cases hb
/-- the maps made so far: point i's holds what i reaches -/
structure Sees (w : World) (base : Nat) (v8 : Value) (n : Net) (bs : List Nat) : Prop where
  top : Own base w 29 v8 (bs.map fun b => .map (some b))
  rows : ∀ i, i < bs.length → base ≤ bs.getD i 0 ∧ ∃ S, MapB w (bs.getD i 0) S ∧ ∀ x, x ∈ S ↔ x ∈ RingM.cast (reach n (i : Int))
theorem Sees.grown {w w' : World} {base : Nat} {v8 : Value} {n : Net} {bs : List Nat} {row : Option Nat} (h : Sees w base v8 n bs) (hg : w.grownBy w' row) (h1 : v8.ownBlock = none ∨ v8.ownBlock ≠ row) (h2 : ∀ i, i < bs.length → some (bs.getD i 0) ≠ row) : Sees w' base v8 n bs :=
  ⟨h.top.grown hg h1, fun i hi => by
    obtain ⟨hb, S, hm, hx⟩ := h.rows i hi
    exact ⟨hb, S, hm.kept hg (h2 i hi), hx⟩⟩
theorem Sees.below {w w' : World} {base : Nat} {v8 : Value} {n : Net} {bs : List Nat} (h : Sees w base v8 n bs) (hb : Below w.heap.size w w') : Sees w' base v8 n bs :=
  h.grown (grownBy_of_below hb none) (by cases v8.ownBlock <;> simp) (fun _ _ => by simp)
theorem OwnOut.set {base : Nat} {w : World} {v : Value} {ro : List Value} {out : List (List Nat)} (h : OwnOut base w v ro out) (g o : Nat) (u : Value) (hg : g < base) : OwnOut base (w.setCell ⟨g, o, none⟩ u) v ro out :=
  ⟨h.len, h.top.grown (grownBy_setCell w g o u) (ownBlock_ne h.top hg), fun i hi => (h.rows i hi).grown (grownBy_setCell w g o u) (ownBlock_ne (h.rows i hi) hg)⟩
theorem OwnOut.below {base : Nat} {w w' : World} {v : Value} {ro : List Value} {out : List (List Nat)} (h : OwnOut base w v ro out) (hb : Below w.heap.size w w') : OwnOut base w' v ro out :=
  ⟨h.len, h.top.below hb, fun i hi => (h.rows i hi).below hb⟩
theorem OwnOut.row {base : Nat} {w : World} {A : Option Addr} {m c : Nat} {ro : List Value} {out : List (List Nat)} (h : OwnOut base w (.slice A m c) ro out) {i : Nat} (hi : i < out.length) :
    ∃ b o A5 c5, A = some ⟨b, o, none⟩ ∧ w.cell? ⟨b, o + i, none⟩ = some (.slice A5 (out.getD i []).length c5) ∧ val ro i = .slice A5 (out.getD i []).length c5 := by
  have hlen := h.len
  obtain ⟨A', c', e, hr, -⟩ := h.top.rd
  simp only [Value.slice.injEq] at e
  obtain ⟨rfl, -, -⟩ := e
  obtain ⟨b, o, rfl, hc⟩ := hr.at_ i (by omega)
  obtain ⟨A5, c5, e5, -⟩ := (h.rows i (by omega)).rd
  rw [vints_length] at e5
  refine ⟨b, o, A5, c5, rfl, ?_, e5⟩
  rw [hc i (by omega), ← e5]
  unfold val
  rw [List.getD_eq_getElem?_getD, List.getElem?_eq_getElem (by omega)]
  rfl
theorem OwnOut.rowRd {base : Nat} {w : World} {v : Value} {ro : List Value} {out : List (List Nat)} (h : OwnOut base w v ro out) {i : Nat} (hi : i < out.length) {A5 : Option Addr} {m c5 : Nat} (hv : val ro i = .slice A5 m c5) : RdI w A5 (RingM.cast (out.getD i [])) := by
  have hlen := h.len
  obtain ⟨A', c', e5, hr, -⟩ := (h.rows i (by omega)).rd
  rw [hv] at e5
  simp only [Value.slice.injEq] at e5
  obtain ⟨rfl, -, -⟩ := e5
  exact rdI_of_nat hr
/-- in the loop over rings -/
def PartOut (n : Net) (w1 : World) (B : Nat) (v4 : Value) (ro : List Value) (f : Nat) (u25 : Value) (wr : World) : Prop :=
  ∃ (i : Nat) (h : List Nat), i + f = (rings n).length + 1 ∧ i ≤ (rings n).length ∧ u25 = .int .i64 i ∧ HomeIn n i 0 h ∧ Own w1.heap.size wr 3 (.slice (some ⟨w1.heap.size, 0, none⟩) n.length n.length) (vints h) ∧ OwnOut B wr v4 ro (rings n) ∧ Below w1.heap.size w1 wr
def PartIn (n : Net) (w1 : World) (B : Nat) (v4 : Value) (ro : List Value) (i : Nat) (rg : List Nat) (f : Nat) (u35 : Value) (wr : World) : Prop :=
  ∃ (j : Nat) (h : List Nat), j + f = rg.length + 1 ∧ j ≤ rg.length ∧ u35 = .int .i64 j ∧ HomeIn n i j h ∧ Own w1.heap.size wr 3 (.slice (some ⟨w1.heap.size, 0, none⟩) n.length n.length) (vints h) ∧ OwnOut B wr v4 ro (rings n) ∧ Below w1.heap.size w1 wr

/-- over all points: their maps -/
def SeeOut (n : Net) (w1 : World) (h : List Nat) (B : Nat) (f : Nat) (u8 u64 : Value) (wr : World) : Prop :=
  ∃ (bs : List Nat), bs.length + f = n.length + 1 ∧ bs.length ≤ n.length ∧ u64 = .int .i64 bs.length ∧ Sees wr B u8 n bs ∧ Own w1.heap.size wr 3 (.slice (some ⟨w1.heap.size, 0, none⟩) n.length n.length) (vints h) ∧ Below w1.heap.size w1 wr ∧ B ≤ wr.heap.size
def SeeIn (n : Net) (w1 : World) (h : List Nat) (B v b : Nat) (A2 : Option Addr) (bs : List Nat) (u8 : Value) (f : Nat) (u72 : Value) (wr : World) : Prop :=
  ∃ (j : Nat) (S : List Int), j + f = (reach n (v : Int)).length + 1 ∧ j ≤ (reach n (v : Int)).length ∧ u72 = .int .i64 j ∧ MapB wr b S ∧ (∀ x, x ∈ S ↔ x ∈ (RingM.cast (reach n (v : Int))).take j) ∧ S.length ≤ j ∧ RdI wr A2 (RingM.cast (reach n (v : Int))) ∧
    Sees wr B u8 n bs ∧ (∀ i, i < bs.length → bs.getD i 0 ≠ b) ∧ Own w1.heap.size wr 3 (.slice (some ⟨w1.heap.size, 0, none⟩) n.length n.length) (vints h) ∧ Below w1.heap.size w1 wr ∧ B ≤ wr.heap.size
theorem own_empty {base g : Nat} {w : World} {e : TypeId} (h : w.heap[g]? = some (.cells #[] e)) (hb : base ≤ g) : Own base w e (.slice (some ⟨g, 0, none⟩) 0 0) [] :=
  ⟨rfl, .inr ⟨g, 0, #[], rfl, hb, h, Nat.le_refl _, by unfold maxLen; omega, by simp, rfl⟩⟩

set_option maxHeartbeats 4000000 in
set_option maxRecDepth 100000 in
theorem parts_any (A : Option Addr) (n : Net) (c : Nat) (w : World) (hl : n.length ≤ 9223372036854775807) (hA : RdN w A n) :
    Calls Try.prog 3 #[.slice A n.length c] w (Tells w true) := by
  by_cases hlg : largeN n = true
  · have HLG := Lib.hid hlg
    clear hlg
    go_enter Try.func3, Try.ntmps3
    go_wp2_with fail
    refine (awake_any w).mono ?_
    rintro e w1 ⟨rfl, b1⟩
    go_wp2_with fail
    refine (large_any A n c w1 hl (hA.below b1)).mono ?_
    rintro e w2 ⟨rfl, rfl⟩
    rw [HLG.out]
    go_wp2_with fail
    go_ret
    exact ⟨rfl, b1⟩
  · have hlg' : largeN n = false := by simpa using hlg
    have hs := small_of hlg'
    have HLG := Lib.hid hlg'
    clear hlg hlg'
    go_enter Try.func3, Try.ntmps3
    go_wp2_with fail
    refine (awake_any w).mono ?_
    rintro e w1 ⟨rfl, b1⟩
    have r1 := hA.below b1
    go_wp2_with fail
    refine (large_any A n c w1 hl r1).mono ?_
    rintro e w2 ⟨rfl, rfl⟩
    rw [HLG.out]
    have hl24 := hs.len
    have HB1 := Lib.hid b1
    clear hA b1 hl
    go_wp2_with (refine wp_make E26 rfl _ _ rfl w1.heap.size _ _ n.length rfl rfl rfl rfl (by omega) (by unfold maxLen; omega) (Nat.le_refl _) ?_)
    intro w3 hown3 hb3 hsz3
    rw [vints_zero] at hown3
    have hro := rings_any w3 A c n hs (r1.below hb3)
    obtain ⟨hrl, hrr⟩ := rings_sizes n
    have hB : w1.heap.size < w3.heap.size := hsz3
    go_wp2_with fail
    refine hro.mono ?_
    rintro e w4 ⟨v4, ro, rfl, h4, b4⟩
    generalize w3.heap.size = B at h4 hB
    have bw4 := hb3.trans (b4.mono hb3.size)
    have hst : PartOut n w1 B v4 ro ((rings n).length + 1) (.int .i64 0) w4 := ⟨0, _, by omega, by omega, rfl, home_start n, hown3.below b4, h4, bw4⟩
    obtain ⟨A4, c4, rfl, -⟩ := h4.rdN
    have HST := Lib.hid hst
    clear hro hst h4 b4 bw4 hown3 hb3 hsz3
    go_wp2_with fail
    go_loopg [25] ((rings n).length + 1) (fun f u25 wr => PartOut n w1 B (.slice A4 (rings n).length c4) ro f u25 wr)
    case atStart => exact HST.out
    case round =>
      obtain ⟨i, h, hif, hi, rfl, hh, hown, hout, bw⟩ := hrel
      by_cases hlt : i < (rings n).length
      · obtain ⟨b, o, A5, c5, rfl, hcell, hval⟩ := hout.row hlt
        have hmem : (rings n).getD i [] ∈ rings n := by
          rw [List.getD_eq_getElem?_getD, List.getElem?_eq_getElem hlt]
          exact List.getElem_mem _
        obtain ⟨rg, hrg⟩ : ∃ rg, rg = (rings n).getD i [] := ⟨_, rfl⟩
        have HRG := Lib.hid hrg
        rw [← hrg] at hcell hmem hval
        clear hrg
        have hne : 0 < rg.length := List.length_pos_iff.2 ((rings_told n).ne _ hmem)
        have hle := hrr _ hmem
        obtain ⟨f0, hf0⟩ : ∃ x, x = gk := ⟨_, rfl⟩
        rw [← hf0] at hif
        have hst : PartIn n w1 B (.slice (some ⟨b, o, none⟩) (rings n).length c4) ro i rg (rg.length + 1) (.int .i64 0) wr := ⟨0, h, by omega, by omega, rfl, hh, hown, hout, bw⟩
        have HST2 := Lib.hid hst
        have HVAL := Lib.hid hval
        have hne0 : ((rg.length : Int) == 0) = false := by rw [beq_eq_false_iff_ne]; omega
        clear hst hh hown hout bw hmem hval
        go_wp2_with fail
        go_loopg [35] (rg.length + 1) (fun f u35 wr => PartIn n w1 B (.slice (some ⟨b, o, none⟩) (rings n).length c4) ro i rg f u35 wr)
        case atStart => exact HST2.out
        case round =>
          obtain ⟨j, h, hjf, hj, rfl, hh, hown, hout, bw⟩ := hrel
          by_cases hlt2 : j < rg.length
          · have hrd := hout.rowRd hlt HVAL.out
            rw [← HRG.out] at hrd
            obtain ⟨b5, o5, rfl, hc5⟩ := hrd.at_ j (by rw [cast_length]; exact hlt2)
            have hck := hc5 j (by rw [cast_length]; exact hlt2)
            obtain ⟨x, hx⟩ : ∃ x, x = rg[j] := ⟨_, rfl⟩
            have hnx : nth (RingM.cast rg) j = (x : Int) := by
              rw [nth_get (by rw [cast_length]; exact hlt2), hx]
              simp [RingM.cast]
            rw [hnx] at hck
            obtain ⟨hz, hxl⟩ := home_zero hh (by rw [← HRG.out]; exact hlt2) (by simp only [← HRG.out]; exact hx)
            have hstep := home_step hh (by rw [← HRG.out]; exact hlt2) (by simp only [← HRG.out]; exact hx)
            have hhl := hh.1
            have hcx := vints_at hown hhl.symm (i := x) (by omega)
            have fx := Own.frozen hown (by rw [vints_length]; exact hhl.symm) x
            rw [hz] at hcx
            have hown2 := (Own.store hown (by rw [vints_length]; exact hhl.symm) x (.int .i64 ((i + 1 : Nat) : Int))).1
            rw [vints_set] at hown2
            have HS := Lib.hid hstep
            have HO2 := Lib.hid hown2
            have HOUT := Lib.hid hout
            have HBW := Lib.hid bw
            clear hstep hown2 hout bw hh hown hrd hc5 hnx hx hz
            go_wp2_with fail
            go_roundg (gk - 1)
            case measure => omega
            case rel =>
              exact ⟨j + 1, h.set x (i + 1), by omega, by omega, by go_num, HS.out, HO2.out, HOUT.out.set _ _ _ hB, HBW.out.setCell (by simp) _⟩
          · go_wp2_with fail
            go_roundg (f0 - 1)
            case measure => omega
            case rel => exact ⟨i + 1, h, by omega, by omega, by go_num, home_next hh (by rw [← HRG.out]; omega), hown, hout, bw⟩
      · have hie : i = (rings n).length := by omega
        subst hie
        go_wp2_with fail
        obtain ⟨hz1, hz2⟩ := home_end hh
        have hhl := hh.1
        have hle1 := fun k hk => home_le hh k hk
        have hsee : SeeOut n w1 h wr.heap.size (n.length + 1) (.slice (some ⟨wr.heap.size, 0, none⟩) 0 0) (.int .i64 0) (wr.alloc (.cells #[] 29)) := by
          refine ⟨[], by simp, by simp, rfl, ⟨own_empty (MapKept.heap_alloc wr _).1 (Nat.le_refl _), fun i hi => absurd hi (by simp)⟩, World.ownsRow.alloc hown _, bw.alloc bw.size _, by simp⟩
        generalize wr.alloc (.cells #[] 29) = W at hsee ⊢
        have hB2 := bw.size
        generalize wr.heap.size = B2 at hsee hB2 ⊢
        have HSEE := Lib.hid hsee
        have HZ1 := Lib.hid hz1
        have HZ2 := Lib.hid hz2
        have HLE1 := Lib.hid hle1
        have HHL := Lib.hid hhl
        clear hsee hz1 hz2 hle1 hhl hh hown hout bw hrr hrl
        go_loopg [8, 64] (n.length + 1) (fun f u8 u64 wr => SeeOut n w1 h B2 f u8 u64 wr)
        case atStart => exact HSEE.out
        case round =>
          obtain ⟨bs, hbf, hbl, rfl, hsees, hown, bw, hBw⟩ := hrel
          by_cases hlt : bs.length < n.length
          · obtain ⟨v, hvd⟩ : ∃ v, v = bs.length := ⟨_, rfl⟩
            have hmk := run_makeMap (P := Try.prog) 29 wr
            have hmap := mapB_made wr
            have bw2 : Below w1.heap.size w1 (wr.alloc (.map #[] 0)) := bw.alloc bw.size _
            have ba : Below wr.heap.size wr (wr.alloc (.map #[] 0)) := Below.alloc (Below.refl _ _) (Nat.le_refl _) _
            have hsees2 := hsees.below ba
            have hown2 := hown.below ba
            have hbsne : ∀ i, i < bs.length → bs.getD i 0 ≠ wr.heap.size := fun i hi => by
              obtain ⟨_, S, hm, _⟩ := hsees.rows i hi
              have := hm.lt
              omega
            have hBw2 : B2 ≤ (wr.alloc (.map #[] 0)).heap.size := Nat.le_trans hBw ba.size
            have hre := reach_in A n c v (wr.alloc (.map #[] 0)) hs (by omega) (r1.below bw2)
            have hle := reach_le n (v : Int)
            have HS2 := Lib.hid hsees2
            have HO2 := Lib.hid hown2
            have HNE := Lib.hid hbsne
            have HBW2 := Lib.hid bw2
            have HMAP := Lib.hid hmap
            have HVD := Lib.hid hvd
            rw [← hvd] at hbf hlt hbl ⊢
            clear hsees2 hown2 hbsne bw2 hmap hsees hown bw ba hvd
            go_wp2_with fail
            generalize wr.alloc (.map #[] 0) = W at HS2 HO2 HBW2 HMAP hre hBw2 ⊢
            have hbB := hBw
            generalize wr.heap.size = b0 at HNE HMAP hBw hbB ⊢
            refine hre.mono ?_
            rintro e w5 ⟨A2, c2, rfl, _, k5, b5⟩
            obtain ⟨f0, hf0⟩ : ∃ x, x = gk := ⟨_, rfl⟩
            rw [← hf0] at hbf
            have hst : SeeIn n w1 h B2 v b0 A2 bs u8 ((reach n (v : Int)).length + 1) (.int .i64 0) w5 :=
              ⟨0, [], by omega, by omega, rfl, HMAP.out.below b5, fun x => by simp, by simp, rdI_of_nat k5, HS2.out.below b5, HNE.out, HO2.out.below b5, HBW2.out.trans (b5.mono HBW2.out.size), Nat.le_trans hBw2 b5.size⟩
            have HST3 := Lib.hid hst
            clear hst k5 b5 hre hmk
            go_wp2_with fail
            go_loopg [72] ((reach n (v : Int)).length + 1) (fun f u72 wr => SeeIn n w1 h B2 v b0 A2 bs u8 f u72 wr)
            case atStart => exact HST3.out
            case round =>
              obtain ⟨j, S, hjf, hj, rfl, hm, hS, hSl, hrd, hsees, hne, hown, bw, hBw⟩ := hrel
              by_cases hlt2 : j < (reach n (v : Int)).length
              · have hjc : j < (RingM.cast (reach n (v : Int))).length := by rw [cast_length]; exact hlt2
                obtain ⟨b6, o6, rfl, hc6⟩ := hrd.at_ j hjc
                have hck := hc6 j hjc
                obtain ⟨m, hmr, hmx⟩ := mem_cast.1 (mem_nth.2 ⟨j, hjc, rfl⟩ : nth (RingM.cast (reach n (v : Int))) j ∈ RingM.cast (reach n (v : Int)))
                have hmlt := (mem_reach.1 hmr).lt
                have hS2 : ∀ x, x ∈ addI (m : Int) S ↔ x ∈ (RingM.cast (reach n (v : Int))).take (j + 1) := fun x => by
                  rw [mem_addI, hS x, List.take_succ_eq_append_getElem hjc, List.mem_append, List.mem_singleton, ← nth_get hjc, hmx, or_comm]
                have hSl2 := addI_len (m : Int) S
                rw [← hmx] at hck
                have hne6 := hm.ne hck
                have ho1 := hm.ne_own hsees.top
                have ho2 := hm.ne_own hown
                have HNE6 := Lib.hid hne6
                have HO1 := Lib.hid ho1
                have HO3 := Lib.hid ho2
                have HSX := Lib.hid hS2
                have HRD := Lib.hid hrd
                have HSEES := Lib.hid hsees
                have HOWN := Lib.hid hown
                have HBW := Lib.hid bw
                have HNEB := Lib.hid hne
                clear hne6 ho1 ho2 hS2 hrd hsees hown bw hne hc6 hmr hmx hS
                go_wp2_with (refine wp_putB rfl _ _ _ rfl b0 S rfl (m : Int) rfl rfl hm (by omega) (by omega) ?_; intro w7 hm7 hg7)
                go_roundg (gk - 1)
                case measure => omega
                case rel =>
                  refine ⟨j + 1, addI (m : Int) S, by omega, by omega, by go_num, hm7, HSX.out, by omega, rdI_grown HRD.out hg7 (fun a ha => ?_), HSEES.out.grown hg7 HO1.out (fun i hi => ?_), HNEB.out, HOWN.out.grown hg7 HO3.out, HBW.out.grown hg7 HBW.out.size (fun x hx => ?_), Nat.le_trans hBw hg7.size⟩
                  · cases ha
                    have := HNE6.out
                    simpa using this
                  · have := HNEB.out i hi
                    simpa using this
                  · cases hx
                    omega
              · have hje : j = (reach n (v : Int)).length := by omega
                have hall : ∀ x, x ∈ S ↔ x ∈ RingM.cast (reach n (v : Int)) := fun x => by rw [hS x, hje, ← cast_length, List.take_length]
                have htop := hsees.top
                have HALL := Lib.hid hall
                have HSEES := Lib.hid hsees
                have HOWN := Lib.hid hown
                have HBW := Lib.hid bw
                have HM := Lib.hid hm
                have hbl2 : (bs.map fun b => Value.map (some b)).length = v := by rw [List.length_map, HVD.out]
                clear hall hsees hown bw hrd hS hm
                go_wp2_with (at_builtin; refine wp_push (w := wr) E28 rfl _ _ rfl B2 u8 (bs.map fun b => .map (some b)) rfl (.map (some b0)) rfl htop rfl ?c1 (by decide) ?c2 ?_)
                case c1 => rw [hbl2]; omega
                case c2 => exact hBw
                intro v9 w9 hown9 hgr9 hmv9
                have hsz9 := hgr9.size
                have ht1 := own_ne_type HOWN.out htop (by decide)
                have hown9' := HOWN.out.grown hgr9 ht1
                have hbw9 : Below w1.heap.size w1 w9 := HBW.out.grown hgr9 HBW.out.size (fun k hk => by have := (World.ownsRow.lt htop k hk).1; omega)
                have hsee9 : Sees w9 B2 v9 n (bs ++ [b0]) := by
                  refine ⟨by rw [List.map_append]; exact hown9, fun i hi => ?_⟩
                  rw [List.length_append, List.length_singleton] at hi
                  by_cases e : i < bs.length
                  · rw [show (bs ++ [b0]).getD i 0 = bs.getD i 0 from by rw [List.getD_eq_getElem?_getD, List.getD_eq_getElem?_getD, List.getElem?_append_left e]]
                    obtain ⟨q1, S1, q2, q3⟩ := HSEES.out.rows i e
                    refine ⟨q1, S1, q2.kept hgr9 ?_, q3⟩
                    rcases q2.ne_own htop with e | e
                    · rw [e]; simp
                    · exact Ne.symm e
                  · have hi2 : i = bs.length := by omega
                    rw [show (bs ++ [b0]).getD i 0 = b0 from by rw [hi2, List.getD_eq_getElem?_getD, List.getElem?_append_right (by omega)]; simp]
                    refine ⟨hbB, S, HM.out.kept hgr9 ?_, ?_⟩
                    · rcases HM.out.ne_own htop with e | e
                      · rw [e]; simp
                      · exact Ne.symm e
                    · rw [hi2, ← HVD.out]; exact HALL.out
                have H9 := Lib.hid hsee9
                have HO9 := Lib.hid hown9'
                have HB9 := Lib.hid hbw9
                have hv9 := hown9.rd
                obtain ⟨A9, c9, rfl, -⟩ := hv9
                clear hsee9 hown9' hbw9 hown9 hgr9 hmv9 ht1 htop
                go_wp2_with fail
                go_roundg (f0 - 1)
                case measure => omega
                case rel =>
                  have hvd := HVD.out
                  exact ⟨bs ++ [b0], by simp; omega, by simp; omega, by simp only [List.length_append, List.length_singleton, ← hvd]; go_num, by have := H9.out; simpa using this, HO9.out, HB9.out, by omega⟩
          · have hbn : bs.length = n.length := by omega
            obtain ⟨A8, c8, e8, htop, -⟩ := hsees.top.rd
            subst e8
            have hml : (bs.map fun b => Value.map (some b)).length = n.length := by rw [List.length_map, hbn]
            have HSEES := Lib.hid hsees
            have HOWN := Lib.hid hown
            have HBW := Lib.hid bw
            rw [hml]
            rw [hml] at HSEES
            clear hsees hown bw htop
            go_wp2_with fail
            go_loopg [86] (n.length + 1) (fun f u86 wr => ∃ v : Nat, v + f = n.length + 1 ∧ v ≤ n.length ∧ u86 = .int .i64 v ∧ Sees wr B2 (.slice A8 n.length c8) n bs ∧ Own w1.heap.size wr 3 (.slice (some ⟨w1.heap.size, 0, none⟩) n.length n.length) (vints h) ∧ Below w1.heap.size w1 wr)
            case atStart => exact ⟨0, by omega, by omega, rfl, HSEES.out, HOWN.out, HBW.out⟩
            case round =>
              obtain ⟨v, hvf, hv, rfl, hsees, hown, bw⟩ := hrel
              by_cases hltv : v < n.length
              · obtain ⟨f0, hf0⟩ : ∃ x, x = gk := ⟨_, rfl⟩
                rw [← hf0] at hvf
                have HS2 := Lib.hid hsees
                have HO2 := Lib.hid hown
                have HB2 := Lib.hid bw
                clear hsees hown bw
                go_wp2_with fail
                go_loopg [91] (n.length + 1) (fun f u91 wr => ∃ k : Nat, k + f = n.length + 1 ∧ k ≤ n.length ∧ u91 = .int .i64 k ∧ Sees wr B2 (.slice A8 n.length c8) n bs ∧ Own w1.heap.size wr 3 (.slice (some ⟨w1.heap.size, 0, none⟩) n.length n.length) (vints h) ∧ Below w1.heap.size w1 wr)
                case atStart => exact ⟨0, by omega, by omega, rfl, HS2.out, HO2.out, HB2.out⟩
                case round =>
                  obtain ⟨k, hkf, hk, rfl, hsees, hown, bw⟩ := hrel
                  by_cases hltk : k < n.length
                  · have hcv := vints_at hown HHL.out.symm (i := v) (by rw [HHL.out]; exact hltv)
                    have hck := vints_at hown HHL.out.symm (i := k) (by rw [HHL.out]; exact hltk)
                    have hnz := HZ1.out v hltv
                    have hz2 := HZ2.out v k hltv hltk
                    obtain ⟨A8', c8', e8, htop, -⟩ := hsees.top.rd
                    simp only [Value.slice.injEq] at e8
                    obtain ⟨rfl, -, -⟩ := e8
                    obtain ⟨b8, o8, rfl, hc8⟩ := htop.at_ v (by rw [hml]; exact hltv)
                    have hmv := hc8 v (by rw [hml]; exact hltv)
                    have hmk := hc8 k (by rw [hml]; exact hltk)
                    simp only [List.getElem_map] at hmv hmk
                    obtain ⟨_, Sv, hSv, hSvx⟩ := hsees.rows v (by omega)
                    obtain ⟨_, Sk, hSk, hSkx⟩ := hsees.rows k (by omega)
                    rw [List.getD_eq_getElem?_getD, List.getElem?_eq_getElem (by omega)] at hSv hSk
                    simp only [Option.getD_some] at hSv hSk
                    generalize bs[v]'(by omega) = bv at hmv hSv
                    generalize bs[k]'(by omega) = bk at hmk hSk
                    have hlv := fun q => (hSv.below (below_drewN (Below.refl _ _) q)).look (k : Int) (by omega)
                    have hlk := fun q => (hSk.below (below_drewN (Below.refl _ _) q)).look (v : Int) (by omega)
                    have hp : (k : Int) ∈ Sv ↔ TP n v k := by
                      rw [hSvx, mem_cast]
                      exact ⟨fun ⟨m, hm, e⟩ => by have : m = k := by omega
                                                  subst this; exact mem_reach.1 hm, fun t => ⟨k, mem_reach.2 t, rfl⟩⟩
                    have hq : (v : Int) ∈ Sk ↔ TP n k v := by
                      rw [hSkx, mem_cast]
                      exact ⟨fun ⟨m, hm, e⟩ => by have : m = v := by omega
                                                  subst this; exact mem_reach.1 hm, fun t => ⟨v, mem_reach.2 t, rfl⟩⟩
                    have hz : ((h.getD v 0 : Nat) : Int) ≠ 0 := by omega
                    have hz' : (((h.getD v 0 : Nat) : Int) == 0) = false := by rw [beq_eq_false_iff_ne]; exact hz
                    have hd : ∀ q, Below wr.heap.size wr (wr.drewN q) := fun q => below_drewN (Below.refl _ _) q
                    have HS3 := Lib.hid (fun q => hsees.below (hd q))
                    have HO3 := Lib.hid (fun q => hown.below (hd q))
                    have HB3 := Lib.hid (fun q => bw.trans ((hd q).mono bw.size))
                    clear hSv hSk hSvx hSkx hc8 htop hsees hown bw hnz hd
                    by_cases hvk : v = k
                    · subst hvk
                      have he1 : (((h.getD v 0 : Nat) : Int) == ((h.getD v 0 : Nat) : Int)) = true := by simp
                      have he2 : ((v : Int) == (v : Int)) = true := by simp
                      generalize h.getD v 0 = x1 at hcv hz' he1 hck
                      clear hz2 hz hp hq hlv hlk
                      go_wp2_with fail
                      go_quiet (fail)
                      go_wp2_with fail
                      go_roundg (gk - 1)
                      case measure => omega
                      case rel => exact ⟨v + 1, by omega, by omega, by go_num, HS3.out _, HO3.out _, HB3.out _⟩
                    · have he2 : ((v : Int) == (k : Int)) = false := by rw [beq_eq_false_iff_ne]; omega
                      by_cases hpt : TP n v k
                      · simp only [decide_eq_true (hp.2 hpt)] at hlv
                        by_cases hqt : TP n k v
                        · simp only [decide_eq_true (hq.2 hqt)] at hlk
                          have he1 : (((h.getD v 0 : Nat) : Int) == ((h.getD k 0 : Nat) : Int)) = true := by rw [beq_iff_eq, hz2.2 (.inr ⟨hpt, hqt⟩)]
                          generalize h.getD v 0 = x1 at hcv hz' he1
                          generalize h.getD k 0 = x2 at hck he1
                          clear hz2 hz hp hq
                          go_wp2_with fail
                          go_quiet (fail)
                          go_wp2_with fail
                          go_roundg (gk - 1)
                          case measure => omega
                          case rel => exact ⟨k + 1, by omega, by omega, by go_num, HS3.out _, HO3.out _, HB3.out _⟩
                        · simp only [decide_eq_false (fun t => hqt (hq.1 t))] at hlk
                          have he1 : (((h.getD v 0 : Nat) : Int) == ((h.getD k 0 : Nat) : Int)) = false := by
                            rw [beq_eq_false_iff_ne]
                            intro e
                            rcases hz2.1 (by omega) with e | ⟨_, t⟩
                            · exact hvk e
                            · exact hqt t
                          generalize h.getD v 0 = x1 at hcv hz' he1
                          generalize h.getD k 0 = x2 at hck he1
                          clear hz2 hz hp hq
                          go_wp2_with fail
                          go_quiet (fail)
                          go_wp2_with fail
                          go_roundg (gk - 1)
                          case measure => omega
                          case rel => exact ⟨k + 1, by omega, by omega, by go_num, HS3.out _, HO3.out _, HB3.out _⟩
                      · simp only [decide_eq_false (fun t => hpt (hp.1 t))] at hlv
                        have he1 : (((h.getD v 0 : Nat) : Int) == ((h.getD k 0 : Nat) : Int)) = false := by
                          rw [beq_eq_false_iff_ne]
                          intro e
                          rcases hz2.1 (by omega) with e | ⟨t, _⟩
                          · exact hvk e
                          · exact hpt t
                        generalize h.getD v 0 = x1 at hcv hz' he1
                        generalize h.getD k 0 = x2 at hck he1
                        clear hz2 hz hp hq hlk
                        go_wp2_with fail
                        go_quiet (fail)
                        go_wp2_with fail
                        go_roundg (gk - 1)
                        case measure => omega
                        case rel => exact ⟨k + 1, by omega, by omega, by go_num, HS3.out _, HO3.out _, HB3.out _⟩
                  · go_wp2_with fail
                    go_roundg (f0 - 1)
                    case measure => omega
                    case rel => exact ⟨v + 1, by omega, by omega, by go_num, hsees, hown, bw⟩
              · go_wp2_with fail
                go_ret
                exact ⟨rfl, HB1.out.trans (bw.mono HB1.out.size)⟩
end Go.Proofs.Ythdbkilncddniaa.Ring
