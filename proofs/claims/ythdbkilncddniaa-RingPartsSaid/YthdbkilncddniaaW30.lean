/- One step of the proof of a statement of this seat: plain laws and walks of the ring package; no condition. -/
import Derived.Test.YthdbkilncddniaaW29
set_option linter.unusedVariables false
set_option linter.unusedSimpArgs false
open Go.RowKit
namespace Go.Proofs.Ythdbkilncddniaa.Ring
open RingM Go.Proofs.Mem

theorem edge_iff {n : Net} {v k : Nat} : RingM.Edge n v k ↔ (k : Int) ∈ row n v ∧ k < n.length := by
  unfold RingM.Edge waysN waysI row
  simp only [List.mem_map, List.mem_filter, RingM.has, Bool.and_eq_true, decide_eq_true_eq]
  constructor
  · rintro ⟨x, ⟨h1, h2, h3⟩, rfl⟩
    have : ((x.toNat : Nat) : Int) = x := by omega
    rw [this]
    exact ⟨h1, by omega⟩
  · rintro ⟨h1, h2⟩
    exact ⟨k, ⟨h1, by omega, by omega⟩, by omega⟩
theorem mem_nth {l : List Int} {x : Int} : x ∈ l ↔ ∃ j, j < l.length ∧ nth l j = x := by
  rw [List.mem_iff_getElem]
  constructor
  · rintro ⟨j, hj, rfl⟩
    exact ⟨j, hj, by simp [nth, List.getD_eq_getElem?_getD, hj]⟩
  · rintro ⟨j, hj, rfl⟩
    exact ⟨j, hj, by simp [nth, List.getD_eq_getElem?_getD, hj]⟩
theorem mem_cast {l : List Nat} {x : Int} : x ∈ RingM.cast l ↔ ∃ m, m ∈ l ∧ (m : Int) = x := by
  unfold RingM.cast
  exact List.mem_map

/-- the set of a point's next points and theirs, after some of its row -/
def SetUp (n : Net) (v i : Nat) (S : List Int) : Prop := ∀ x : Int, x ∈ S ↔ ∃ j, j < i ∧ (0 ≤ nth (row n v) j ∧ nth (row n v) j < n.length) ∧ (x = nth (row n v) j ∨ x ∈ RingM.cast (reach n (nth (row n v) j)))
theorem setUp_all {n : Net} {v : Nat} {S : List Int} (h : SetUp n v (row n v).length S) (x : Int) : x ∈ S ↔ x ∈ RingM.cast (reach n (v : Int)) := by
  rw [h x, mem_cast]
  constructor
  · rintro ⟨j, hj, ⟨h0, h1⟩, hx⟩
    obtain ⟨k, hk⟩ : ∃ k : Nat, nth (row n v) j = (k : Int) := ⟨(nth (row n v) j).toNat, by omega⟩
    have he : RingM.Edge n v k := edge_iff.2 ⟨mem_nth.2 ⟨j, hj, hk⟩, by omega⟩
    rw [hk] at hx
    rcases hx with rfl | hx
    · exact ⟨k, mem_reach.2 ⟨k, he, .refl _⟩, rfl⟩
    · obtain ⟨m, hm, rfl⟩ := mem_cast.1 hx
      exact ⟨m, mem_reach.2 ⟨k, he, (mem_reach.1 hm).rp⟩, rfl⟩
  · rintro ⟨m, hm, rfl⟩
    obtain ⟨k, he, hr⟩ := mem_reach.1 hm
    obtain ⟨h1, h2⟩ := edge_iff.1 he
    obtain ⟨j, hj, hjk⟩ := mem_nth.1 h1
    refine ⟨j, hj, by rw [hjk]; omega, ?_⟩
    rw [hjk]
    rcases hr.eq_or with rfl | ht
    · exact .inl rfl
    · exact .inr (mem_cast.2 ⟨m, mem_reach.2 ht, rfl⟩)
theorem setUp_zero (n : Net) (v : Nat) : SetUp n v 0 [] := fun x => by simp
theorem setUp_skip {n : Net} {v i : Nat} {S : List Int} (h : SetUp n v i S) (ho : ¬ (0 ≤ nth (row n v) i ∧ nth (row n v) i < n.length)) : SetUp n v (i + 1) S := by
  intro x
  rw [h x]
  constructor
  · rintro ⟨j, hj, r⟩
    exact ⟨j, by omega, r⟩
  · rintro ⟨j, hj, h1, r⟩
    by_cases e : j = i
    · subst e; exact absurd h1 ho
    · exact ⟨j, by omega, h1, r⟩
/-- while a next point's reach is put -/
def SetIn (n : Net) (v i j : Nat) (S : List Int) : Prop := ∃ S0, SetUp n v i S0 ∧ ∀ x : Int, x ∈ S ↔ x ∈ S0 ∨ x = nth (row n v) i ∨ x ∈ (RingM.cast (reach n (nth (row n v) i))).take j
theorem setIn_start {n : Net} {v i : Nat} {S : List Int} (h : SetUp n v i S) : SetIn n v i 0 (addI (nth (row n v) i) S) := ⟨S, h, fun x => by rw [mem_addI]; simp [or_comm]⟩
theorem setIn_step {n : Net} {v i j : Nat} {S : List Int} (h : SetIn n v i j S) (hj : j < (RingM.cast (reach n (nth (row n v) i))).length) : SetIn n v i (j + 1) (addI (nth (RingM.cast (reach n (nth (row n v) i))) j) S) := by
  obtain ⟨S0, h0, h1⟩ := h
  refine ⟨S0, h0, fun x => ?_⟩
  rw [mem_addI, h1 x, List.take_succ_eq_append_getElem hj, List.mem_append, List.mem_singleton]
  have : nth (RingM.cast (reach n (nth (row n v) i))) j = (RingM.cast (reach n (nth (row n v) i)))[j] := nth_get hj
  rw [this]
  constructor
  · rintro (h | h | h | h)
    · exact .inr (.inr (.inr h))
    · exact .inl h
    · exact .inr (.inl h)
    · exact .inr (.inr (.inl h))
  · rintro (h | h | h | h)
    · exact .inr (.inl h)
    · exact .inr (.inr (.inl h))
    · exact .inr (.inr (.inr h))
    · exact .inl h
theorem setIn_end {n : Net} {v i j : Nat} {S : List Int} (h : SetIn n v i j S) (hj : j = (RingM.cast (reach n (nth (row n v) i))).length) (hi : 0 ≤ nth (row n v) i ∧ nth (row n v) i < n.length) : SetUp n v (i + 1) S := by
  obtain ⟨S0, h0, h1⟩ := h
  intro x
  rw [h1 x, hj, List.take_length, h0 x]
  constructor
  · rintro (⟨k, hk, r⟩ | h | h)
    · exact ⟨k, by omega, r⟩
    · exact ⟨i, by omega, hi, .inl h⟩
    · exact ⟨i, by omega, hi, .inr h⟩
  · rintro ⟨k, hk, h2, r⟩
    by_cases e : k = i
    · subst e
      exact .inr r
    · exact .inl ⟨k, by omega, h2, r⟩
theorem addI_len (k : Int) (S : List Int) : (addI k S).length ≤ S.length + 1 := by
  unfold addI
  split
  · omega
  · simp
theorem same_len {S T : List Int} (h : S.Nodup) (h' : T.Nodup) (he : ∀ x, x ∈ S ↔ x ∈ T) : S.length = T.length :=
  ((List.perm_ext_iff_of_nodup h h').2 he).length_eq
theorem nodup_cast {l : List Nat} (h : l.Nodup) : (RingM.cast l).Nodup := by
  unfold RingM.cast List.Nodup
  rw [List.pairwise_map]
  exact h.imp fun h => by omega

theorem MapB.ne {w : World} {b : Nat} {S : List Int} (h : MapB w b S) {g k : Nat} {v : Value} (hc : w.cell? ⟨g, k, none⟩ = some v) : g ≠ b := by
  rintro rfl
  obtain ⟨D, ⟨es, clock, hb, _⟩, _⟩ := h.own
  unfold World.cell? at hc
  simp [hb] at hc
theorem rdI_grown {w w' : World} {row : Option Nat} {A : Option Addr} {l : List Int} (h : RdI w A l) (hg : w.grownBy w' row) (hne : ∀ a, A = some a → some a.block ≠ row) : RdI w' A l :=
  ⟨fun i hi => by
    obtain ⟨b, o, e, hc⟩ := h.at_ i hi
    exact ⟨b, o, e, fun j hj => hg.cell (a := ⟨b, o + j, none⟩) (hc j hj) (hne ⟨b, o, none⟩ e)⟩⟩
/-- over a point's row -/
def StepRow (n : Net) (v b : Nat) (w1 : World) (f : Nat) (u27 : Value) (wr : World) : Prop :=
  ∃ (i : Nat) (S : List Int), i + f = (row n v).length + 1 ∧ i ≤ (row n v).length ∧ u27 = .int .i64 i ∧ SetUp n v i S ∧ S.length ≤ 30 * i ∧ MapB wr b S ∧ Below w1.heap.size w1 wr
/-- over what a next point reaches -/
def StepIn (n : Net) (v i b : Nat) (A2 : Option Addr) (w1 : World) (f : Nat) (u45 : Value) (wr : World) : Prop :=
  ∃ (j : Nat) (S : List Int), j + f = (reach n (nth (row n v) i)).length + 1 ∧ j ≤ (reach n (nth (row n v) i)).length ∧ u45 = .int .i64 j ∧ SetIn n v i j S ∧ S.length ≤ 30 * i + j + 1 ∧ MapB wr b S ∧ RdI wr A2 (RingM.cast (reach n (nth (row n v) i))) ∧ Below w1.heap.size w1 wr

set_option maxHeartbeats 4000000 in
set_option maxRecDepth 100000 in
theorem steps_any (A : Option Addr) (n : Net) (c : Nat) (w : World) (hl : n.length ≤ 9223372036854775807) (hA : RdN w A n) :
    Calls Try.prog 6 #[.slice A n.length c] w (Tells w true) := by
  by_cases hlg : largeN n = true
  · have HLG := Lib.hid hlg
    clear hlg
    go_enter Try.func6, Try.ntmps6
    go_wp2_with fail
    refine (awake_any w).mono ?_
    rintro e w1 ⟨rfl, b1⟩
    go_wp2_with fail
    refine (large_any A n c w1 hl (hA.below b1)).mono ?_
    rintro e w2 ⟨rfl, rfl⟩
    rw [HLG.out]
    go_wp2_with fail
    go_ret
    exact ⟨rfl, b1⟩
  · have hlg' : largeN n = false := by simpa using hlg
    have hs := small_of hlg'
    have HLG := Lib.hid hlg'
    clear hlg hlg'
    go_enter Try.func6, Try.ntmps6
    go_wp2_with fail
    refine (awake_any w).mono ?_
    rintro e w1 ⟨rfl, b1⟩
    have r1 := hA.below b1
    go_wp2_with fail
    refine (large_any A n c w1 hl r1).mono ?_
    rintro e w2 ⟨rfl, rfl⟩
    rw [HLG.out]
    have hl24 := hs.len
    have HB1 := Lib.hid b1
    clear hA b1 hl
    go_wp2_with fail
    go_loopg [18] (n.length + 1) (fun f v wr => ∃ i : Nat, i + f = n.length + 1 ∧ i ≤ n.length ∧ v = .int .i64 i ∧ Below w1.heap.size w1 wr)
    case atStart => exact ⟨0, by omega, by omega, rfl, Below.refl _ _⟩
    case round =>
      obtain ⟨v, hvf, hv, rfl, bw⟩ := hrel
      by_cases hlt : v < n.length
      · obtain ⟨b, o, rfl, hrow⟩ := r1.at_ v hlt
        obtain ⟨A1, c1, hcell, hrd⟩ := hrow v hlt
        have hc := cell_below bw hcell
        have hr60 := hs.rows v
        have hmap := mapB_made wr
        have bw2 : Below w1.heap.size w1 (wr.alloc (.map #[] 0)) := bw.alloc bw.size _
        have hmk := run_makeMap (P := Try.prog) 29 wr
        have hbl := World.block_lt_of_cell? wr _ hc
        simp only at hbl
        have hc2 := cell_below bw2 hcell
        have HMAP := Lib.hid hmap
        have HBW2 := Lib.hid bw2
        have HRD := Lib.hid hrd
        clear hmap bw2 hrd hrow hcell
        go_wp2_with fail
        generalize hW : (wr.alloc (.map #[] 0)) = W at HMAP HBW2 ⊢
        generalize hb0 : wr.heap.size = b0 at HMAP ⊢
        have hb01 : w1.heap.size ≤ b0 := by rw [← hb0]; exact bw.size
        have HB01 := Lib.hid hb01
        have HW := Lib.hid hW
        obtain ⟨f0, hf0⟩ : ∃ x, x = gk := ⟨_, rfl⟩
        rw [← hf0] at hvf
        have hst : StepRow n v b0 w1 ((row n v).length + 1) (.int .i64 0) W := ⟨0, [], by omega, by omega, rfl, setUp_zero n v, by simp, HMAP.out, HBW2.out⟩
        have HST := Lib.hid hst
        clear hW hb01 hst hc hc2 hmk hbl bw
        go_loopg [27] ((row n v).length + 1) (fun f u27 wr => StepRow n v b0 w1 f u27 wr)
        case atStart => exact HST.out
        case round =>
          obtain ⟨i, S, hif, hi, rfl, hset, hSl, hm, bw3⟩ := hrel
          by_cases hlt2 : i < (row n v).length
          · obtain ⟨bb, oo, rfl, hcc⟩ := HRD.out.at_ i hlt2
            have hck := cell_below bw3 (hcc i hlt2)
            obtain ⟨k, hk⟩ : ∃ k, k = nth (row n v) i := ⟨_, rfl⟩
            rw [← hk] at hck
            have HSET := Lib.hid hset
            have HK := Lib.hid hk
            clear hset hk hcc
            by_cases h0 : 0 ≤ k
            · by_cases h1 : k < n.length
              · obtain ⟨kn, rfl⟩ : ∃ kn : Nat, k = (kn : Int) := ⟨k.toNat, by omega⟩
                go_wp2_with (refine wp_putB rfl _ _ _ rfl b0 S rfl (kn : Int) rfl rfl hm (by omega) (by omega) ?_; intro w4 hm4 hg4)
                have bw4 : Below w1.heap.size w1 w4 := bw3.grown hg4 bw3.size (fun x hx => by cases hx; exact HB01.out)
                have hS4 := addI_len (kn : Int) S
                have hset4 : SetIn n v i 0 (addI (kn : Int) S) := by rw [HK.out]; exact setIn_start HSET.out
                have hre := reach_in (some ⟨b, o, none⟩) n c kn w4 hs (by omega) (r1.below bw4)
                have hle := reach_le n (kn : Int)
                have HSET4 := Lib.hid hset4
                have HBW4 := Lib.hid bw4
                clear hset4 hg4 hm bw3 hck bw4
                go_wp2_with fail
                refine hre.mono ?_
                rintro e w5 ⟨A2, c2, rfl, _, k5, b5⟩
                have bw5 := HBW4.out.trans (b5.mono HBW4.out.size)
                have hm5 := hm4.below b5
                have hr5 := rdI_of_nat k5
                obtain ⟨f1, hf1⟩ : ∃ x, x = gk := ⟨_, rfl⟩
                rw [← hf1] at hif
                have hlen : (reach n (nth (row n v) i)).length = (reach n (kn : Int)).length := by rw [HK.out]
                have hst2 : StepIn n v i b0 A2 w1 ((reach n (kn : Int)).length + 1) (.int .i64 0) w5 := ⟨0, addI (kn : Int) S, by rw [hlen]; omega, by omega, rfl, HSET4.out, by omega, hm5, by rw [← HK.out]; exact hr5, bw5⟩
                have HST2 := Lib.hid hst2
                have HLEN := Lib.hid hlen
                clear hst2 hre k5 b5 bw5 hm5 hr5 hm4 hlen
                go_wp2_with fail
                go_loopg [45] ((reach n (kn : Int)).length + 1) (fun f u45 wr => StepIn n v i b0 A2 w1 f u45 wr)
                case atStart => exact HST2.out
                case round =>
                  obtain ⟨j, S5, hjf, hj, rfl, hset5, hSl5, hm6, hr6, bw6⟩ := hrel
                  rw [HLEN.out] at hjf hj
                  by_cases hlt3 : j < (reach n (kn : Int)).length
                  · obtain ⟨b6, o6, rfl, hc6⟩ := hr6.at_ j (by rw [cast_length, HLEN.out]; exact hlt3)
                    have hck6 := hc6 j (by rw [cast_length, HLEN.out]; exact hlt3)
                    obtain ⟨m, hm'⟩ : ∃ m : Nat, nth (RingM.cast (reach n (nth (row n v) i))) j = (m : Int) := by
                      obtain ⟨m, -, h3⟩ := mem_cast.1 (mem_nth.2 ⟨j, by rw [cast_length, HLEN.out]; exact hlt3, rfl⟩)
                      exact ⟨m, h3.symm⟩
                    have hmlt : m < 1000000 := by
                      have h1 : (m : Int) ∈ RingM.cast (reach n (nth (row n v) i)) := mem_nth.2 ⟨j, by rw [cast_length, HLEN.out]; exact hlt3, hm'⟩
                      obtain ⟨m2, h2, h3⟩ := mem_cast.1 h1
                      rw [← HK.out] at h2
                      have := (mem_reach.1 h2).lt
                      omega
                    rw [hm'] at hck6
                    have hset6 := setIn_step hset5 (by rw [cast_length, HLEN.out]; exact hlt3)
                    rw [hm'] at hset6
                    have hS6 := addI_len (m : Int) S5
                    have hne6 := hm6.ne hck6
                    have HNE6 := Lib.hid hne6
                    clear hne6
                    have HSET6 := Lib.hid hset6
                    have HR6 := Lib.hid hr6
                    have HBW6 := Lib.hid bw6
                    clear hset5 hset6 hr6 hc6 hm' bw6
                    go_wp2_with (refine wp_putB rfl _ _ _ rfl b0 S5 rfl (m : Int) rfl rfl hm6 (by omega) (by omega) ?_; intro w7 hm7 hg7)
                    go_roundg (gk - 1)
                    case measure => omega
                    case rel =>
                      refine ⟨j + 1, addI (m : Int) S5, by rw [HLEN.out]; omega, by rw [HLEN.out]; omega, by go_num, HSET6.out, by omega, hm7, ?_, HBW6.out.grown hg7 HBW6.out.size (fun x hx => by cases hx; exact HB01.out)⟩
                      refine rdI_grown HR6.out hg7 fun a ha => ?_
                      cases ha
                      have := HNE6.out
                      simpa using this
                  · have hje : j = (reach n (kn : Int)).length := by omega
                    have hset7 := setIn_end hset5 (by rw [cast_length, HLEN.out]; exact hje) (by rw [← HK.out]; omega)
                    have HSET7 := Lib.hid hset7
                    clear hset5 hset7 hr6
                    go_wp2_with fail
                    go_roundg (f1 - 1)
                    case measure => omega
                    case rel => exact ⟨i + 1, S5, by omega, by omega, by go_num, HSET7.out, by omega, hm6, bw6⟩
              · go_wp2_with fail
                go_roundg (gk - 1)
                case measure => omega
                case rel => exact ⟨i + 1, S, by omega, by omega, by go_num, setUp_skip HSET.out (by rw [← HK.out]; omega), by omega, hm, bw3⟩
            · go_wp2_with fail
              go_roundg (gk - 1)
              case measure => omega
              case rel => exact ⟨i + 1, S, by omega, by omega, by go_num, setUp_skip HSET.out (by rw [← HK.out]; omega), by omega, hm, bw3⟩
          · have hie : i = (row n v).length := by omega
            rw [hie] at hset
            have hall := setUp_all hset
            have hre := reach_in (some ⟨b, o, none⟩) n c v wr hs hlt (r1.below bw3)
            have hle := reach_le n (v : Int)
            have hlen : S.length = (reach n (v : Int)).length := by
              rw [same_len hm.nodup (nodup_cast ((asc_reach n (v : Int)).imp fun h => by omega)) hall, cast_length]
            have HALL := Lib.hid hall
            have HBW3 := Lib.hid bw3
            have HLEN := Lib.hid hlen
            clear hset hall bw3 hlen
            go_wp2_with fail
            refine hre.mono ?_
            rintro e w5 ⟨A2, c2, rfl, _, k5, b5⟩
            have bw5 := HBW3.out.trans (b5.mono HBW3.out.size)
            have hm5 := hm.below b5
            have hr5 := rdI_of_nat k5
            have HBW5 := Lib.hid bw5
            clear hre k5 b5 bw5 hm
            go_wp2_with fail
            go_loopg [58] ((reach n (v : Int)).length + 1) (fun f u58 wr => ∃ j : Nat, j + f = (reach n (v : Int)).length + 1 ∧ j ≤ (reach n (v : Int)).length ∧ u58 = .int .i64 j ∧ wr = w5)
            case atStart => exact ⟨0, by omega, by omega, rfl, rfl⟩
            case round =>
              obtain ⟨j, hjf, hj, rfl, rfl⟩ := hrel
              by_cases hlt3 : j < (reach n (v : Int)).length
              · have hjc : j < (RingM.cast (reach n (v : Int))).length := by rw [cast_length]; exact hlt3
                obtain ⟨b6, o6, rfl, hc6⟩ := hr5.at_ j hjc
                have hck := hc6 j hjc
                have hmem : nth (RingM.cast (reach n (v : Int))) j ∈ RingM.cast (reach n (v : Int)) := mem_nth.2 ⟨j, hjc, rfl⟩
                obtain ⟨m, hmr, hmx⟩ := mem_cast.1 hmem
                have hdec : decide ((m : Int) ∈ S) = true := decide_eq_true ((HALL.out _).2 (by rw [hmx]; exact hmem))
                have hmlt := (mem_reach.1 hmr).lt
                rw [← hmx] at hck
                by_cases hj0 : j = 0
                · subst hj0
                  have hck0 : wr.cell? ⟨b6, o6, none⟩ = some (.int .i64 (m : Int)) := hck
                  clear hc6 hmem hmr hmx hck
                  go_wp2_with (refine wp_lookB rfl _ _ rfl b0 S rfl (m : Int) rfl hm5 (by omega) ?_; rw [hdec])
                  go_roundg (gk - 1)
                  case measure => omega
                  case rel => exact ⟨1, by omega, by omega, by go_num, rfl⟩
                · obtain ⟨i', rfl⟩ : ∃ i', j = i' + 1 := ⟨j - 1, by omega⟩
                  have hck2 := hc6 i' (by omega)
                  obtain ⟨m2, hmr2, hmx2⟩ := mem_cast.1 (mem_nth.2 ⟨i', by omega, rfl⟩ : nth (RingM.cast (reach n (v : Int))) i' ∈ RingM.cast (reach n (v : Int)))
                  have hasc : m2 < m := by
                    have h1 := List.pairwise_iff_getElem.1 (asc_reach n (v : Int)) i' (i' + 1) (by omega) hlt3 (by omega)
                    rw [nth_get (by rw [cast_length]; omega)] at hmx2
                    rw [nth_get hjc] at hmx
                    simp only [RingM.cast, List.getElem_map] at hmx hmx2
                    omega
                  have hmlt2 := (mem_reach.1 hmr2).lt
                  rw [← hmx2] at hck2
                  clear hc6 hmem hmr hmx hmr2 hmx2
                  go_wp2_with (refine wp_lookB rfl _ _ rfl b0 S rfl (m : Int) rfl hm5 (by omega) ?_; rw [hdec])
                  go_roundg (gk - 1)
                  case measure => omega
                  case rel => exact ⟨i' + 2, by omega, by omega, by go_num, rfl⟩
              · have hlen := HLEN.out
                go_wp2_with (first | (at_len; refine wp_lenB rfl _ rfl b0 S rfl hm5 ?_))
                go_roundg (f0 - 1)
                case measure => omega
                case rel => exact ⟨v + 1, by omega, by omega, by go_num, HBW5.out⟩
      · go_wp2_with fail
        go_ret
        exact ⟨rfl, HB1.out.trans (bw.mono HB1.out.size)⟩
end Go.Proofs.Ythdbkilncddniaa.Ring
