/- One step of the proof of a statement of this seat: plain laws and walks of the ring package; no condition. -/
import Derived.Test.YthdbkilncddniaaW32
set_option linter.unusedVariables false
set_option linter.unusedSimpArgs false
open Go.RowKit
namespace Go.Proofs.Ythdbkilncddniaa.Ring
open RingM Go.Proofs.Mem

def anyTo (n : Net) (i : Nat) : Bool := (List.range i).any fun u => loops n (u : Int)
theorem anyTo_succ (n : Net) (i : Nat) : anyTo n (i + 1) = (anyTo n i || loops n (i : Int)) := by
  unfold anyTo
  rw [List.range_succ, List.any_append]
  simp
theorem idx_lt {l : List Nat} {x : Nat} (h : x ∈ l) : l.idxOf x < l.length := List.idxOf_lt_length_iff.2 h

set_option maxHeartbeats 4000000 in
set_option maxRecDepth 100000 in
theorem orders_any (A : Option Addr) (n : Net) (c : Nat) (w : World) (hl : n.length ≤ 9223372036854775807) (hA : RdN w A n) :
    Calls Try.prog 4 #[.slice A n.length c] w (Tells w true) := by
  by_cases hlg : largeN n = true
  · have HLG := Lib.hid hlg
    clear hlg
    go_enter Try.func4, Try.ntmps4
    go_wp2_with fail
    refine (awake_any w).mono ?_
    rintro e w1 ⟨rfl, b1⟩
    go_wp2_with fail
    refine (large_any A n c w1 hl (hA.below b1)).mono ?_
    rintro e w2 ⟨rfl, rfl⟩
    rw [HLG.out]
    go_wp2_with fail
    go_ret
    exact ⟨rfl, b1⟩
  · have hlg' : largeN n = false := by simpa using hlg
    have hs := small_of hlg'
    have HLG := Lib.hid hlg'
    clear hlg hlg'
    go_enter Try.func4, Try.ntmps4
    go_wp2_with fail
    refine (awake_any w).mono ?_
    rintro e w1 ⟨rfl, b1⟩
    have r1 := hA.below b1
    go_wp2_with fail
    refine (large_any A n c w1 hl r1).mono ?_
    rintro e w2 ⟨rfl, rfl⟩
    rw [HLG.out]
    have hl24 := hs.len
    have HB1 := Lib.hid b1
    clear hA b1 hl
    go_wp2_with fail
    go_loopg [19, 3] (n.length + 1) (fun f v19 v3 wr => ∃ (i : Nat) (bb : Bool), i + f = n.length + 1 ∧ i ≤ n.length ∧ v19 = .int .i64 i ∧ v3 = .bool bb ∧ bb = anyTo n i ∧ Below w1.heap.size w1 wr)
    case atStart => exact ⟨0, false, by omega, by omega, rfl, rfl, rfl, Below.refl _ _⟩
    case round =>
      obtain ⟨i, bb, hif, hi, rfl, rfl, hbb, bw⟩ := hrel
      by_cases hlt : i < n.length
      · have HBB := Lib.hid hbb
        clear hbb
        cases bb with
        | true =>
          go_wp2_with fail
          go_roundg (gk - 1)
          case measure => omega
          case rel => exact ⟨i + 1, true, by omega, by omega, by go_num, rfl, by rw [anyTo_succ, ← HBB.out]; rfl, bw⟩
        | false =>
          have hlo := loops_any A n c i wr hs hlt (r1.below bw)
          go_wp2_with fail
          refine hlo.mono ?_
          rintro e w3 ⟨rfl, b3⟩
          have bw3 := bw.trans (b3.mono bw.size)
          clear hlo bw b3
          go_wp2_with fail
          go_roundg (gk - 1)
          case measure => omega
          case rel => exact ⟨i + 1, loops n (i : Int), by omega, by omega, by go_num, rfl, by rw [anyTo_succ, ← HBB.out]; rfl, bw3⟩
      · have hie : i = n.length := by omega
        rw [hie] at hbb
        have hord := order_any A n c wr hs (r1.below bw)
        have HBW := Lib.hid bw
        rcases order_told n with ⟨hcy, ho⟩ | ⟨hac, l, ho, hll, hnd, hlt2, hmem, hedge⟩
        · have hbt : bb = true := by rw [hbb]; exact any_loops.2 hcy
          subst hbt
          rw [ho] at hord
          clear hbb hcy ho bw
          go_wp2_with fail
          refine hord.mono ?_
          rintro e w3 ⟨A3, c3, rfl, _, _, b3⟩
          go_wp2_with fail
          go_ret
          have bw3 := HBW.out.trans (b3.mono HBW.out.size)
          exact ⟨rfl, HB1.out.trans (bw3.mono HB1.out.size)⟩
        · have hbf : bb = false := by
            rw [hbb]
            cases hb : anyTo n n.length with
            | false => rfl
            | true => exact absurd (any_loops.1 hb) (fun ⟨w, hw⟩ => hac w hw)
          subst hbf
          rw [if_neg (by omega)] at ho
          rw [ho] at hord
          have HAC := Lib.hid (acyclic_rings hac)
          have HEDGE := Lib.hid hedge
          have HMEM := Lib.hid hmem
          have HND := Lib.hid hnd
          have HLT2 := Lib.hid hlt2
          clear hbb hac ho bw hedge hmem hnd hlt2
          go_wp2_with fail
          refine hord.mono ?_
          rintro e w3 ⟨A3, c3, rfl, _, k3, b3⟩
          have bw3 := HBW.out.trans (b3.mono HBW.out.size)
          have hr3 := rdI_of_nat k3
          have hmk := run_makeMap (P := Try.prog) 35 w3
          have hmap := mapP_made w3 l
          have bw4 : Below w1.heap.size w1 (w3.alloc (.map #[] 0)) := bw3.alloc bw3.size _
          have hr4 : RdI (w3.alloc (.map #[] 0)) A3 (RingM.cast l) := hr3.below (Below.alloc (Below.refl _ _) (Nat.le_refl _) _)
          have HMAP := Lib.hid hmap
          have HBW4 := Lib.hid bw4
          have HR4 := Lib.hid hr4
          have hb01 : w1.heap.size ≤ w3.heap.size := bw3.size
          rw [hll]
          clear hord k3 b3 bw3 hr3 hmap bw4 hr4
          go_wp2_with fail
          generalize hW : (w3.alloc (.map #[] 0)) = W at HMAP HBW4 HR4 hmk ⊢
          generalize hb0 : w3.heap.size = b0 at HMAP hmk hb01 ⊢
          have hst : ∃ j : Nat, j + (n.length + 1) = n.length + 1 ∧ j ≤ n.length ∧ Value.int .i64 0 = .int .i64 j ∧ MapP W b0 l j ∧ RdI W A3 (RingM.cast l) ∧ Below w1.heap.size w1 W := ⟨0, by omega, by omega, rfl, HMAP.out, HR4.out, HBW4.out⟩
          have HST := Lib.hid hst
          have HB01 := Lib.hid hb01
          clear hst hW hmk hb01
          go_loopg [45] (n.length + 1) (fun f v45 wr => ∃ j : Nat, j + f = n.length + 1 ∧ j ≤ n.length ∧ v45 = .int .i64 j ∧ MapP wr b0 l j ∧ RdI wr A3 (RingM.cast l) ∧ Below w1.heap.size w1 wr)
          case atStart => exact HST.out
          case round =>
            obtain ⟨j, hjf, hj, rfl, hm, hr, bw⟩ := hrel
            by_cases hlt3 : j < n.length
            · have hjl : j < l.length := by omega
              have hjc : j < (RingM.cast l).length := by rw [cast_length]; exact hjl
              obtain ⟨b6, o6, rfl, hc6⟩ := hr.at_ j hjc
              have hck := hc6 j hjc
              obtain ⟨x, hx⟩ : ∃ x, x = l[j] := ⟨_, rfl⟩
              have hnx : nth (RingM.cast l) j = (x : Int) := by
                rw [nth_get hjc, hx]
                simp [RingM.cast]
              rw [hnx] at hck
              have hxl : x < n.length := HLT2.out x (by rw [hx]; exact List.getElem_mem _)
              have hne := hm.ne hck
              have HNE := Lib.hid hne
              have HR := Lib.hid hr
              have HBW6 := Lib.hid bw
              have HX := Lib.hid hx
              clear hc6 hnx hne hr bw hx
              go_wp2_with (refine wp_putP rfl _ _ _ rfl b0 l j hjl rfl x HX.out rfl rfl hm HND.out (by omega) (by omega) ?_; intro w7 hm7 hg7)
              go_roundg (gk - 1)
              case measure => omega
              case rel =>
                refine ⟨j + 1, by omega, by omega, by go_num, hm7, rdI_grown HR.out hg7 fun a ha => ?_, HBW6.out.grown hg7 HBW6.out.size (fun x hx => by cases hx; exact HB01.out)⟩
                cases ha
                have := HNE.out
                simpa using this
            · have hje : j = n.length := by omega
              subst hje
              have HBW6 := Lib.hid bw
              clear bw hr
              have hmlen := hm.len 3
              go_wp2_with fail
              obtain ⟨w5, hw5⟩ : ∃ w5, w5 = wr := ⟨_, rfl⟩
              subst hw5
              have htk : l.take n.length = l := by rw [← hll, List.take_length]
              have hrn := r1.below HBW6.out
              clear hmlen
              go_loopg [72] (n.length + 1) (fun f v72 wr => ∃ v : Nat, v + f = n.length + 1 ∧ v ≤ n.length ∧ v72 = .int .i64 v ∧ wr = w5)
              case atStart => exact ⟨0, by omega, by omega, rfl, rfl⟩
              case round =>
                obtain ⟨v, hvf, hv, rfl, rfl⟩ := hrel
                by_cases hlt4 : v < n.length
                · obtain ⟨b, o, rfl, hrow⟩ := hrn.at_ v hlt4
                  obtain ⟨A1, c1, hcell, hrd⟩ := hrow v hlt4
                  have hr60 := hs.rows v
                  have hlook1 := hm.look v (by rw [htk]; exact HMEM.out v hlt4) (by omega)
                  have hi1 := idx_lt (HMEM.out v hlt4)
                  obtain ⟨f0, hf0⟩ : ∃ x, x = gk := ⟨_, rfl⟩
                  rw [← hf0] at hvf
                  have HRD := Lib.hid hrd
                  clear hrd hrow
                  go_wp2_with fail
                  go_loopg [80] ((row n v).length + 1) (fun f v80 w6 => ∃ i : Nat, i + f = (row n v).length + 1 ∧ i ≤ (row n v).length ∧ v80 = .int .i64 i ∧ w6 = wr)
                  case atStart => exact ⟨0, by omega, by omega, rfl, rfl⟩
                  case round =>
                    obtain ⟨i, hif2, hi2, rfl, rfl⟩ := hrel
                    by_cases hlt5 : i < (row n v).length
                    · obtain ⟨bb, oo, rfl, hcc⟩ := HRD.out.at_ i hlt5
                      have hck := hcc i hlt5
                      obtain ⟨k, hk⟩ : ∃ k, k = nth (row n v) i := ⟨_, rfl⟩
                      rw [← hk] at hck
                      by_cases h0 : 0 ≤ k
                      · by_cases h1 : k < n.length
                        · obtain ⟨kn, rfl⟩ : ∃ kn : Nat, k = (kn : Int) := ⟨k.toNat, by omega⟩
                          have he : RingM.Edge n v kn := edge_iff.2 ⟨mem_nth.2 ⟨i, hlt5, hk.symm⟩, by omega⟩
                          have hea := HEDGE.out v kn he
                          have hlook2 := hm.look kn (by rw [htk]; exact HMEM.out kn (by omega)) (by omega)
                          have hi3 := idx_lt (HMEM.out kn (by omega))
                          generalize l.idxOf v = p1 at hlook1 hi1 hea
                          generalize l.idxOf kn = p2 at hlook2 hi3 hea
                          clear hcc hk he
                          go_wp2_with fail
                          go_roundg (gk - 1)
                          case measure => omega
                          case rel => exact ⟨i + 1, by omega, by omega, by go_num, rfl⟩
                        · clear hcc hk
                          go_wp2_with fail
                          go_roundg (gk - 1)
                          case measure => omega
                          case rel => exact ⟨i + 1, by omega, by omega, by go_num, rfl⟩
                      · clear hcc hk
                        go_wp2_with fail
                        go_roundg (gk - 1)
                        case measure => omega
                        case rel => exact ⟨i + 1, by omega, by omega, by go_num, rfl⟩
                    · go_wp2_with fail
                      go_roundg (f0 - 1)
                      case measure => omega
                      case rel => exact ⟨v + 1, by omega, by omega, by go_num, rfl⟩
                · have hro := rings_out wr A c n hs hrn
                  have hrl : ((rings n).map RingM.cast).length = n.length := by rw [List.length_map, HAC.out]
                  go_wp2_with fail
                  refine hro.mono ?_
                  rintro e w7 ⟨A7, c7, rfl, _, b7⟩
                  rw [hrl]
                  have bw7 := HBW6.out.trans (b7.mono HBW6.out.size)
                  clear hro b7
                  go_wp2_with fail
                  go_ret
                  exact ⟨by simp, HB1.out.trans (bw7.mono HB1.out.size)⟩
end Go.Proofs.Ythdbkilncddniaa.Ring
