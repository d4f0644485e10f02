/- One step of the proof of a statement of this seat: plain laws and walks of the ring package; no condition. -/
import Derived.Test.YthdbkilncddniaaW26
set_option linter.unusedVariables false
set_option linter.unusedSimpArgs false
open Go.RowKit
namespace Go.Proofs.Ythdbkilncddniaa.Ring
open RingM Go.Proofs.Mem

theorem rings_sizes (n : Net) : (rings n).length ≤ n.length ∧ ∀ r, r ∈ rings n → r.length ≤ n.length := by
  have ht := rings_told n
  refine ⟨?_, fun r hr => nodup_le ((ht.asc r hr).imp fun h => by omega) (ht.lt r hr)⟩
  have h1 : ((rings n).map fun r => r.headD 0).Nodup := by
    unfold List.Nodup
    rw [List.pairwise_map]
    exact ht.heads.imp fun h => by omega
  have := nodup_le (N := n.length) h1 (fun v hv => by
    obtain ⟨r, hr, rfl⟩ := List.mem_map.1 hv
    exact ht.lt r hr _ (headD_mem (ht.ne r hr)))
  simpa using this
theorem row_cast_le {l : List (List Nat)} {N : Nat} (h : ∀ r, r ∈ l → r.length ≤ N) (i : Nat) : (row (l.map RingM.cast) i).length ≤ N := by
  by_cases hi : i < l.length
  · rw [val_row, cast_length]
    refine h _ ?_
    rw [List.getD_eq_getElem?_getD, List.getElem?_eq_getElem hi]
    exact List.getElem_mem _
  · rw [row_out (by rw [List.length_map]; exact hi)]; simp

set_option maxHeartbeats 4000000 in
set_option maxRecDepth 100000 in
theorem turned_any (A : Option Addr) (n : Net) (c : Nat) (w : World) (hl : n.length ≤ 9223372036854775807) (hA : RdN w A n) :
    Calls Try.prog 5 #[.slice A n.length c] w (Tells w true) := by
  by_cases hlg : largeN n = true
  · have HLG := Lib.hid hlg
    clear hlg
    go_enter Try.func5, Try.ntmps5
    go_wp2_with fail
    refine (awake_any w).mono ?_
    rintro e w1 ⟨rfl, b1⟩
    go_wp2_with fail
    refine (large_any A n c w1 hl (hA.below b1)).mono ?_
    rintro e w2 ⟨rfl, rfl⟩
    rw [HLG.out]
    go_wp2_with fail
    go_ret
    exact ⟨rfl, b1⟩
  · have hlg' : largeN n = false := by simpa using hlg
    have hs := small_of hlg'
    have hs1 := small_turn hs
    have HLG := Lib.hid hlg'
    clear hlg hlg'
    go_enter Try.func5, Try.ntmps5
    go_wp2_with fail
    refine (awake_any w).mono ?_
    rintro e w1 ⟨rfl, b1⟩
    have r1 := hA.below b1
    go_wp2_with fail
    refine (large_any A n c w1 hl r1).mono ?_
    rintro e w2 ⟨rfl, rfl⟩
    rw [HLG.out]
    have hl24 := hs.len
    clear hA
    go_wp2_with fail
    refine (turn_out w1 A c n hs r1).mono ?_
    rintro e w3 ⟨A3, c3, rfl, t3, b3⟩
    have r3 := r1.below b3
    have bw3 := b1.trans (b3.mono b1.size)
    have hlt : (turn n).length = n.length := turn_length n
    have hlt2 : (turn (turn n)).length = n.length := by rw [turn_length, turn_length]
    rw [hlt]
    have ht := turn_out w3 A3 c3 (turn n) hs1 t3
    rw [hlt] at ht
    clear b1 r1 b3
    go_wp2_with fail
    refine ht.mono ?_
    rintro e w4 ⟨A4, c4, rfl, u4, b4⟩
    rw [hlt2]
    have r4 := r3.below b4
    have t4 := t3.below b4
    have bw4 := bw3.trans (b4.mono bw3.size)
    clear ht r3 t3 bw3 b4
    go_wp2_with fail
    refine (longest_any A n c w4 hs r4).mono ?_
    rintro e w5 ⟨rfl, b5⟩
    have r5 := r4.below b5
    have t5 := t4.below b5
    have u5 := u4.below b5
    have bw5 := bw4.trans (b5.mono bw4.size)
    have hlo := longest_any A3 (turn n) c3 w5 hs1 t5
    rw [hlt, longest_turn (by omega)] at hlo
    generalize longest n = lo at hlo ⊢
    obtain ⟨lo1, lo2⟩ := lo
    clear r4 t4 u4 bw4 b5
    go_wp2_with fail
    refine hlo.mono ?_
    rintro e w6 ⟨rfl, b6⟩
    have r6 := r5.below b6
    have t6 := t5.below b6
    have u6 := u5.below b6
    have bw6 := bw5.trans (b6.mono bw5.size)
    clear hlo r5 t5 u5 bw5 b6
    go_wp2_with fail
    refine (rings_out w6 A c n hs r6).mono ?_
    rintro e w7 ⟨A7, c7, rfl, g7, b7⟩
    have r7 := r6.below b7
    have t7 := t6.below b7
    have u7 := u6.below b7
    have bw7 := bw6.trans (b7.mono bw6.size)
    have hro := rings_out w7 A3 c3 (turn n) hs1 t7
    rw [hlt, rings_turn] at hro
    obtain ⟨hk1, hk2⟩ := rings_sizes n
    rw [List.length_map]
    clear r6 t6 u6 bw6 b7
    go_wp2_with fail
    refine hro.mono ?_
    rintro e w8 ⟨A8, c8, rfl, g8, b8⟩
    have r8 := r7.below b8
    have u8 := u7.below b8
    have g7 := g7.below b8
    have bw8 := bw7.trans (b8.mono bw7.size)
    have ha := all_any A7 A8 ((rings n).map RingM.cast) ((rings n).map RingM.cast) c7 c8 w8 (by rw [List.length_map]; omega) (fun i => Nat.le_trans (row_cast_le hk2 i) (by omega)) (fun i => Nat.le_trans (row_cast_le hk2 i) (by omega)) g7 g8
    rw [decide_eq_true rfl, List.length_map] at ha
    rw [List.length_map]
    clear hro r7 t7 u7 bw7 b8 hk2
    go_wp2_with fail
    refine ha.mono ?_
    rintro e w9 ⟨rfl, hq⟩
    have b9 := below_of_drew hq
    have r9 := r8.below b9
    have u9 := u8.below b9
    have bw9 := bw8.trans (b9.mono bw8.size)
    have hst : ∃ i : Nat, i + (n.length + 1) = n.length + 1 ∧ i ≤ n.length ∧ Value.int .i64 0 = .int .i64 i ∧ RdN w9 A n ∧ RdN w9 A4 (turn (turn n)) ∧ Below w.heap.size w w9 := ⟨0, by omega, by omega, rfl, r9, u9, bw9⟩
    have HST := Lib.hid hst
    clear ha hq b9 r8 u8 g7 g8 bw8 r9 u9 bw9 hst hk1
    go_wp2_with fail
    go_loopg [60] (n.length + 1) (fun f v wr => ∃ i : Nat, i + f = n.length + 1 ∧ i ≤ n.length ∧ v = .int .i64 i ∧ RdN wr A n ∧ RdN wr A4 (turn (turn n)) ∧ Below w.heap.size w wr)
    case atStart => exact HST.out
    case round =>
      obtain ⟨i, hif, hi, rfl, r, u, bw⟩ := hrel
      by_cases hlt3 : i < n.length
      · have hr1 := reach_in A n c i wr hs hlt3 r
        have hle := reach_le n (i : Int)
        go_wp2_with fail
        refine hr1.mono ?_
        rintro e w2 ⟨A2, c2, rfl, _, k2, b2⟩
        have r2 := r.below b2
        have u2 := u.below b2
        have bw2 := bw.trans (b2.mono bw.size)
        have hr2 := reach_in A4 (turn (turn n)) c4 i w2 (small_turn hs1) (by omega) u2
        rw [hlt2, reach_turn2] at hr2
        clear hr1 r u bw b2
        go_wp2_with fail
        refine hr2.mono ?_
        rintro e w3 ⟨A5, c5, rfl, _, k3, b3⟩
        have r3 := r2.below b3
        have u3 := u2.below b3
        have k2 := k2.below b3
        have bw3 := bw2.trans (b3.mono bw2.size)
        have hsa := same_any A2 A5 (RingM.cast (reach n (i : Int))) (RingM.cast (reach n (i : Int))) c2 c5 w3 (by rw [cast_length]; omega) (by rw [cast_length]; omega) (rdI_of_nat k2) (rdI_of_nat k3)
        rw [decide_eq_true rfl, cast_length] at hsa
        clear hr2 r2 u2 bw2 b3 k2 k3
        go_wp2_with fail
        refine hsa.mono ?_
        rintro e w4 ⟨rfl, hq⟩
        have b4 := below_of_drew hq
        have r4 := r3.below b4
        have u4 := u3.below b4
        have bw4 := bw3.trans (b4.mono bw3.size)
        clear hsa hq b4 r3 u3 bw3
        go_wp2_with fail
        go_roundg (gk - 1)
        case measure => omega
        case rel => exact ⟨i + 1, by omega, by omega, by go_num, r4, u4, bw4⟩
      · go_wp2_with fail
        go_ret
        exact ⟨rfl, bw⟩
end Go.Proofs.Ythdbkilncddniaa.Ring
