/- One step of the proof of a statement of this seat: plain laws and walks of the store, log, journal and halves packages; no condition. -/
import Derived.Test.YtoldogkfeimojaaDoorHvLog4
import Derived.Test.YtoldogkfeimojaaDoorHvShf
set_option linter.unusedVariables false
set_option linter.unusedSimpArgs false
open Go.RowKit
namespace Go.Proofs.YtoldogkfeimojaaDoor.Hv
open Go.Proofs.Hv Go.Proofs.Mem

theorem bs_extract_end (l : List UInt8) (a : Nat) : (⟨l.toArray⟩ : ByteArray).extract a l.length = ⟨(l.drop a).toArray⟩ := by
  rw [bs_extract, List.take_of_length_le (Nat.le_refl _)]

attribute [local go_sem] bs_append bs_get bs_extract
theorem or_shl (a b : Nat) (hb : b < 256) : a * 256 ||| b = 256 * a + b := by
  rw [Nat.mul_comm]
  have := Nat.two_pow_add_eq_or_of_lt (i := 8) (b := b) hb a
  rw [← this]

theorem prefix_iff (p s : Bytes) : (Lib.hasPrefix s p = true) ↔ s.take p.length = p := by
  unfold Lib.hasPrefix
  rw [List.isPrefixOf_iff_prefix, List.prefix_iff_eq_take]
  exact ⟨fun h => h.symm, fun h => h.symm⟩
theorem frameOf_len (r : Bytes) : (frameOf r).length = r.length + 8 := by simp [frameOf]
theorem frameOf_head (r : Bytes) : (frameOf r).getD 0 0 = 1 := by simp [frameOf]

theorem prefix_any (s p : Bytes) (w : World) : Calls Tryd.prog 31 #[str s, str p] w fun e w' => e = .returned (.bool (Lib.hasPrefix s p)) ∧ w = w' :=
  (Tryd.strings_HasPrefix ⟨s.toArray⟩ ⟨p.toArray⟩ w).mono fun e w' ⟨h1, h2⟩ => ⟨by simpa using h1, h2.symm⟩
def HeadSize (s : Bytes) (n : Nat) : Prop := sizeAt s = n
theorem one_yes {s r : Bytes} {n : Nat} (h : 9 ≤ s.length) (hv : HeadSize s n) (hn : n + 8 ≤ s.length) (hr : r = (s.drop 7).take n) (hrl : r.length = n) (hok : okRec r = true) :
    if Lib.hasPrefix s (frameOf r) = true then one s = some r else one s = none := by
  simp only [okRec, Bool.and_eq_true, decide_eq_true_eq] at hok
  unfold HeadSize at hv
  unfold one
  rw [hv, ← hr]
  by_cases hp : Lib.hasPrefix s (frameOf r) = true
  · rw [if_pos hp]
    rw [prefix_iff, frameOf_len, hrl] at hp
    rw [if_pos ⟨h, by omega, by omega, by omega, hp⟩]
  · rw [if_neg hp]
    rw [prefix_iff, frameOf_len, hrl] at hp
    rw [if_neg (fun hh => hp hh.2.2.2.2)]
theorem sizeAt_lt (s : Bytes) : sizeAt s < 65536 := by
  unfold sizeAt
  have h1 := (s.getD 1 0).toNat_lt
  have h2 := (s.getD 2 0).toNat_lt
  omega
theorem size_or (s : Bytes) (h : 3 ≤ s.length) : bits .or .i64 (wrap64 (wrap64 (s[1].toNat : Int) * 256)) (wrap64 (s[2].toNat : Int)) = ((sizeAt s : Nat) : Int) := by
  have h1 := s[1].toNat_lt
  have h2 := s[2].toNat_lt
  have e1 : wrap64 (s[1].toNat : Int) = s[1].toNat := by unfold wrap64; omega
  have e2 : wrap64 (s[2].toNat : Int) = s[2].toNat := by unfold wrap64; omega
  have e3 : wrap64 ((s[1].toNat : Int) * 256) = ((s[1].toNat * 256 : Nat) : Int) := by unfold wrap64; omega
  rw [e1, e2, e3, i64_or_nat _ _ (by omega) (by omega), or_shl _ _ (by omega)]
  unfold sizeAt
  simp [List.getD_eq_getElem?_getD, show 1 < s.length by omega, show 2 < s.length by omega]
def OnePost (w : World) (s : Bytes) (e : Ending) (w' : World) : Prop :=
  Below w.heap.size w w' ∧ ((∃ r, one s = some r ∧ e = .returned (.tuple #[str r, .bool true])) ∨ (∃ x, one s = none ∧ e = .returned (.tuple #[str x, .bool false])))
theorem one_short {s : Bytes} (h : s.length < 9) : one s = none := by
  unfold one; rw [if_neg (by omega)]
theorem one_head {s : Bytes} (h : s.getD 0 0 ≠ 1) : one s = none := by
  unfold one
  split
  · rename_i hh
    exfalso
    obtain ⟨h1, h2, h3, h4, h5⟩ := hh
    apply h
    have := congrArg (fun l : Bytes => l.getD 0 0) h5
    simp only [frameOf_head] at this
    rw [← this]
    cases s with
    | nil => simp at h1
    | cons a r => simp
  · rfl
theorem one_big {s : Bytes} (h : 400 < sizeAt s ∨ s.length < sizeAt s + 8) : one s = none := by
  unfold one; rw [if_neg (by omega)]

set_option maxRecDepth 20000 in
set_option maxHeartbeats 400000 in
theorem one_a (s : Bytes) (w : World) (h : s.length < 9) : Calls Tryd.prog 46 #[str s] w (OnePost w s) := by
  have HO := Lib.hid (one_short h)
  go_enter Tryd.func46, Tryd.ntmps46
  go_wp2
  go_ret2
  exact ⟨Below.refl _ _, .inr ⟨_, HO.out, rfl⟩⟩
set_option maxRecDepth 20000 in
set_option maxHeartbeats 400000 in
theorem one_b (s : Bytes) (w : World) (h : 9 ≤ s.length) (hs : s.length ≤ 1000000) (h0 : s[0] ≠ 1) : Calls Tryd.prog 46 #[str s] w (OnePost w s) := by
  have HO := Lib.hid (one_head (s := s) (by rw [List.getD_eq_getElem?_getD, List.getElem?_eq_getElem (by omega)]; exact h0))
  have h1 : ((s[0].toNat : Int) != 1) = true := by
    have : s[0].toNat ≠ 1 := fun e => h0 (UInt8.toNat_inj.1 e)
    simp; omega
  clear h0
  go_enter Tryd.func46, Tryd.ntmps46
  go_wp2
  go_ret2
  exact ⟨Below.refl _ _, .inr ⟨_, HO.out, rfl⟩⟩
set_option maxRecDepth 20000 in
set_option maxHeartbeats 400000 in
theorem one_c (s : Bytes) (w : World) (h : 9 ≤ s.length) (hs : s.length ≤ 1000000) (h0 : s[0] = 1) : Calls Tryd.prog 46 #[str s] w (OnePost w s) := by
  have h1 : ((s[0].toNat : Int) != 1) = false := by rw [h0]; rfl
  have HO := Lib.hid h0
  clear h0
  go_enter Tryd.func46, Tryd.ntmps46
  go_wp2
  have i1 : (1 : Int) < (s.length : Int) := by omega
  have i2 : (2 : Int) < (s.length : Int) := by omega
  have j1 : 1 < s.length := by omega
  have j2 : 2 < s.length := by omega
  have hn := size_or s (by omega)
  have hbd := sizeAt_lt s
  have hv : HeadSize s (sizeAt s) := rfl
  generalize sizeAt s = n at hn hbd hv
  go_quiet (fail)
  clear hn
  by_cases hbig : 400 < n
  · have HN := Lib.hid (one_big (.inl (by rw [hv]; exact hbig)))
    go_wp2
    go_ret2
    exact ⟨((Keeps.refl none' w).drewN nq).to_below0, .inr ⟨_, HN.out, rfl⟩⟩
  · by_cases hlen : s.length < n + 8
    · have HN := Lib.hid (one_big (.inr (by rw [hv]; exact hlen)))
      go_wp2
      go_ret2
      exact ⟨((Keeps.refl none' w).drewN nq).to_below0, .inr ⟨_, HN.out, rfl⟩⟩
    · have HV := Lib.hid hv
      clear hv
      obtain ⟨r, hr⟩ : ∃ r, r = (s.take (7 + n)).drop 7 := ⟨_, rfl⟩
      have hrl : r.length = n := by rw [hr, List.length_drop, List.length_take]; omega
      have hr' : r = (s.drop 7).take n := by rw [hr, List.drop_take, show 7 + n - 7 = n by omega]
      have hrl2 : r.length ≤ 400 := by omega
      have HR := Lib.hid (And.intro hr' hrl)
      go_wp2_with fail
      rw [← hr]
      clear hr hr' hrl
      cases hok : okRec r with
      | true =>
        have hpost := one_yes (s := s) (r := r) (n := n) h HV.out (by omega) HR.out.1 HR.out.2 hok
        cases hp : Lib.hasPrefix s (frameOf r) with
        | true =>
          rw [if_pos hp] at hpost
          have HP := Lib.hid (And.intro hp hpost)
          have HOK := Lib.hid hok
          clear hp hpost hok
          refine (frame_yes r _ HOK.out).mono ?_
          rintro e w1 ⟨rfl, hb1⟩
          go_wp2_with (go_at_call 31; refine (prefix_any _ _ _).mono ?_; rintro e w2 ⟨rfl, rfl⟩; rw [HP.out.1])
          go_ret2
          exact ⟨(((Keeps.refl none' w).drewN nq).below hb1).to_below0, .inl ⟨r, HP.out.2, rfl⟩⟩
        | false =>
          rw [if_neg (by rw [hp]; simp)] at hpost
          have HP := Lib.hid (And.intro hp hpost)
          have HOK := Lib.hid hok
          clear hp hpost hok
          refine (frame_yes r _ HOK.out).mono ?_
          rintro e w1 ⟨rfl, hb1⟩
          go_wp2_with (go_at_call 31; refine (prefix_any _ _ _).mono ?_; rintro e w2 ⟨rfl, rfl⟩; rw [HP.out.1])
          go_ret2
          exact ⟨(((Keeps.refl none' w).drewN nq).below hb1).to_below0, .inr ⟨r, HP.out.2, rfl⟩⟩
      | false =>
        have hnone : one s = none := by
          have : n = 0 := by
            have := HR.out.2
            simp [okRec] at hok
            by_cases h0 : r = []
            · subst h0; simpa using this.symm
            · have := List.length_pos_iff.2 h0; omega
          have hv := HV.out
          unfold HeadSize at hv
          unfold one
          rw [if_neg (by omega)]
        have HN := Lib.hid (And.intro hok hnone)
        clear hok hnone
        refine (frame_no r _ (by omega) HN.out.1).mono ?_
        rintro e w1 ⟨rfl, hb1⟩
        go_wp2
        go_ret2
        exact ⟨(((Keeps.refl none' w).drewN nq).below hb1).to_below0, .inr ⟨r, HN.out.2, rfl⟩⟩
theorem one_any (s : Bytes) (w : World) (hs : s.length ≤ 1000000) : Calls Tryd.prog 46 #[str s] w (OnePost w s) := by
  by_cases h : s.length < 9
  · exact one_a s w h
  · by_cases h0 : s[0] = 1
    · exact one_c s w (by omega) hs h0
    · exact one_b s w (by omega) hs h0
end Go.Proofs.YtoldogkfeimojaaDoor.Hv
