/- One step of the proof of a statement of this seat: plain laws and walks of the store, log, journal and halves packages; no condition. -/
import Derived.Test.YtoldogkfeimojaaDoorHvAwk
import Derived.Test.YtoldogkfeimojaaDoorHvMakeLaw2
set_option linter.unusedVariables false
set_option linter.unusedSimpArgs false
open Go.RowKit
namespace Go.Proofs.YtoldogkfeimojaaDoor.Hv
open Go.Proofs.Hv Go.Proofs.Mem

def sumL (l : List Bytes) : Nat := (l.map List.length).sum
theorem sumL_take_le (l : List Bytes) (k : Nat) : sumL (l.take k) ≤ sumL l := by
  have : sumL l = sumL (l.take k) + sumL (l.drop k) := by
    unfold sumL; rw [← List.sum_append, ← List.map_append, List.take_append_drop]
  omega
theorem sumL_succ {l : List Bytes} {k : Nat} (h : k < l.length) : sumL (l.take (k + 1)) = sumL (l.take k) + l[k].length := by
  unfold sumL; rw [List.take_succ_eq_append_getElem h, List.map_append, List.sum_append]; simp
theorem sizeOf_succ {l : List Bytes} {k : Nat} (h : k < l.length) : Hv.sizeOf (l.take (k + 1)) = Hv.sizeOf (l.take k) + (l[k].length + 10) := by
  unfold Hv.sizeOf; rw [List.take_succ_eq_append_getElem h, List.map_append, List.sum_append]; simp
theorem sizeOf_le (l : List Bytes) : Hv.sizeOf l = sumL l + 10 * l.length := by
  unfold Hv.sizeOf sumL
  induction l with
  | nil => rfl
  | cons x l ih => simp only [List.map_cons, List.sum_cons, List.length_cons]; omega
theorem tooLong_succ {l : List Bytes} {k : Nat} (h : k < l.length) : tooLong (l.take (k + 1)) = (tooLong (l.take k) || decide (398 < l[k].length)) := by
  unfold tooLong; rw [List.take_succ_eq_append_getElem h, List.any_append]; simp
theorem elem_le {l : List Bytes} {k : Nat} (h : k < l.length) : l[k].length ≤ sumL l := by
  have := sumL_succ h
  have := sumL_take_le l (k + 1)
  omega

set_option maxHeartbeats 4000000 in
set_option maxRecDepth 20000 in
theorem make_any (w : World) (hg : Glob w) (n : Nat) (hn : n < 256) (A B : Option Addr) (a b : List Bytes) (c d : Nat) (ha : Rd w A (strs a)) (hb : Rd w B (strs b)) (hBw : ∀ x, B = some x → 0 < b.length → x.block < w.heap.size) (h1 : sumL a + sumL b + a.length + b.length ≤ 10000000) :
    Calls Tryd.prog 4 #[.int .u8 (n : Int), .slice A a.length c, .slice B b.length d] w (RetB (.bool true) w) := by
  have HH := Lib.hid (And.intro hg (And.intro ha (And.intro hb hBw)))
  clear hg ha hb hBw
  go_enter Tryd.func4, Tryd.ntmps4
  go_wp2_with fail
  refine (awake_any w HH.out.1).mono ?_
  rintro e w1 ⟨rfl, hb1⟩
  have K1 := Lib.hid hb1
  clear hb1
  go_wp2_with fail
  go_loopg [7, 28] (a.length + 1) (fun f v7 v28 W => ∃ k : Nat, k + f = a.length + 1 ∧ k ≤ a.length ∧ v28 = .int .i64 (k : Int) ∧ v7 = .int .i64 (sumL (a.take k) : Int) ∧ W = w1)
  case atStart => exact ⟨0, by omega, by omega, rfl, rfl, rfl⟩
  case round =>
    obtain ⟨k, hk, hkl, rfl, rfl, rfl⟩ := hrel
    by_cases hlt : k < a.length
    · obtain ⟨bA, oA, hAe, hcell⟩ := HH.out.2.1.at_ k (by rw [strs_length]; exact hlt)
      have hck : wr.cell? ⟨bA, oA + k, none⟩ = some (str a[k]) := by rw [cell_below K1.out (hcell k (by rw [strs_length]; exact hlt))]; simp [strs]
      subst hAe
      have hs := sumL_succ hlt
      have hle := sumL_take_le a (k + 1)
      clear hcell
      generalize a[k] = x at *
      obtain ⟨y, hy⟩ : ∃ y, y = sumL (a.take (k + 1)) := ⟨_, rfl⟩
      obtain ⟨z, hz⟩ : ∃ z, z = sumL (a.take k) := ⟨_, rfl⟩
      rw [← hy, ← hz] at hs
      rw [← hy] at hle
      rw [← hz]
      have e1 : IntKind.i64.wrap ((z : Int) + (x.length : Int)) = (y : Int) := by rw [IntKind.wrap_i64]; omega
      have HY := Lib.hid hy
      clear hs hle hy hz
      go_wp2_with fail
      go_roundg (gk - 1)
      case measure => omega
      case rel => exact ⟨k + 1, by omega, by omega, by go_num, by rw [HY.out], rfl⟩
    · have hkk : k = a.length := by omega
      have HK := Lib.hid hkk
      have hsk : sumL (a.take k) = sumL a := by rw [hkk, List.take_length]
      rw [hsk]
      obtain ⟨sa, hsa⟩ : ∃ z, z = sumL a := ⟨_, rfl⟩
      rw [← hsa] at h1 ⊢
      clear hkk hsk hsa
      go_wp2_with fail
      go_loopg [7, 10, 11, 39] (b.length + 1) (fun f v7 v10 v11 v39 W => ∃ k : Nat, k + f = b.length + 1 ∧ k ≤ b.length ∧ v39 = .int .i64 (k : Int) ∧ v7 = .int .i64 ((sa + sumL (b.take k) : Nat) : Int) ∧ v10 = .int .i64 (Hv.sizeOf (b.take k) : Int) ∧ v11 = .bool (tooLong (b.take k)) ∧ W = wr)
      case atStart => exact ⟨0, by omega, by omega, rfl, rfl, rfl, rfl, rfl⟩
      case round =>
        obtain ⟨i, hi, hil, rfl, rfl, rfl, rfl, rfl⟩ := hrel
        by_cases hlt2 : i < b.length
        · obtain ⟨bB, oB, hBe, hcell⟩ := HH.out.2.2.1.at_ i (by rw [strs_length]; exact hlt2)
          have hck : wr.cell? ⟨bB, oB + i, none⟩ = some (str b[i]) := by rw [cell_below K1.out (hcell i (by rw [strs_length]; exact hlt2))]; simp [strs]
          subst hBe
          have hs := sumL_succ hlt2
          have hs2 := sizeOf_succ hlt2
          have hs3 := tooLong_succ hlt2
          have hle := sumL_take_le b (i + 1)
          have hle2 := sizeOf_le (b.take (i + 1))
          rw [List.length_take] at hle2
          clear hcell
          generalize b[i] = x at *
          obtain ⟨y, hy⟩ : ∃ y, y = sumL (b.take (i + 1)) := ⟨_, rfl⟩
          obtain ⟨z, hz⟩ : ∃ z, z = sumL (b.take i) := ⟨_, rfl⟩
          obtain ⟨y2, hy2⟩ : ∃ y, y = Hv.sizeOf (b.take (i + 1)) := ⟨_, rfl⟩
          obtain ⟨z2, hz2⟩ : ∃ z, z = Hv.sizeOf (b.take i) := ⟨_, rfl⟩
          obtain ⟨y3, hy3⟩ : ∃ y, y = tooLong (b.take (i + 1)) := ⟨_, rfl⟩
          obtain ⟨z3, hz3⟩ : ∃ z, z = tooLong (b.take i) := ⟨_, rfl⟩
          rw [← hy, ← hz] at hs
          rw [← hy2, ← hz2] at hs2
          rw [← hy3, ← hz3] at hs3
          rw [← hy2, ← hy] at hle2
          rw [← hy] at hle
          rw [← hz, ← hz2, ← hz3]
          have e1 : IntKind.i64.wrap (((sa + z : Nat) : Int) + (x.length : Int)) = ((sa + y : Nat) : Int) := by rw [IntKind.wrap_i64]; omega
          have e1' : IntKind.i64.wrap ((sa : Int) + (z : Int) + (x.length : Int)) = (sa : Int) + (y : Int) := by rw [IntKind.wrap_i64]; omega
          have e2 : IntKind.i64.wrap ((x.length : Int) + 10) = (x.length : Int) + 10 := by rw [IntKind.wrap_i64]; omega
          have e3 : IntKind.i64.wrap ((z2 : Int) + ((x.length : Int) + 10)) = (y2 : Int) := by rw [IntKind.wrap_i64]; omega
          have hx3 : decide ((398 : Int) < (x.length : Int)) = decide (398 < x.length) := decide_eq_decide.2 (by omega)
          rw [← hx3] at hs3
          have HY := Lib.hid (And.intro hy (And.intro hy2 (And.intro hy3 hs3)))
          clear hs hle hy hz hs2 hle2 hy2 hz2 hy3 hz3 hs3 hx3
          cases z3
          all_goals
            go_wp2_with fail
            go_roundg (gk - 1)
            case measure => omega
            case rel => exact ⟨i + 1, by omega, by omega, by go_num, by rw [← HY.out.1]; simp, by rw [HY.out.2.1], by rw [← HY.out.2.2.1, HY.out.2.2.2]; simp, rfl⟩
        · have hii : i = b.length := by omega
          have HI := Lib.hid hii
          have hle := sizeOf_le b
          rw [hii, List.take_length]
          clear hii
          obtain ⟨sb, hsb⟩ : ∃ z, z = sumL b := ⟨_, rfl⟩
          obtain ⟨zb, hzb⟩ : ∃ z, z = Hv.sizeOf b := ⟨_, rfl⟩
          obtain ⟨wd, hwd⟩ : ∃ z, z = tooLong b := ⟨_, rfl⟩
          rw [← hsb] at h1
          rw [← hsb, ← hzb] at hle
          rw [← hsb, ← hzb, ← hwd]
          have HW := Lib.hid (And.intro hzb (And.intro hwd hle))
          clear hsb hzb hwd hle
          by_cases h3 : 3000 < sa + sb
          · have h3' : (3000 : Int) < ((sa + sb : Nat) : Int) := by omega
            have h3'' : (3000 : Int) < (sa : Int) + (sb : Int) := by omega
            clear h3
            go_wp2
            go_ret
            exact ⟨rfl, K1.out⟩
          · have h3' : ¬ (3000 : Int) < ((sa + sb : Nat) : Int) := by omega
            have h3'' : ¬ (3000 : Int) < (sa : Int) + (sb : Int) := by omega
            by_cases h4 : 20 < a.length
            · have h4' : (20 : Int) < (a.length : Int) := by omega
              clear h3
              go_wp2
              go_ret
              exact ⟨rfl, K1.out⟩
            · have h4' : ¬ (20 : Int) < (a.length : Int) := by omega
              by_cases h5 : 20 < b.length
              · have h5' : (20 : Int) < (b.length : Int) := by omega
                clear h3
                go_wp2
                go_ret
                exact ⟨rfl, K1.out⟩
              · have h5' : ¬ (20 : Int) < (b.length : Int) := by omega
                have HC := Lib.hid (And.intro h3 (And.intro h4 h5))
                clear h3 h4 h5
                go_wp2_with fail
                obtain ⟨many, hmany⟩ : ∃ m, m = n % 100 + 4 := ⟨_, rfl⟩
                rw [show ((n : Int) % 100 + 4) = (many : Int) by omega]
                have hm4 : 4 ≤ many := by omega
                have hm1 : many ≤ 103 := by omega
                clear hmany
                obtain ⟨h0, s0, ho, hG0, ht0⟩ := open_new many hm4
                have HO := Lib.hid (And.intro ho hG0)
                clear ho hG0 ht0
                refine (new_any wr (many : Int)).mono ?_
                rintro e w2 ⟨hb2, ⟨_, p, g, rfl, hst2, hp2, hg2⟩ | ⟨hno, _⟩⟩
                case inr => exact absurd (by omega) hno
                have K2 := Lib.hid (show On w w2 p g (newSto many) from ⟨K1.out.trans (hb2.mono K1.out.size), by simpa using hst2, Nat.le_trans K1.out.size hp2, Nat.le_trans K1.out.size hg2, HH.out.1⟩)
                clear hb2 hst2 hp2 hg2
                go_wp2_with fail
                refine (on_open K2.out HO.out.1).mono ?_
                rintro e w3 ⟨hp, rfl, o3, l3, _⟩
                have K3 := Lib.hid (And.intro o3 l3)
                clear o3 l3
                go_wp2_with fail
                go_loopg [93] (a.length + 1) (fun f v93 W => ∃ (q : Nat) (h : Hs) (s : Sto) (F : Nat → Prop), q + f = a.length + 1 ∧ q ≤ a.length ∧ v93 = .int .i64 (q : Int) ∧ On w W p g s ∧ Hal w W F p g hp h s ∧ GoodH many h s)
                case atStart => exact ⟨0, h0, s0, _, by omega, by omega, rfl, K3.out.1, K3.out.2, HO.out.2⟩
                case round =>
                  obtain ⟨q, h, s, F, hq, hql, rfl, hO, hH, hG⟩ := hrel
                  have KL := Lib.hid (And.intro hO (And.intro hH hG))
                  clear hO hH hG
                  by_cases hlt3 : q < a.length
                  · obtain ⟨bA, oA, hAe, hcell⟩ := HH.out.2.1.at_ q (by rw [strs_length]; exact hlt3)
                    have hck : wr.cell? ⟨bA, oA + q, none⟩ = some (str a[q]) := by rw [cell_below KL.out.1.below (hcell q (by rw [strs_length]; exact hlt3))]; simp [strs]
                    subst hAe
                    clear hcell
                    generalize a[q] = x at *
                    have HG := Lib.hid (KL.out.2.2.append x)
                    obtain ⟨ap, hap⟩ : ∃ ap, ap = appendH h x s := ⟨_, rfl⟩
                    rw [← hap] at HG
                    have HAp := Lib.hid hap
                    clear hap
                    go_wp2_with fail
                    refine (on_append (r := x) (e0 := ap.1) (h' := ap.2.1) (s' := ap.2.2) KL.out.1 KL.out.2.1 (by rw [← HAp.out])).mono ?_
                    rintro e w4 ⟨rfl, o4, l4, _⟩
                    have K4 := Lib.hid (And.intro o4 l4)
                    clear o4 l4
                    generalize ap.1 = e0
                    go_wp2_with fail
                    go_roundg (gk - 1)
                    case measure => omega
                    case rel => exact ⟨q + 1, _, _, _, by omega, by omega, by go_num, K4.out.1, K4.out.2, HG.out⟩
                  · have KL2 := Lib.hid KL.out.2.1.cut
                    go_wp2_with fail
                    refine (tail_any KL2.out.lies).mono ?_
                    rintro e w4 ⟨v4, rfl, hown4, hb4⟩
                    obtain ⟨A4, m4, c4, rfl⟩ := own_shape hown4
                    have K4 := Lib.hid (And.intro hown4 (And.intro hb4 (And.intro (KL.out.1.on hb4) (KL2.out.on hb4))))
                    clear hown4 hb4
                    go_wp2_with fail
                    refine (hroom_any K4.out.2.2.2.lies).mono ?_
                    rintro e w5 ⟨rfl, hb5⟩
                    have K5 := Lib.hid (And.intro (K4.out.1.below hb5) (And.intro (K4.out.2.2.1.on hb5) (K4.out.2.2.2.on hb5)))
                    have hszk := K4.out.2.1.size
                    clear hb5
                    obtain ⟨rm, hrm⟩ : ∃ r, r = h.j.room := ⟨_, rfl⟩
                    rw [← hrm]
                    have HRm := Lib.hid hrm
                    clear hrm
                    have hzb : zb ≤ 10000000 * 11 := by have := HW.out.2.2; omega
                    obtain ⟨sz, hsz⟩ : ∃ z : Int, z = 32 * ((many / 2 : Nat) : Int) - ((23 + zb : Nat) : Int) := ⟨_, rfl⟩
                    have e4 : IntKind.i64.wrap (23 + (zb : Int)) = 23 + (zb : Int) := by rw [IntKind.wrap_i64]; omega
                    have e5 : IntKind.i64.wrap (32 * ((many : Int) / 2) - (23 + (zb : Int))) = sz := by rw [IntKind.wrap_i64]; omega
                    have HS := Lib.hid hsz
                    clear hsz
                    have hrb : Hid (Rd w5 B (strs b)) := Lib.hid ((Keeps.of_below K5.out.2.1.below : Keeps none' w w5).rd HH.out.2.2.1 (fun _ _ h => h))
                    have hAb : Hid (∀ x, B = some x → 0 < b.length → ¬ stoF p g x.block ∧ x.block ≠ hp) := Lib.hid (fun x hx h0 => by
                      have h1 := HH.out.2.2.2 x hx h0
                      have h2 := K5.out.2.1.hp
                      have h3 := K5.out.2.1.hg
                      have h4 := K5.out.2.2.lo hp K5.out.2.2.lies.hlt.2
                      exact ⟨by rintro (e | e) <;> omega, by omega⟩)
                    have hkeep : Hid (∀ w6, Keeps (hsF (fun k => F k ∧ k < wr.heap.size) p g) w5 w6 → Rd w6 A4 (strs h.tail) ∧ m4 = h.tail.length) := Lib.hid (fun w6 hk => by
                      obtain ⟨A', c', he, hr', _, _, hin, _⟩ := K5.out.1.rd
                      cases he
                      refine ⟨hk.rd hr' (fun x hx e => ?_), strs_length _⟩
                      have h5 := (hin x hx).2.2.1
                      have h6 := KL.out.1.sto.lt
                      rcases e with (e | e) | e <;> omega)
                    have htl : h.tail.length ≤ 1000000 := by
                      obtain ⟨jp, lv, l, snv, tlv, hi⟩ := KL.out.2.1.lies
                      have := hi.tt; have := hi.jf; have := hi.ok.le; have := hi.sto.wf.hi; omega
                    have hbl : b.length ≤ 20 := by have := HC.out.2.2; omega
                    have hcmp := KL.out.2.2.compact b
                    rw [← HW.out.2.1, ← HW.out.1] at hcmp
                    go_wp2_with fail
                    rcases hcmp with ⟨ht, s', hc⟩ | ⟨ht, hfit, h', s', hc, ha2, htl', hsn, hrm2⟩ | ⟨ht, hno, s', hc⟩
                    · refine (on_compact (L := b) K5.out.2.1 K5.out.2.2 hrb.out hAb.out (by omega) hc).mono ?_
                      rintro e w6 ⟨rfl, o6, l6, k6⟩
                      have KC := Lib.hid (And.intro o6 (And.intro l6 (hkeep.out w6 k6)))
                      clear o6 l6 k6 hc
                      subst ht
                      go_wp2_with fail
                      refine (on_tail KC.out.2.1).mono ?_
                      rintro e w7 ⟨A7, c7, rfl, hr7, hb7⟩
                      have K7 := Lib.hid (And.intro hr7 (And.intro (KC.out.2.1.on hb7) ((Keeps.of_below hb7 : Keeps none' w6 w7).rd KC.out.2.2.1 (fun _ _ h => h))))
                      have O7 := Lib.hid (KC.out.1.on hb7)
                      clear hr7 hb7
                      go_wp2_with fail
                      refine (same_self A7 A4 h.tail _ _ _ _ rfl KC.out.2.2.2 K7.out.1 K7.out.2.2 htl).mono ?_
                      rintro e w8 ⟨rfl, hk8⟩
                      have K8 := Lib.hid (K7.out.2.1.on hk8.to_below0)
                      have O8 := Lib.hid (O7.out.on hk8.to_below0)
                      clear hk8
                      go_wp2_with fail
                      refine (hroom_any K8.out.lies).mono ?_
                      rw [← HRm.out]
                      rintro e w9 ⟨rfl, hb9⟩
                      have O9 := Lib.hid (O8.out.on hb9)
                      clear hb9
                      go_wp2
                      go_ret
                      exact ⟨rfl, O9.out.below⟩
                    · refine (on_compact (L := b) K5.out.2.1 K5.out.2.2 hrb.out hAb.out (by omega) hc).mono ?_
                      rintro e w6 ⟨rfl, o6, l6, k6⟩
                      have KC := Lib.hid (And.intro o6 l6)
                      have HE := Lib.hid (And.intro ha2 (And.intro htl' (And.intro hsn hrm2)))
                      clear o6 l6 k6 hc ha2 htl' hsn hrm2
                      have hs0 : (0 : Int) ≤ sz := by rw [HS.out]; omega
                      clear hfit
                      subst ht
                      go_wp2_with fail
                      refine (hage_any KC.out.2.lies).mono ?_
                      rw [HE.out.1]
                      rintro e w7 ⟨rfl, rfl⟩
                      go_wp2_with fail
                      refine (hroom_any KC.out.2.lies).mono ?_
                      rw [HE.out.2.2.2, ← HS.out]
                      rintro e w7 ⟨rfl, hb7⟩
                      have K7 := Lib.hid (And.intro (KC.out.2.on hb7) ((Keeps.of_below (KC.out.1.below.trans (hb7.mono KC.out.1.below.size)) : Keeps none' w w7).rd HH.out.2.2.1 (fun _ _ h => h)))
                      have O7 := Lib.hid (KC.out.1.on hb7)
                      clear hb7
                      go_wp2_with fail
                      refine (on_tail K7.out.1).mono ?_
                      rw [HE.out.2.1]
                      rintro e w8 ⟨A8, c8, rfl, hr8, hb8⟩
                      have K8 := Lib.hid (And.intro (K7.out.1.on hb8) ((Keeps.of_below hb8 : Keeps none' w7 w8).rd K7.out.2 (fun _ _ h => h)))
                      have O8 := Lib.hid (O7.out.on hb8)
                      clear hr8 hb8
                      simp only [List.length_nil]
                      go_wp2_with fail
                      refine (on_snap K8.out.1).mono ?_
                      rw [HE.out.2.2.1]
                      rintro e w9 ⟨A9, c9, rfl, hr9, hb9⟩
                      have K9 := Lib.hid (And.intro hr9 ((Keeps.of_below hb9 : Keeps none' w8 w9).rd K8.out.2 (fun _ _ h => h)))
                      have O9 := Lib.hid (O8.out.on hb9)
                      clear hr9 hb9
                      go_wp2_with fail
                      refine (same_self A9 B b _ _ _ _ rfl rfl K9.out.1 K9.out.2 (by omega)).mono ?_
                      rintro e w10 ⟨rfl, hk10⟩
                      have O10 := Lib.hid (O9.out.on hk10.to_below0)
                      clear hk10
                      go_wp2
                      go_ret
                      exact ⟨rfl, O10.out.below⟩
                    · refine (on_compact (L := b) K5.out.2.1 K5.out.2.2 hrb.out hAb.out (by omega) hc).mono ?_
                      rintro e w6 ⟨rfl, o6, l6, k6⟩
                      have KC := Lib.hid (And.intro o6 (And.intro l6 (hkeep.out w6 k6)))
                      clear o6 l6 k6 hc
                      have hs0 : sz < 0 := by rw [HS.out]; omega
                      clear hno
                      subst ht
                      go_wp2_with fail
                      refine (on_tail KC.out.2.1).mono ?_
                      rintro e w7 ⟨A7, c7, rfl, hr7, hb7⟩
                      have K7 := Lib.hid (And.intro hr7 (And.intro (KC.out.2.1.on hb7) ((Keeps.of_below hb7 : Keeps none' w6 w7).rd KC.out.2.2.1 (fun _ _ h => h))))
                      have O7 := Lib.hid (KC.out.1.on hb7)
                      clear hr7 hb7
                      go_wp2_with fail
                      refine (same_self A7 A4 h.tail _ _ _ _ rfl KC.out.2.2.2 K7.out.1 K7.out.2.2 htl).mono ?_
                      rintro e w8 ⟨rfl, hk8⟩
                      have K8 := Lib.hid (K7.out.2.1.on hk8.to_below0)
                      have O8 := Lib.hid (O7.out.on hk8.to_below0)
                      clear hk8
                      go_wp2_with fail
                      refine (hroom_any K8.out.lies).mono ?_
                      rw [← HRm.out]
                      rintro e w9 ⟨rfl, hb9⟩
                      have K9 := Lib.hid (K8.out.on hb9)
                      have O9 := Lib.hid (O8.out.on hb9)
                      clear hb9
                      go_wp2_with fail
                      refine (hage_any K9.out.lies).mono ?_
                      rw [KL.out.2.2.age]
                      rintro e w10 ⟨rfl, rfl⟩
                      go_wp2_with fail
                      refine (on_snap K9.out).mono ?_
                      rw [KL.out.2.2.snap]
                      rintro e w10 ⟨A10, c10, rfl, hr10, hb10⟩
                      have O10 := Lib.hid (O9.out.on hb10)
                      clear hr10 hb10
                      simp only [List.length_nil]
                      go_wp2
                      go_ret
                      exact ⟨rfl, O10.out.below⟩
end Go.Proofs.YtoldogkfeimojaaDoor.Hv
