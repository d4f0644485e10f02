/- One step of the proof of a statement of this seat: plain laws and walks of the store, log, journal and halves packages; no condition. -/
import Derived.Test.YtoldogkfeimojaaDoorHvHs4
set_option linter.unusedVariables false
set_option linter.unusedSimpArgs false
open Go.RowKit
namespace Go.Proofs.YtoldogkfeimojaaDoor.Hv
open Go.Proofs.Hv Go.Proofs.Mem

attribute [local go_sem] bs_append
section
variable {F : Nat → Prop} {w : World} {hp p g : Nat} {h : Hs} {s : Sto} {jp : Nat} {lv : Value} {l : List Bytes} {snv tlv : Value} {A : Option Addr} {L : List Bytes} {c : Nat}
theorem hcmp_long (hi : HsIn F w hp p g h s jp lv l snv tlv) (hr : Rd w A (strs L)) (hl : L.length ≤ 900000) (ht : tooLong L = true) : Calls Tryd.prog 11 #[ptr hp, .slice A L.length c] w (HPost F w hp p g (3, h, s)) := by
  have HH := Lib.hid (And.intro hi (And.intro hr ht))
  clear hi hr ht
  go_enter Tryd.func11, Tryd.ntmps11
  go_wp2_with fail
  refine (contains_any A L c w (by omega) HH.out.2.1).mono ?_
  rintro e w1 ⟨rfl, rfl⟩
  rw [HH.out.2.2]
  go_wp2
  go_ret
  exact hpost_same HH.out.1 _ (Below.refl _ _)
theorem hcmp_old (hi : HsIn F w hp p g h s jp lv l snv tlv) (hr : Rd w A (strs L)) (hl : L.length ≤ 900000) (ht : tooLong L = false) (ha : 999999999999999999 ≤ h.age) : Calls Tryd.prog 11 #[ptr hp, .slice A L.length c] w (HPost F w hp p g (4, h, s)) := by
  have c2 := hi.blk.cell2
  have ha' : (999999999999999999 : Int) ≤ (h.age : Int) := by omega
  have HH := Lib.hid (And.intro hi (And.intro hr ht))
  clear hi hr ht ha
  go_enter Tryd.func11, Tryd.ntmps11
  go_wp2_with fail
  refine (contains_any A L c w (by omega) HH.out.2.1).mono ?_
  rintro e w1 ⟨rfl, rfl⟩
  rw [HH.out.2.2]
  go_wp2
  go_ret
  exact hpost_same HH.out.1 _ (Below.refl _ _)
theorem hcmp_down (hi : HsIn F w hp p g h s jp lv l snv tlv) (hr : Rd w A (strs L)) (hl : L.length ≤ 900000) (ht : tooLong L = false) (ha : ¬ 999999999999999999 ≤ h.age) (hd : h.down = true) : Calls Tryd.prog 11 #[ptr hp, .slice A L.length c] w (HPost F w hp p g (16, h, s)) := by
  have c2 := hi.blk.cell2
  have c6 := hi.blk.cell6
  rw [hd] at c6
  have ha' : decide ((999999999999999999 : Int) ≤ (h.age : Int)) = false := decide_eq_false (by omega)
  have HH := Lib.hid (And.intro hi (And.intro hr ht))
  clear hi hr ht ha hd
  go_enter Tryd.func11, Tryd.ntmps11
  go_wp2_with fail
  refine (contains_any A L c w (by omega) HH.out.2.1).mono ?_
  rintro e w1 ⟨rfl, rfl⟩
  rw [HH.out.2.2]
  go_wp2
  go_ret
  exact hpost_same HH.out.1 _ (Below.refl _ _)
theorem Own.one (w : World) (e : TypeId) (y : Value) : Mem.Own w.heap.size (w.alloc (.cells #[y] e)) e (.slice (some ⟨w.heap.size, 0, none⟩) 1 1) [y] :=
  ⟨rfl, .inr ⟨w.heap.size, 1, #[y], rfl, Nat.le_refl _, heap_alloc_new w _, Nat.le_refl _, by decide, rfl, rfl⟩⟩
theorem JAt.to_base {b b' : Nat} {W : World} {jp p : Nat} {j : Jr} {lv : Value} {l : List Bytes} (h : JAt b W jp p j lv l) (hb : b' ≤ b) : JAt b' W jp p j lv l := ⟨h.blk, h.own.base hb, h.ne, Nat.le_trans hb h.ge, h.len⟩
def recs1 (a : Nat) (L : List Bytes) (k : Nat) : List Bytes := pre2 103 32 (digits (a + 1)) :: (L.take k).map (pre2 115 32)
theorem strs_snoc (l : List Bytes) (x : Bytes) : strs (l ++ [x]) = strs l ++ [str x] := by simp [strs]
theorem own_snoc {base : Nat} {W : World} {a : Option Addr} {c : Nat} {l : List Bytes} {x : Bytes} (h : Mem.Own base W 9 (.slice a ((strs l).length + 1) c) (strs l ++ [str x])) : Mem.Own base W 9 (.slice a (l.length + 1) c) (strs (l ++ [x])) := by
  rw [strs_snoc]
  rw [strs_length] at h
  exact h
theorem recs1_succ {a : Nat} {L : List Bytes} {k : Nat} (h : k < L.length) : recs1 a L (k + 1) = recs1 a L k ++ [pre2 115 32 L[k]] := by
  unfold recs1; rw [List.take_succ_eq_append_getElem h, List.map_append]; rfl
theorem tooLong_false {L : List Bytes} (h : tooLong L = false) : ∀ x ∈ L, x.length ≤ 398 := by
  intro x hx
  by_cases h1 : x.length ≤ 398
  · exact h1
  · have : tooLong L = true := by unfold tooLong; rw [List.any_eq_true]; exact ⟨x, hx, by simp; omega⟩
    rw [h] at this; cases this

theorem HsIn.ns (hi : HsIn F w hp p g h s jp lv l snv tlv) {k : Nat} (hk : F k) : ¬ stoF p g k := fun e => by
  rcases e with e | e
  · exact hi.fp (e ▸ hk)
  · exact hi.fg (e ▸ hk)
theorem fresh_call {base : Nat} {W : World} {v : Value} {recs rs : List Bytes} {q : (Int × Option Jr) × Sto} {k : Nat} (hst : StoAt W p g s) (hown : Mem.Own base W 9 v (strs rs)) (hpg : p < base ∧ g < base) (hk : k ≤ 1) (h4 : 4 ≤ s.blocks.length) (he : rs = recs) (hrl : recs.length ≤ 1000000 ∧ ∀ x ∈ recs, x.length ≤ 1000000) (hq : q = fresh k recs s) :
    Calls Tryd.prog 22 #[ptr p, .int .i64 (k : Int), v] W (FrPost W p g q) := by
  subst he
  rw [hq]
  obtain ⟨A, c, rfl, hr, _, _, hg, _⟩ := hown.rd
  rw [strs_length]
  exact fresh_any W p g k s A c rs hst hk h4 hr (fun a ha e => by have := (hg a ha).2.2.1; rcases e with e | e <;> omega) hrl.1 hrl.2
set_option maxHeartbeats 1000000 in
set_option maxRecDepth 20000 in
theorem hcmp_main (hi : HsIn F w hp p g h s jp lv l snv tlv) (hg : Glob w) (hr : Rd w A (strs L)) (hA : ∀ a, A = some a → 0 < L.length → ¬ stoF p g a.block ∧ a.block ≠ hp) (hl : L.length ≤ 900000) (ht : tooLong L = false) (ha : ¬ 999999999999999999 ≤ h.age) (hd : h.down = false)
    (q : (Int × Option Jr) × Sto) (hq : q = fresh (1 - h.use) (pre2 103 32 (digits (h.age + 1)) :: (L.map (pre2 115 32) ++ [live])) s) (R : Int × Hs × Sto) (hR : R = if q.1.1 = 0 then (0, (match q.1.2 with | some j => ⟨1 - h.use, h.age + 1, L, [], j, false⟩ | none => h), q.2) else (q.1.1, { h with down := q.1.1 == 16 }, q.2)) :
    Calls Tryd.prog 11 #[ptr hp, .slice A L.length c] w (HPost F w hp p g R) := by
  have c0 := hi.blk.cell0
  have c1 := hi.blk.cell1
  have c2 := hi.blk.cell2
  have c6 := hi.blk.cell6
  rw [hd] at c6
  have huse := hi.use
  have hhw := hi.blk.lt
  have ha' : decide ((999999999999999999 : Int) ≤ (h.age : Int)) = false := decide_eq_false (by omega)
  have e1 : IntKind.i64.wrap ((h.age : Int) + 1) = (h.age : Int) + 1 := by rw [IntKind.wrap_i64]; omega
  have e2 : IntKind.i64.wrap (1 - (h.use : Int)) = ((1 - h.use : Nat) : Int) := by rw [IntKind.wrap_i64]; omega
  have hdig : Lib.itoa ((h.age : Int) + 1) = digits (h.age + 1) := itoa_digits (h.age + 1) (by omega)
  have hdl : (digits (h.age + 1)).length ≤ 20 := by
    have : ∀ f n, (digitsF f n).length ≤ f := by
      intro f
      induction f with
      | zero => intro n; simp [digitsF]
      | succ f ih => intro n; rw [digitsF]; split
                     · simp
                     · simp only [List.length_append, List.length_singleton]; have := ih (n / 10); omega
    exact this 20 _
  have hql : q.2.blocks.length = s.blocks.length := by rw [hq]; exact fresh_len _ _ _
  have hqs : q.1.1 = 0 → ∃ j, q.1.2 = some j := by rw [hq]; exact fresh_some _ _ _
  obtain ⟨⟨e, oj⟩, s2⟩ := q
  simp only at hql hqs hR
  have HH := Lib.hid (And.intro hi (And.intro hr (And.intro ht (And.intro hg (And.intro hA (And.intro hdig (And.intro hdl (And.intro hq (And.intro hR (And.intro hql (And.intro hqs (And.intro hd ha))))))))))))
  clear hi hr ht ha hd hg hA hdig hq hR hql hqs
  generalize hdv : digits (h.age + 1) = D at *
  have HD := Lib.hid hdv
  clear hdv
  go_enter Tryd.func11, Tryd.ntmps11
  go_wp2_with fail
  refine (contains_any A L c w (by omega) HH.out.2.1).mono ?_
  rintro e w1 ⟨rfl, rfl⟩
  rw [HH.out.2.2.1]
  go_wp2_with fail
  refine (itoa_any _ w HH.out.2.2.2.1 (by omega) (by have := HH.out.2.2.2.2.2.2.2.2.2.2.2.2; omega)).mono ?_
  rintro e w1 ⟨rfl, hb1⟩
  rw [HH.out.2.2.2.2.2.1]
  have HB1 := Lib.hid hb1
  clear hb1
  have l1 : ¬ 9223372036854775807 < 2 + D.length := by omega
  have l2 : ¬ 9223372036854775807 < D.length + 2 := by omega
  go_wp2_with fail
  go_loopg [5, 36] (L.length + 1) (fun f v5 v36 W => ∃ (k : Nat), k + f = L.length + 1 ∧ k ≤ L.length ∧ v36 = .int .i64 (k : Int) ∧ Mem.Own w.heap.size W 9 v5 (strs (recs1 h.age L k)) ∧ Below w.heap.size w W)
  case atStart => exact ⟨0, by omega, by omega, rfl, by rw [show recs1 h.age L 0 = [pre2 103 32 D] by rw [← HD.out]; rfl]; exact (Own.one w1 _ _).base HB1.out.size, HB1.out.alloc HB1.out.size _⟩
  case round =>
    obtain ⟨k, hk, hkl, rfl, hown, hbw⟩ := hrel
    have HL := Lib.hid (And.intro hown hbw)
    have hsz := hbw.size
    obtain ⟨A5, m5, c5, rfl⟩ := own_shape hown
    clear hown hbw
    by_cases hlt : k < L.length
    · obtain ⟨bA, oA, hAe, hcell⟩ := HH.out.2.1.at_ k (by rw [strs_length]; exact hlt)
      have hck : wr.cell? ⟨bA, oA + k, none⟩ = some (str L[k]) := by rw [cell_below HL.out.2 (hcell k (by rw [strs_length]; exact hlt))]; simp [strs]
      subst hAe
      have HT := Lib.hid (recs1_succ (a := h.age) hlt)
      have hxl := tooLong_false HH.out.2.2.1 L[k] (by simp)
      clear hcell
      generalize L[k] = x at *
      have l3 : ¬ 9223372036854775807 < 2 + x.length := by omega
      have l4 : ¬ 9223372036854775807 < x.length + 2 := by omega
      go_wp2_with (at_builtin; refine wp_push (w := wr) E32 rfl _ _ rfl w.heap.size (.slice A5 m5 c5) (strs (recs1 h.age L k)) rfl (str (pre2 115 32 x)) rfl HL.out.1 rfl ?c1 (by decide) hsz ?_)
      case c1 => rw [strs_length]; simp [recs1]; omega
      intro v4 w4 hown4 hgr4 hmv4
      have HN := Lib.hid (show Mem.Own w.heap.size w4 9 v4 (strs (recs1 h.age L (k + 1))) ∧ Below w.heap.size w w4 from by
        rw [HT.out, strs_snoc]
        exact ⟨hown4, HL.out.2.grown hgr4 hsz (fun q hq => (World.ownsRow.lt HL.out.1 q hq).1)⟩)
      clear hown4 hgr4 hmv4
      go_wp2
      go_roundg (gk - 1)
      case measure => omega
      case rel => exact ⟨k + 1, by omega, by omega, by go_num, HN.out⟩
    · have hkk : k = L.length := by omega
      subst hkk
      have d0 := cell_below HL.out.2 c0
      have d1 := cell_below HL.out.2 c1
      have hfr : ∀ w', Keeps none' w w' → Mem.Own w.heap.size w' 9 (.slice none 0 0) [] → True := fun _ _ _ => trivial
      clear hfr
      have hrec : recs1 h.age L L.length ++ [live] = pre2 103 32 D :: (L.map (pre2 115 32) ++ [live]) := by unfold recs1; rw [List.take_length, HD.out]; rfl
      have HRec := Lib.hid hrec
      have HRL := Lib.hid (show (pre2 103 32 D :: (L.map (pre2 115 32) ++ [live])).length ≤ 1000000 ∧ ∀ x ∈ pre2 103 32 D :: (L.map (pre2 115 32) ++ [live]), x.length ≤ 1000000 from by
        refine ⟨by simp; omega, fun x hx => ?_⟩
        simp only [List.mem_cons, List.mem_append, List.mem_map, List.not_mem_nil, or_false] at hx
        rcases hx with rfl | ⟨y, hy, rfl⟩ | rfl
        · simp [pre2]; omega
        · have := tooLong_false HH.out.2.2.1 y hy; simp [pre2]; omega
        · simp [live])
      clear hrec
      go_wp2_with fail
      go_region_held_law (fun w' => w'.cell? ⟨hp, 0, none⟩ = some (ptr p) ∧ w'.cell? ⟨hp, 1, none⟩ = some (.int .i64 (h.use : Int)))
        (first | exact ⟨‹_›, ‹_›⟩ | go_keep)
        (first
          | (refine step_push E32 rfl (.tmp 56) (.tmp 57) rfl w.heap.size (.slice A5 m5 c5) (strs (recs1 h.age L L.length)) (by rfl) (str live) wr.heap.size 1 (by rfl) (by simp [live]) ((HL.out.1.alloc _).drew) rfl (by rw [strs_length]; simp [recs1]; omega) (by decide) (by simp; omega) ?_; intro g4 c4 w4 hown4 hgr4 hmv4; have hk4 := (((Keeps.of_below HL.out.2 : Keeps none' w wr).alloc (.cells #[str live] 9)).drew).grown hgr4 (fun q hq => .inr (World.ownsRow.lt HL.out.1 q hq).1); have k0 := hk4.cell c0 (fun h => h); have k1 := hk4.cell c1 (fun h => h); have HK4 := Lib.hid (And.intro hk4 (own_snoc hown4)))
          | (go_at_call 22; refine (fresh_call (base := w.heap.size) (HH.out.1.sto.keeps HK4.out.1 (fun h => h) (fun h => h)) HK4.out.2 HH.out.1.sto.lt (by omega) HH.out.1.n4 HRec.out HRL.out HH.out.2.2.2.2.2.2.2.1).mono ?_; rintro e w5 ⟨jv, rfl, hst5, hk5, hno, hsome⟩; have k0' := hk5.cell k0 (fun e => HH.out.1.ns (HH.out.1.fh) e); have k1' := hk5.cell k1 (fun e => HH.out.1.ns (HH.out.1.fh) e)))
      all_goals
        have hkw : Keeps (stoF p g) w w5 := (HK4.out.1.mono (fun _ _ h => h.elim)).trans hk5
        have hi5 := HH.out.1.wrote hst5 hkw HH.out.2.2.2.2.2.2.2.2.2.1
        have HW := Lib.hid (And.intro hi5 (And.intro hkw (And.intro hst5 (And.intro hno hsome))))
        clear hkw hst5 hk5 hno hsome k0 k1 k0' k1' d0 d1
        have b1 := hi5.blk.cell1
        have b2 := hi5.blk.cell2
        have b5 := hi5.blk.cell5
        have b6 := hi5.blk.cell6
        have z1 := hi5.blk.free 1
        have z2 := hi5.blk.free 2
        have z3 := hi5.blk.free 3
        have z4 := hi5.blk.free 4
        have b3 := hi5.blk.cell3
        have b4 := hi5.blk.cell4
        have z5 := hi5.blk.free 5
        have z6 := hi5.blk.free 6
        have hhw5 := hi5.blk.lt
        clear hi5
        by_cases h0 : e = 0
        · subst h0
          obtain ⟨j2, hj2⟩ := HH.out.2.2.2.2.2.2.2.2.2.2.1 rfl
          obtain ⟨jp2, lv2, l2, rfl, hj, ok, fl⟩ := HW.out.2.2.2.2 j2 hj2
          have HJ := Lib.hid (And.intro hj2 (And.intro hj (And.intro ok fl)))
          clear hj2 hj ok fl
          have hrd5 := HW.out.2.1.rd0 HH.out.2.1 (fun a ha h0 e => (HH.out.2.2.2.2.1 a ha (by rwa [strs_length] at h0)).1 e)
          have hrd6 := ((Keeps.refl (fun q => q = hp) w5).setCell (a := ⟨hp, 1, none⟩) (by simp) (.int .i64 ((1 - h.use : Nat) : Int))).setCell (a := ⟨hp, 5, none⟩) (by simp) (ptr jp2) |>.rd0 hrd5 (fun a ha h0 e => (HH.out.2.2.2.2.1 a ha (by rwa [strs_length] at h0)).2 e)
          have HR6 := Lib.hid (And.intro hrd6 ((HW.out.1.blk.set 1 (.int .i64 ((1 - h.use : Nat) : Int))).set 5 (ptr jp2)))
          clear hrd5 hrd6
          go_wp2_with fail
          go_region_with ((go_at_call 28; refine (clone_rd A _ c L _ rfl ((Keeps.refl none' _).drew.rd HR6.out.1 (fun _ _ h => h)) (by omega)).mono ?_; rintro e w7 ⟨v, rfl, hrs⟩; obtain ⟨A7, m7, c7, rfl⟩ := own_shape hrs.1; have hb7 := HR6.out.2.drew.below hrs.2; have k2 := hb7.cell2; have y2 := hb7.free 2; have y3 := hb7.free 3; have y4 := hb7.free 4; have k3 := hb7.cell3; have k4 := hb7.cell4; have HRS := Lib.hid hrs; clear hb7))
          all_goals
            go_wp2
            go_ret
            have hR := HH.out.2.2.2.2.2.2.2.2.1
            rw [if_pos (by simp), HJ.out.1] at hR
            simp only at hR
            have hn := HH.out.1.renew (s2 := s2) (L := L) HW.out.2.2.1 HW.out.2.1 HH.out.2.2.2.2.2.2.2.2.2.1 (HJ.out.2.1.to_base HK4.out.1.size) HJ.out.2.2.1 HJ.out.2.2.2 (by have := HH.out.2.2.2.2.2.2.2.2.2.2.2.2; omega) (by omega) (((Keeps.refl none' _).drew).below HRS.out.2) (HRS.out.1.base (by simp))
            rw [HH.out.2.2.2.2.2.2.2.2.2.2.2.1] at hn
            rw [hR]
            exact ⟨rfl, ⟨_, _, _, _, _, hn.1⟩, hn.2⟩
        · have h0' : (e != 0) = true := by simpa using h0
          have HE := Lib.hid h0
          clear h0
          go_wp2
          go_ret
          have hR := HH.out.2.2.2.2.2.2.2.2.1
          rw [if_neg HE.out] at hR
          rw [hR]
          have hf := HW.out.1.flag (e == 16)
          exact ⟨rfl, ⟨_, _, _, _, _, hf.1.toMore w HH.out.1.sto.lt.1 HH.out.1.sto.lt.2⟩, (HW.out.2.1.mono (fun _ _ h => .inl h)).step hf.2 (fun _ _ h => .inr h)⟩
theorem hcompact_any (hi : HsAt F w hp p g h s) (hg : Glob w) (hr : Rd w A (strs L)) (hA : ∀ a, A = some a → 0 < L.length → ¬ stoF p g a.block ∧ a.block ≠ hp) (hl : L.length ≤ 900000) :
    Calls Tryd.prog 11 #[ptr hp, .slice A L.length c] w (HPost F w hp p g (compactH h L s)) := by
  obtain ⟨jp, lv, l, snv, tlv, hi⟩ := hi
  cases ht : tooLong L with
  | true =>
    have e : compactH h L s = (3, h, s) := by unfold compactH; rw [if_pos ht]
    rw [e]
    exact hcmp_long hi hr hl ht
  | false =>
    by_cases ha : 999999999999999999 ≤ h.age
    · have e : compactH h L s = (4, h, s) := by unfold compactH; rw [if_neg (by simp [ht]), if_pos ha]
      rw [e]
      exact hcmp_old hi hr hl ht ha
    · cases hd : h.down with
      | true =>
        have e : compactH h L s = (16, h, s) := by unfold compactH; rw [if_neg (by simp [ht]), if_neg ha, if_pos hd]
        rw [e]
        exact hcmp_down hi hr hl ht ha hd
      | false =>
        exact hcmp_main hi hg hr hA hl ht ha hd _ rfl _ (by unfold compactH; rw [if_neg (by simp [ht]), if_neg ha, if_neg (by simp [hd])]; rfl)
end
end Go.Proofs.YtoldogkfeimojaaDoor.Hv
