/- One step of the proof of a statement of this seat: plain laws and walks of the store, log, journal and halves packages; no condition. -/
import Derived.Test.YtoldogkfeimojaaDoorHvJr5
set_option linter.unusedVariables false
set_option linter.unusedSimpArgs false
open Go.RowKit
namespace Go.Proofs.YtoldogkfeimojaaDoor.Hv
open Go.Proofs.Hv Go.Proofs.Mem

/-- a journal lies in block jp; its records' list is lv -/
structure JAt (base : Nat) (w : World) (jp p : Nat) (j : Jr) (lv : Value) (l : List Bytes) : Prop where
  blk : Blk w jp 75 [ptr p, .int .i64 (j.from_ : Int), .int .i64 (j.n : Int), lv, .int .i64 (j.fin : Int), .bool j.down]
  own : Mem.Own base w 9 lv (strs l)
  ne : lv.ownBlock ≠ some jp
  ge : base ≤ jp
  len : l.length ≤ j.fin
theorem JAt.keeps {S : Nat → Prop} {base : Nat} {w w' : World} {jp p : Nat} {j : Jr} {lv : Value} {l : List Bytes} (h : JAt base w jp p j lv l) (hk : Keeps S w w') (h1 : ¬ S jp) (h2 : ∀ k, lv.ownBlock = some k → ¬ S k) : JAt base w' jp p j lv l :=
  ⟨h.blk.keeps hk h1, hk.own h.own h2, h.ne, h.ge, h.len⟩

def PartYes (w : World) (p g b n : Nat) (s s' : Sto) (l : List Bytes) (fin : Nat) (e : Ending) (w' : World) : Prop :=
  ∃ jp lv v2, e = .returned (.tuple #[ptr jp, v2, .int .i64 0]) ∧ JAt w.heap.size w' jp p ⟨b, n, fin, false⟩ lv l ∧ StoAt w' p g s' ∧ Keeps (stoF p g) w w'
def PartNo (w : World) (p g : Nat) (s' : Sto) (r : Int) (e : Ending) (w' : World) : Prop :=
  e = .returned (.tuple #[.pointer none, .slice none 0 0, .int .i64 r]) ∧ StoAt w' p g s' ∧ Keeps (stoF p g) w w'
def PartPost (w : World) (p g b n : Nat) (s : Sto) (e : Ending) (w' : World) : Prop :=
  ((Hv.part b n s).1.1 = 0 ∧ PartYes w p g b n s (Hv.part b n s).2 (Hv.part b n s).1.2.1 (Hv.part b n s).1.2.2 e w') ∨ ((Hv.part b n s).1.1 ≠ 0 ∧ PartNo w p g (Hv.part b n s).2 (Hv.part b n s).1.1 e w')

theorem cleared_len (x : Bytes) (m : Nat) (h : m ≤ x.length) : (cleared x m).length = x.length := by
  unfold cleared zeros
  simp
  omega
theorem part_ok {b n : Nat} {s : Sto} (h : (put b (cleared (partBytes s b n) (scan (partBytes s b n)).2) (scan (partBytes s b n)).2 (32 * n) false s).1 = 0) :
    Hv.part b n s = ((0, (scan (partBytes s b n)).1, (scan (partBytes s b n)).2), (put b (cleared (partBytes s b n) (scan (partBytes s b n)).2) (scan (partBytes s b n)).2 (32 * n) false s).2) := by
  unfold Hv.part; simp only; rw [if_pos h]
theorem part_no {b n : Nat} {s : Sto} (h : (put b (cleared (partBytes s b n) (scan (partBytes s b n)).2) (scan (partBytes s b n)).2 (32 * n) false s).1 ≠ 0) :
    Hv.part b n s = (((put b (cleared (partBytes s b n) (scan (partBytes s b n)).2) (scan (partBytes s b n)).2 (32 * n) false s).1, [], 0), (put b (cleared (partBytes s b n) (scan (partBytes s b n)).2) (scan (partBytes s b n)).2 (32 * n) false s).2) := by
  unfold Hv.part; simp only; rw [if_neg h]

set_option maxHeartbeats 1000000 in
set_option maxRecDepth 20000 in
theorem part_any (w : World) (p g b n : Nat) (s : Sto) (h : StoAt w p g s) (ho : PartOk s b n) :
    Calls Tryd.prog 23 #[ptr p, .int .i64 (b : Int), .int .i64 (n : Int)] w (PartPost w p g b n s) := by
  have hle := ho.le
  have hhi := h.wf.hi
  have hxl := partBytes_len h.wf b n hle
  have hlen : (partBytes s b n).length ≤ 1000000 := by omega
  have hscan := scan_end (partBytes s b n)
  have hpl := h.lt
  have hP1 := part_ok (b := b) (n := n) (s := s)
  have hP2 := part_no (b := b) (n := n) (s := s)
  generalize hx : partBytes s b n = x at *
  generalize hsc : scan x = sc at *
  obtain ⟨l, fin⟩ := sc
  simp only at hscan hP1 hP2
  have HX := Lib.hid (And.intro hx (And.intro hsc (And.intro hxl (And.intro hscan (And.intro hP1 (And.intro hP2 (And.intro h ho)))))))
  have hfin : fin ≤ x.length := hscan.1
  have hfl : x.length ≤ 8192 := by omega
  have hll : l.length ≤ fin := hscan.2.1
  clear hx hsc hxl hscan hP1 hP2 h ho
  go_enter Tryd.func23, Tryd.ntmps23
  go_wp2_with fail
  refine (is_any _ p g b n s (HX.out.2.2.2.2.2.2.1.alloc _) HX.out.2.2.2.2.2.2.2).mono ?_
  rintro e w1 ⟨rfl, hb1⟩
  have hst1 : StoAt w1 p g s := (HX.out.2.2.2.2.2.2.1.alloc _).below hb1
  have hB1 : Blk w1 w.heap.size 67 [ptr p, .int .i64 (b : Int), .int .i64 (n : Int)] := (Blk.new w _ _).below hb1
  have hk1 := ((Keeps.refl none' w).alloc (.cells #[ptr p, .int .i64 (b : Int), .int .i64 (n : Int)] 67)).below hb1
  have c0 := hB1.cell0
  have c1 := hB1.cell1
  have c2 := hB1.cell2
  have HK := Lib.hid (And.intro hst1 (And.intro hB1 hk1))
  clear hst1 hB1 hb1 hk1
  go_wp2_with fail
  refine (pbytes_any w1 p g b n s HK.out.1 HX.out.2.2.2.2.2.2.2).mono ?_
  rintro e w2 ⟨rfl, hb2⟩
  rw [HX.out.1]
  have hB2 := HK.out.2.1.below hb2
  have d0 := hB2.cell0
  have d1 := hB2.cell1
  have d2 := hB2.cell2
  have HK2 := Lib.hid (And.intro (HK.out.1.below hb2) (And.intro hB2 (HK.out.2.2.below hb2)))
  clear c0 c1 c2 hb2 hB2
  go_wp2_with fail
  refine (scan_any x w2 (by omega)).mono ?_
  rintro e w3 ⟨v, rfl, hown, hb3⟩
  rw [HX.out.2.1] at hown ⊢
  have hB3 := HK2.out.2.1.below hb3
  have c0 := hB3.cell0
  have c1 := hB3.cell1
  have c2 := hB3.cell2
  have HK3 := Lib.hid (And.intro (HK2.out.1.below hb3) (And.intro hB3 (And.intro (HK2.out.2.2.below hb3) (hown.base HK2.out.2.2.size))))
  clear d0 d1 d2 hb3 hB3 hown
  go_wp2_with fail
  have hcl : (cleared x fin).length ≤ 8192 := by rw [cleared_len x fin hfin]; exact hfl
  have HC := Lib.hid (And.intro (cleared_len x fin hfin) (show x.length ≤ 32 * n from by rw [HX.out.2.2.1]; exact Nat.le_refl _))
  go_region_held3 (fun w' => w'.cell? ⟨w.heap.size, 0, none⟩ = some (ptr p) ∧ w'.cell? ⟨w.heap.size, 1, none⟩ = some (.int .i64 (b : Int)) ∧ w'.cell? ⟨w.heap.size, 2, none⟩ = some (.int .i64 (n : Int))) (go_keep) ((first | (go_at_call 39; refine (cleared_any x fin _ hfin hlen).mono ?_; rintro e w4 ⟨rfl, hb4⟩; have k0 := cell_below hb4 c0; have k1 := cell_below hb4 c1; have k2 := cell_below hb4 c2; have HB4 := Lib.hid hb4) | (go_at_call 38; refine (put_any w4 p g b n fin x.length s (cleared x fin) false (HK3.out.1.keeps (S := none') (((Keeps.refl none' w3).drew).below HB4.out) (fun h => h) (fun h => h)) HX.out.2.2.2.2.2.2.2 (HC.out.1.trans HX.out.2.2.1) HC.out.2 (by omega)).mono ?_; rintro e w5 ⟨rfl, hst5, hk5⟩; have k0' := hk5.cell k0 (by simp only [stoF]; omega); have k1' := hk5.cell k1 (by simp only [stoF]; omega); have k2' := hk5.cell k2 (by simp only [stoF]; omega))))
  have hP : x.length = 32 * n := HX.out.2.2.1
  rw [hP] at hst5 ⊢
  have hk3 : Keeps (stoF p g) w w5 := ((HK3.out.2.2.1.mono (fun _ _ h => h.elim)).drew.below HB4.out).trans hk5
  have hB5 : Blk w5 w.heap.size 67 [ptr p, .int .i64 (b : Int), .int .i64 (n : Int)] := (((HK3.out.2.1.keeps ((Keeps.refl none' w3).drew) (fun h => h)).below HB4.out)).keeps hk5 (by simp only [stoF]; omega)
  have hown5 : Mem.Own w.heap.size w5 9 v (strs l) := hk5.own ((((Keeps.refl none' w3).drew.below HB4.out)).own HK3.out.2.2.2 (fun _ _ h => h)) (fun k hk => by have := (World.ownsRow.lt HK3.out.2.2.2 k hk).1; simp only [stoF]; omega)
  have HX5 := HX.out.2.2.2.2.1
  have HX6 := HX.out.2.2.2.2.2.1
  generalize put b (cleared x fin) fin (32 * n) false s = pr at *
  obtain ⟨r, s'⟩ := pr
  simp only at HX5 HX6 hst5 ⊢
  have HF := Lib.hid (And.intro HX5 (And.intro HX6 (And.intro hst5 (And.intro hk3 (And.intro hB5 hown5)))))
  clear HX5 HX6 hst5 hk3 hB5 hown5 hk5 hP k0 k1 k2 c0 c1 c2
  by_cases hr : r = 0
  · subst hr
    have HPart := Lib.hid (HF.out.1 rfl)
    obtain ⟨A, cc, hv, hrd, _⟩ := HF.out.2.2.2.2.2.rd
    have HRD := Lib.hid hrd
    clear hrd
    subst hv
    go_wp2
    have q0 := HF.out.2.2.2.2.1.cell0
    have q1 := HF.out.2.2.2.2.1.cell1
    have q2 := HF.out.2.2.2.2.1.cell2
    have hkN : Keeps none' w5 ((w5.alloc (.cells #[ptr p, .int .i64 (b : Int), .int .i64 (n : Int), .slice A (strs l).length cc, .int .i64 (fin : Int), .bool false] 75)).drew) := ((Keeps.refl none' w5).alloc _).drew
    have hJ5 : Blk ((w5.alloc (.cells #[ptr p, .int .i64 (b : Int), .int .i64 (n : Int), .slice A (strs l).length cc, .int .i64 (fin : Int), .bool false] 75)).drew) w5.heap.size 75 [ptr p, .int .i64 (b : Int), .int .i64 (n : Int), .slice A (strs l).length cc, .int .i64 (fin : Int), .bool false] := Blk.new w5 _ _
    rw [strs_length] at hkN hJ5
    generalize hW : (w5.alloc (.cells #[ptr p, .int .i64 (b : Int), .int .i64 (n : Int), .slice A l.length cc, .int .i64 (fin : Int), .bool false] 75)).drew = W at hkN hJ5
    have HW := Lib.hid hW
    have g0 := hkN.cell q0 (fun h => h)
    have g1 := hkN.cell q1 (fun h => h)
    have g2 := hkN.cell q2 (fun h => h)
    have HN := Lib.hid (And.intro hkN hJ5)
    clear hkN hJ5 hW
    go_region_held3 (fun w' => w'.cell? ⟨w.heap.size, 0, none⟩ = some (ptr p) ∧ w'.cell? ⟨w.heap.size, 1, none⟩ = some (.int .i64 (b : Int)) ∧ w'.cell? ⟨w.heap.size, 2, none⟩ = some (.int .i64 (n : Int))) (go_keep) ((go_at_call 28; first | (rw [HW.out]; refine (clone_rd A l.length cc l W rfl (HN.out.1.rd HRD.out (fun _ _ h => h)) (by omega)).mono ?_; rintro e w6 ⟨v2, rfl, hr6⟩; have m0 := cell_below hr6.2 g0; have m1 := cell_below hr6.2 g1; have m2 := cell_below hr6.2 g2; have HWay : Hid True := trivial) | (refine (clone_rd A l.length cc l w5.drew rfl ((Keeps.refl none' w5).drew.rd HRD.out (fun _ _ h => h)) (by omega)).mono ?_; rintro e w6 ⟨v2, rfl, hr6⟩; have m0 := cell_below hr6.2 q0; have m1 := cell_below hr6.2 q1; have m2 := cell_below hr6.2 q2; have HWay : Hid False → Hid False := id)))
    · go_wp2
      go_ret3
      left
      rw [HPart.out]
      have hkk := HN.out.1.below hr6.2
      refine ⟨rfl, w5.heap.size, .slice A l.length cc, v2, rfl, ⟨?_, ?_, ?_, HF.out.2.2.2.1.size, hll⟩, ?_, ?_⟩
      · exact (HN.out.2).below hr6.2
      · have := HF.out.2.2.2.2.2
        rw [strs_length] at this
        exact hkk.own this (fun _ _ h => h)
      · intro e0
        have := (World.ownsRow.lt HF.out.2.2.2.2.2 w5.heap.size (by rw [strs_length]; exact e0)).2
        omega
      · exact HF.out.2.2.1.keeps hkk (fun h => h) (fun h => h)
      · exact HF.out.2.2.2.1.trans (hkk.mono (fun _ _ h => h.elim))
    · go_wp2
      go_ret3
      left
      rw [HPart.out]
      have hk6 := (Keeps.refl none' w5).drew.below hr6.2
      have hkk := hk6.alloc (.cells #[ptr p, .int .i64 (b : Int), .int .i64 (n : Int), .slice A l.length cc, .int .i64 (fin : Int), .bool false] 75)
      refine ⟨rfl, w6.heap.size, .slice A l.length cc, v2, rfl, ⟨?_, ?_, ?_, ?_, hll⟩, ?_, ?_⟩
      · exact Blk.new w6 _ _
      · have := HF.out.2.2.2.2.2
        rw [strs_length] at this
        exact hkk.own this (fun _ _ h => h)
      · intro e0
        have := (World.ownsRow.lt HF.out.2.2.2.2.2 w6.heap.size (by rw [strs_length]; exact e0)).2
        have := hk6.size
        omega
      · exact Nat.le_trans HF.out.2.2.2.1.size hk6.size
      · exact HF.out.2.2.1.keeps hkk (fun h => h) (fun h => h)
      · exact HF.out.2.2.2.1.trans (hkk.mono (fun _ _ h => h.elim))
  · have hr' : (r != 0) = true := by simpa using hr
    have HR := Lib.hid hr
    clear hr
    go_wp2
    go_ret3
    right
    rw [HF.out.2.1 HR.out]
    exact ⟨HR.out, rfl, HF.out.2.2.1, HF.out.2.2.2.1⟩
end Go.Proofs.YtoldogkfeimojaaDoor.Hv
