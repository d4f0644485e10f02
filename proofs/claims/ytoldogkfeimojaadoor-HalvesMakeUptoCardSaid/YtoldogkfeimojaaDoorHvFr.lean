/- One step of the proof of a statement of this seat: plain laws and walks of the store, log, journal and halves packages; no condition. -/
import Derived.Test.YtoldogkfeimojaaDoorHvRead
set_option linter.unusedVariables false
set_option linter.unusedSimpArgs false
open Go.RowKit
namespace Go.Proofs.YtoldogkfeimojaaDoor.Hv
open Go.Proofs.Hv Go.Proofs.Mem

theorem hblocks_any (w : World) (p g k : Nat) (s : Sto) (h : StoAt w p g s) (hk : k ≤ 1) :
    Calls Tryd.prog 19 #[ptr p, .int .i64 (k : Int)] w fun e w' => e = .returned (.tuple #[.int .i64 ((k * (s.blocks.length / 2) : Nat) : Int), .int .i64 ((s.blocks.length / 2 : Nat) : Int)]) ∧ w = w' := by
  have hhi := h.wf.hi
  have HH := Lib.hid h
  clear h
  rcases (show k = 0 ∨ k = 1 by omega) with rfl | rfl
  all_goals
    go_enter Tryd.func19, Tryd.ntmps19
    go_wp2_with fail
    refine (blocks_any w p g s HH.out).mono ?_
    rintro e w' ⟨rfl, rfl⟩
    go_wp2
    go_ret2
    exact ⟨ret_eq (by simp), rfl⟩

theorem wipe_step {f i : Nat} {s : Sto} (h : s.blk i = zeros 32) : wipeF (f + 1) i s = wipeF f (i + 1) s := by rw [wipeF, if_pos h]
theorem wipe_go {f i : Nat} {s : Sto} (h : s.blk i ≠ zeros 32) (h0 : (write s (i : Nat) (zeros 32)).1 = 0) : wipeF (f + 1) i s = wipeF f (i + 1) (write s (i : Nat) (zeros 32)).2 := by rw [wipeF, if_neg h]; simp only; rw [if_pos h0]
theorem wipe_err {f i : Nat} {s : Sto} (h : s.blk i ≠ zeros 32) (h0 : (write s (i : Nat) (zeros 32)).1 ≠ 0) : wipeF (f + 1) i s = write s (i : Nat) (zeros 32) := by rw [wipeF, if_neg h]; simp only; rw [if_neg h0]
theorem ext_bytes {s : Sto} (h : SWf s) (i : Nat) (hi : i < s.blocks.length) : (⟨s.bytes.toArray⟩ : ByteArray).extract (i * 32) (i * 32 + 32) = ⟨(s.blk i).toArray⟩ := by
  rw [bs_extract, List.drop_take, show i * 32 + 32 - i * 32 = 32 by omega, Sto.bytes, blk_flat s.blocks h.each i hi]
  rfl

theorem putF_len (b : Nat) (x : Bytes) (hi : Nat) (must : Bool) : ∀ (f i : Nat) (s : Sto), (putF b x hi must f i s).2.blocks.length = s.blocks.length := by
  intro f
  induction f with
  | zero => intro i s; rfl
  | succ f ih =>
    intro i s
    unfold putF
    split
    · split
      · exact ih _ _
      · simp only
        split
        · rw [ih]; exact write_len_same _ _ _
        · exact write_len_same _ _ _
    · rfl
theorem part_len (b n : Nat) (s : Sto) : (Hv.part b n s).2.blocks.length = s.blocks.length ∧ (Hv.part b n s).1.2.2 ≤ (partBytes s b n).length := by
  unfold Hv.part
  simp only
  split
  · exact ⟨putF_len _ _ _ _ _ _ _, (scan_end _).1⟩
  · exact ⟨putF_len _ _ _ _ _ _ _, by simp⟩
theorem appendJ_inv (j : Jr) (r : Bytes) (s : Sto) (h : j.fin ≤ 32 * j.n) : (appendJ j r s).2.1.from_ = j.from_ ∧ (appendJ j r s).2.1.n = j.n ∧ (appendJ j r s).2.2.blocks.length = s.blocks.length ∧ (appendJ j r s).2.1.fin ≤ 32 * (appendJ j r s).2.1.n := by
  unfold appendJ
  by_cases h1 : okRec r = false
  · rw [if_pos h1]; exact ⟨rfl, rfl, rfl, h⟩
  · rw [if_neg h1]
    by_cases h2 : j.room < (r.length + 8 : Nat)
    · rw [if_pos h2]; exact ⟨rfl, rfl, rfl, h⟩
    · rw [if_neg h2]
      by_cases h3 : j.down = true
      · rw [if_pos h3]; exact ⟨rfl, rfl, rfl, h⟩
      · rw [if_neg h3]
        simp only
        split
        · refine ⟨rfl, rfl, putF_len _ _ _ _ _ _ _, ?_⟩
          simp only [Jr.room] at h2
          simp only
          omega
        · exact ⟨rfl, rfl, putF_len _ _ _ _ _ _ _, h⟩
/-- what fresh answers -/
def FrPost (w : World) (p g : Nat) (q : (Int × Option Jr) × Sto) (e : Ending) (w' : World) : Prop :=
  ∃ jv, e = .returned (.tuple #[jv, .int .i64 q.1.1]) ∧ StoAt w' p g q.2 ∧ Keeps (stoF p g) w w' ∧ (q.1.2 = none → jv = .pointer none) ∧ ∀ j, q.1.2 = some j → ∃ jp lv l, jv = ptr jp ∧ JAt w.heap.size w' jp p j lv l ∧ PartOk q.2 j.from_ j.n ∧ j.fin ≤ 32 * j.n

/-- the second loop's state -/
structure FrRel (w : World) (p g : Nat) (recs : List Bytes) (whole : Int × Jr × Sto) (k : Nat) (e : Int) (jp : Nat) (j : Jr) (st : Sto) (lv : Value) (l : List Bytes) (W : World) : Prop where
  sto : StoAt W p g st
  jr : JAt w.heap.size W jp p j lv l
  keep : Keeps (stoF p g) w W
  fin_ : whole = if e = 0 then appendAll (recs.drop k) j st else (e, j, st)
  ok : PartOk st j.from_ j.n
  fl : j.fin ≤ 32 * j.n

set_option maxHeartbeats 1000000 in
set_option maxRecDepth 20000 in
theorem fresh_any (w : World) (p g k : Nat) (s : Sto) (A : Option Addr) (c : Nat) (recs : List Bytes) (h : StoAt w p g s) (hk : k ≤ 1) (h4 : 4 ≤ s.blocks.length) (hr : Rd w A (strs recs)) (hA : ∀ a, A = some a → ¬ stoF p g a.block) (hl : recs.length ≤ 1000000) (hrl : ∀ x ∈ recs, x.length ≤ 1000000) :
    Calls Tryd.prog 22 #[ptr p, .int .i64 (k : Int), .slice A recs.length c] w (FrPost w p g (fresh k recs s)) := by
  obtain ⟨n, hn⟩ : ∃ n, n = s.blocks.length / 2 := ⟨_, rfl⟩
  obtain ⟨b, hb⟩ : ∃ b, b = k * n := ⟨_, rfl⟩
  have hhi := h.wf.hi
  have hbn : b + n ≤ s.blocks.length := by rcases (show k = 0 ∨ k = 1 by omega) with rfl | rfl <;> omega
  have hn2 : 2 ≤ n := by omega
  obtain ⟨wp, hwp⟩ : ∃ q, q = wipeF n b s := ⟨_, rfl⟩
  have hlenN : s.blocks.length = s.blocks.length := rfl
  have HH := Lib.hid (And.intro h (And.intro hn (And.intro hb (And.intro hwp (And.intro hr hA)))))
  clear h hn hb hr hA hlenN hwp
  go_enter Tryd.func22, Tryd.ntmps22
  go_wp2_with fail
  refine (hblocks_any w p g k s HH.out.1 hk).mono ?_
  rintro e w1 ⟨rfl, rfl⟩
  rw [← HH.out.2.1, ← HH.out.2.2.1]
  go_wp2_with fail
  refine (repeat_any 32 w (by omega)).mono ?_
  rintro e w1 ⟨rfl, hb1⟩
  have HB1 := Lib.hid hb1
  clear hb1
  obtain ⟨zz, hzz⟩ : ∃ zz, zz = zeros 32 := ⟨_, rfl⟩
  rw [← hzz]
  have HZ := Lib.hid hzz
  clear hzz
  go_wp2_with fail
  go_loopg [11] (n + 1) (fun f v wr => ∃ (i : Nat) (st : Sto), i + f = b + n + 1 ∧ b ≤ i ∧ i ≤ b + n ∧ v = .int .i64 (i : Int) ∧ StoAt wr p g st ∧ st.blocks.length = s.blocks.length ∧ Keeps (stoF p g) w wr ∧ wp = wipeF (b + n - i) i st)
  case atStart => exact ⟨b, s, by omega, by omega, by omega, rfl, HH.out.1.below HB1.out, rfl, .of_below HB1.out, by rw [HH.out.2.2.2.1, show b + n - b = n by omega]⟩
  case round =>
    obtain ⟨i, st, hi, hib, hin, rfl, hst, hsl, hkp, hw⟩ := hrel
    have hsl' : st.blocks.length ≤ 256 := by omega
    have HR := Lib.hid (And.intro hst (And.intro hsl (And.intro hkp hw)))
    clear hst hsl hkp hw
    by_cases hlt : i < b + n
    · have hl1 : i * 32 + 32 ≤ st.bytes.length := by rw [HR.out.1.wf.size, HR.out.2.1]; omega
      have hex := ext_bytes HR.out.1.wf i (by rw [HR.out.2.1]; omega)
      have e1 : ((i : Int) * 32 + 32).toNat = i * 32 + 32 := by omega
      have hfu : b + n - i = (b + n - (i + 1)) + 1 := by omega
      by_cases hz : st.blk i = zeros 32
      · have hq : (st.blk i == zz) = true := by rw [HZ.out]; simpa using hz
        have HW := Lib.hid (show wp = wipeF (b + n - (i + 1)) (i + 1) st from by rw [HR.out.2.2.2, hfu]; exact wipe_step hz)
        clear hz hfu
        go_wp2_with fail
        refine (bytes_any wr p g st HR.out.1).mono ?_
        rintro e w2 ⟨rfl, hb2⟩
        have HB2 := Lib.hid hb2
        clear hb2
        go_wp2_with fail
        go_roundg (gk - 1)
        case measure => omega
        case rel => exact ⟨i + 1, st, by omega, by omega, by omega, by go_num, HR.out.1.below HB2.out, HR.out.2.1, HR.out.2.2.1.below HB2.out, HW.out⟩
      · have hq : (st.blk i == zz) = false := by rw [HZ.out]; simpa using hz
        have HN := Lib.hid (And.intro hz hfu)
        clear hz hfu
        go_wp2_with fail
        refine (bytes_any wr p g st HR.out.1).mono ?_
        rintro e w2 ⟨rfl, hb2⟩
        have HB2 := Lib.hid hb2
        clear hb2
        go_wp2_with fail
        refine (write_any w2 p g st i zz (HR.out.1.below HB2.out)).mono ?_
        rintro e w3 ⟨rfl, hst3, hk3⟩
        have hw1 := @wipe_go (b + n - (i + 1)) i st HN.out.1
        have hw2 := @wipe_err (b + n - (i + 1)) i st HN.out.1
        rw [← HN.out.2, ← HR.out.2.2.2] at hw1 hw2
        have hbl := write_len_same st (i : Nat) zz
        rw [← HZ.out] at hw1 hw2
        generalize write st (i : Nat) zz = pr at *
        obtain ⟨r, st3⟩ := pr
        simp only at hst3 hw1 hw2 hbl ⊢
        have hkw : Keeps (stoF p g) w w3 := (HR.out.2.2.1.below HB2.out).trans hk3
        have HF := Lib.hid (And.intro hst3 (And.intro hw1 (And.intro hw2 (And.intro hbl hkw))))
        clear hst3 hk3 hw1 hw2 hbl hkw
        by_cases hr : r = 0
        · subst hr
          have HW1 := Lib.hid (HF.out.2.1 rfl)
          go_wp2_with fail
          go_roundg (gk - 1)
          case measure => omega
          case rel => exact ⟨i + 1, st3, by omega, by omega, by omega, by go_num, HF.out.1, by rw [HF.out.2.2.2.1]; exact HR.out.2.1, HF.out.2.2.2.2, HW1.out⟩
        · have hr' : (r != 0) = true := by simpa using hr
          have HRR := Lib.hid hr
          clear hr
          go_wp2
          go_ret2
          have hfr : fresh k recs s = ((r, none), st3) := by
            have := HF.out.2.2.1 HRR.out
            rw [HH.out.2.2.2.1] at this
            unfold fresh
            simp only
            rw [← HH.out.2.1, ← HH.out.2.2.1, this, if_neg HRR.out]
          rw [hfr]
          exact ⟨_, rfl, HF.out.1, HF.out.2.2.2.2, fun _ => rfl, fun j hj => by cases hj⟩
    · have hib2 : i = b + n := by omega
      have hw0 := HR.out.2.2.2
      rw [hib2, Nat.sub_self, wipeF] at hw0
      have HW := Lib.hid hw0
      clear hw0 hib2
      go_wp2_with fail
      have hpo : PartOk st b n := ⟨by omega, by rw [HR.out.2.1]; exact hbn⟩
      refine (part_any wr p g b n st HR.out.1 hpo).mono ?_
      rintro e w2 (⟨hq, jp, lv, v2, rfl, hj, hst2, hk2⟩ | ⟨hq, rfl, hst2, hk2⟩)
      · have hpl := (part_len b n st)
        generalize hpr : Hv.part b n st = pr at *
        obtain ⟨⟨r, l, fin⟩, st2⟩ := pr
        simp only at hq hj hst2 hpl
        subst hq
        have hkw := HR.out.2.2.1.trans hk2
        have hpo2 : PartOk st2 b n := ⟨by omega, by rw [hpl.1]; exact hpo.le⟩
        have hfr : fresh k recs s = (((appendAll recs ⟨b, n, fin, false⟩ st2).1, some (appendAll recs ⟨b, n, fin, false⟩ st2).2.1), (appendAll recs ⟨b, n, fin, false⟩ st2).2.2) := by
          have hw' := HW.out
          rw [HH.out.2.2.2.1] at hw'
          unfold fresh
          simp only
          rw [← HH.out.2.1, ← HH.out.2.2.1, hw', if_pos rfl, hpr, if_pos rfl]
        generalize hwhole : appendAll recs ⟨b, n, fin, false⟩ st2 = whole at hfr
        have HFr := Lib.hid hfr
        have HS : Hid (FrRel w p g recs whole 0 0 jp ⟨b, n, fin, false⟩ st2 lv l w2) := ⟨hst2, ⟨hj.blk, hj.own.base HR.out.2.2.1.size, hj.ne, Nat.le_trans HR.out.2.2.1.size hj.ge, hj.len⟩, hkw, by rw [if_pos rfl, List.drop_zero, hwhole], hpo2, by simp only; have := hpl.2; have := partBytes_len HR.out.1.wf b n hpo.le; omega⟩
        clear hj hst2 hk2 hkw hpl hpo2 hfr hwhole
        go_wp2_with fail
        go_loopg [16, 61] (recs.length + 1) (fun f v16 v61 W => ∃ (q : Nat) (e : Int) (j : Jr) (st : Sto) (lv : Value) (l : List Bytes), q + f = recs.length + 1 ∧ q ≤ recs.length ∧ v16 = .int .i64 e ∧ v61 = .int .i64 (q : Int) ∧ FrRel w p g recs whole q e jp j st lv l W)
        case atStart => exact ⟨0, 0, _, _, _, _, by omega, by omega, rfl, rfl, HS.out⟩
        case round =>
          obtain ⟨q, e, j, st5, lv5, l5, hqf, hql, rfl, rfl, hrel5⟩ := hrel
          have HL := Lib.hid hrel5
          clear hrel5
          by_cases hlt : q < recs.length
          · obtain ⟨bA, oA, hAe, hcell⟩ := HH.out.2.2.2.2.1.at_ q (by rw [strs_length]; exact hlt)
            have hnA := HH.out.2.2.2.2.2 _ hAe
            have hcq := hcell q (by rw [strs_length]; exact hlt)
            have hck : wr.cell? ⟨bA, oA + q, none⟩ = some (str recs[q]) := by
              rw [HL.out.keep.cell hcq (by simpa [stoF] using hnA)]; simp [strs]
            subst hAe
            have hxl := hrl recs[q] (by simp)
            have hdr : recs.drop q = recs[q] :: recs.drop (q + 1) := List.drop_eq_getElem_cons hlt
            have hfin := HL.out.fin_
            rw [hdr] at hfin
            generalize recs[q] = x at *
            have HF := Lib.hid hfin
            clear hcell hcq hdr hfin hnA
            by_cases he : e = 0
            · subst he
              have hfin := HF.out
              rw [if_pos rfl, appendAll] at hfin
              have HFin := Lib.hid hfin
              have hjl := HL.out.ok.le
              have hw5 := HL.out.sto.wf.hi
              have hfl := HL.out.fl
              clear hfin
              have hlt0 := HH.out.1.lt
              have hjge := HL.out.jr.ge
              have hbase := HL.out.keep.size
              have hne1 : ¬ stoF p g jp := by simp only [stoF]; omega
              have hne2 : ∀ kk, lv5.ownBlock = some kk → ¬ stoF p g kk := fun kk hkk => by
                have := (World.ownsRow.lt HL.out.jr.own kk hkk).1
                simp only [stoF]; omega
              have happ := append_any (r := x) HL.out.sto HL.out.jr hxl HL.out.ok (by omega) hbase hne1 hne2
              have hinv := appendJ_inv j x st5 HL.out.fl
              have HA := Lib.hid (And.intro happ hinv)
              clear happ hinv hne1 hne2 hjge hlt0
              go_wp2_with fail
              refine HA.out.1.mono ?_
              rintro e w3 ⟨rfl, hst3, ⟨lv', l', hj3, hmv⟩, hk3⟩
              have hkw : Keeps (stoF p g) w w3 := HL.out.keep.step hk3 (fun i hi hh => by
                rcases hh with hh | hh | hh
                · exact hh
                · have := HL.out.jr.ge; omega
                · have := (World.ownsRow.lt HL.out.jr.own i hh).1; omega)
              have hrel' : FrRel w p g recs whole (q + 1) (appendJ j x st5).1 jp (appendJ j x st5).2.1 (appendJ j x st5).2.2 lv' l' w3 :=
                ⟨hst3, hj3, hkw, by rw [HFin.out], ⟨by rw [HA.out.2.2.1]; exact HL.out.ok.n1, by rw [HA.out.2.1, HA.out.2.2.1, HA.out.2.2.2.1]; exact HL.out.ok.le⟩, HA.out.2.2.2.2⟩
              have HR' := Lib.hid hrel'
              clear hrel' hst3 hj3 hmv hk3 hkw
              generalize (appendJ j x st5).1 = e' at *
              go_wp2_with fail
              go_roundg (gk - 1)
              case measure => omega
              case rel => exact ⟨q + 1, e', _, _, lv', l', by omega, by omega, rfl, by go_num, HR'.out⟩
            · have he' : (e == 0) = false := by simpa using he
              have HFin := Lib.hid (show whole = if e = 0 then appendAll (recs.drop (q + 1)) j st5 else (e, j, st5) from by rw [if_neg he]; have := HF.out; rw [if_neg he] at this; exact this)
              clear he
              go_wp2_with fail
              go_roundg (gk - 1)
              case measure => omega
              case rel => exact ⟨q + 1, e, j, st5, lv5, l5, by omega, by omega, rfl, by go_num, { HL.out with fin_ := HFin.out }⟩
          · have hqe : q = recs.length := by omega
            have hfin := HL.out.fin_
            rw [hqe, List.drop_length] at hfin
            have hw3 : whole = (e, j, st5) := by
              rw [hfin]
              split
              · rename_i h0; rw [h0]; rfl
              · rfl
            have HW3 := Lib.hid hw3
            clear hqe hfin hw3
            go_wp2
            go_ret2
            rw [HFr.out, HW3.out]
            exact ⟨_, rfl, HL.out.sto, HL.out.keep, (fun hh => by cases hh), fun j' hj' => by cases hj'; exact ⟨jp, lv5, l5, rfl, HL.out.jr, HL.out.ok, HL.out.fl⟩⟩
      · have hfr : fresh k recs s = (((Hv.part b n st).1.1, none), (Hv.part b n st).2) := by
          have hw' := HW.out
          rw [HH.out.2.2.2.1] at hw'
          unfold fresh
          simp only
          rw [← HH.out.2.1, ← HH.out.2.2.1, hw', if_pos rfl, if_neg hq]
        have hkw := HR.out.2.2.1.trans hk2
        generalize (Hv.part b n st).1.1 = r at *
        generalize (Hv.part b n st).2 = st2 at *
        have HS := Lib.hid (And.intro hst2 (And.intro hkw (And.intro hq hfr)))
        have hq' : (r == 0) = false := by simpa using hq
        clear hst2 hk2 hkw hfr hq
        go_wp2_with fail
        go_loopg [16, 61] (recs.length + 1) (fun f v16 v61 W => ∃ (q : Nat), q + f = recs.length + 1 ∧ q ≤ recs.length ∧ v16 = .int .i64 r ∧ v61 = .int .i64 (q : Int) ∧ W = w2)
        case atStart => exact ⟨0, by omega, by omega, rfl, rfl, rfl⟩
        case round =>
          obtain ⟨q, hqf, hql, rfl, rfl, rfl⟩ := hrel
          by_cases hlt : q < recs.length
          · obtain ⟨bA, oA, hAe, hcell⟩ := HH.out.2.2.2.2.1.at_ q (by rw [strs_length]; exact hlt)
            have hnA := HH.out.2.2.2.2.2 _ hAe
            have hcq := hcell q (by rw [strs_length]; exact hlt)
            have hck : wr.cell? ⟨bA, oA + q, none⟩ = some (str recs[q]) := by
              rw [HS.out.2.1.cell hcq (by simpa [stoF] using hnA)]; simp [strs]
            subst hAe
            clear hcell hcq hnA
            go_wp2_with fail
            go_roundg (gk - 1)
            case measure => omega
            case rel => exact ⟨q + 1, by omega, by omega, rfl, by go_num, rfl⟩
          · go_wp2
            go_ret2
            rw [HS.out.2.2.2]
            exact ⟨_, rfl, HS.out.1, HS.out.2.1, fun _ => rfl, fun j hj => by cases hj⟩
end Go.Proofs.YtoldogkfeimojaaDoor.Hv
