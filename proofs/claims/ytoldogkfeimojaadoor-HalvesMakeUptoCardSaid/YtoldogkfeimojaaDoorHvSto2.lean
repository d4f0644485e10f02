/- One step of the proof of a statement of this seat: plain laws and walks of the store, log, journal and halves packages; no condition. -/
import Derived.Test.YtoldogkfeimojaaDoorHvSto1
import Derived.Deep.RegionLaw
set_option linter.unusedVariables false
set_option linter.unusedSimpArgs false
open Go.RowKit
namespace Go.Proofs.YtoldogkfeimojaaDoor.Hv
open Go.Proofs.Hv Go.Proofs.Mem

theorem flat_len (l : List Bytes) (hl : ∀ i, i < l.length → (l.getD i []).length = 32) : l.flatten.length = 32 * l.length := by
  induction l with
  | nil => rfl
  | cons b l ih =>
    have h0 := hl 0 (by simp)
    have := ih (fun i hi => by have := hl (i + 1) (by simp; omega); simpa using this)
    simp at h0
    simp [h0, this]
    omega
theorem flat_set (l : List Bytes) (hl : ∀ i, i < l.length → (l.getD i []).length = 32) (i : Nat) (hi : i < l.length) (c : Bytes) (hc : c.length ≤ 32) :
    splice l.flatten (i * 32) c = (l.set i (c ++ (l.getD i []).drop c.length)).flatten := by
  induction l generalizing i with
  | nil => simp at hi
  | cons b l ih =>
    have h0 := hl 0 (by simp)
    simp at h0
    cases i with
    | zero =>
      simp only [splice, Nat.zero_mul, List.take_zero, List.nil_append, Nat.zero_add, List.flatten_cons, List.set_cons_zero, List.getD_cons_zero]
      rw [List.drop_append, show c.length - b.length = 0 by omega]
      simp
    | succ i =>
      have := ih (fun i hi => by have := hl (i + 1) (by simp; omega); simpa using this) i (by simpa using hi)
      simp only [splice] at this ⊢
      have e1 : (i + 1) * 32 = 32 + i * 32 := by omega
      rw [List.flatten_cons, e1, List.take_append, List.drop_append, List.take_of_length_le (show b.length ≤ 32 + i * 32 by omega), List.drop_of_length_le (show b.length ≤ 32 + i * 32 + c.length by omega)]
      rw [show 32 + i * 32 - b.length = i * 32 by omega, show 32 + i * 32 + c.length - b.length = i * 32 + c.length by omega]
      simp only [List.nil_append, List.append_assoc, List.set_cons_succ, List.flatten_cons, List.getD_cons_succ]
      rw [this]
theorem splice_u8s (a c : Bytes) (o : Nat) : splice (u8s a) o (u8s c) = u8s (splice a o c) := by simp [splice, u8s]
theorem SWf.set {s : Sto} (h : SWf s) {i : Nat} {b : Bytes} (hb : b.length = 32) {f : Int} (h1 : -1 ≤ f) (h2 : f ≤ 9223372036854775807) (q : Nat) (hq : q ≤ 32) (d : Bool) : SWf ⟨s.blocks.set i b, f, q, d⟩ :=
  ⟨by simpa using h.lo, by simpa using h.hi, fun j hj => by
    have hj' : j < s.blocks.length := by simpa using hj
    simp only [Sto.blk, List.getD_eq_getElem?_getD, List.getElem?_set]
    by_cases e : i = j
    · subst e; simp [hj', hb]
    · have := h.each j hj'
      simpa [e, Sto.blk, List.getD_eq_getElem?_getD] using this, h1, h2, hq⟩
theorem SWf.size {s : Sto} (h : SWf s) : s.bytes.length = 32 * s.blocks.length := flat_len _ h.each

theorem write_may (w : World) (p g : Nat) (s : Sto) (i : Int) (d : Bytes) (h : StoAt w p g s) (hm : mayV s i ≠ 0) :
    Calls Tryd.prog 37 #[ptr p, .int .i64 i, str d] w (StoPost w p g (write s i d).2 (.int .i64 (write s i d).1)) := by
  have hw : write s i d = (mayV s i, s) := by
    unfold mayV at hm ⊢; unfold write
    by_cases h1 : s.down = true
    · simp [h1]
    · rw [if_neg h1] at hm ⊢
      by_cases h2 : i < 0 ∨ (s.blocks.length : Int) ≤ i
      · simp [h1, h2]
      · simp [h2] at hm
  rw [hw]
  have hm' : (mayV s i != 0) = true := by simpa using hm
  have hc := may_any w p g s i h
  have HC := Lib.hid hc
  have HH := Lib.hid h
  clear hc h hw hm
  generalize mayV s i = m at *
  go_enter Tryd.func37, Tryd.ntmps37
  go_wp2_with (go_at_call 53; refine HC.out.mono ?_; rintro e w' ⟨rfl, rfl⟩)
  go_ret
  exact ⟨rfl, HH.out, Keeps.refl _ _⟩

theorem write_len (w : World) (p g : Nat) (s : Sto) (i : Int) (d : Bytes) (h : StoAt w p g s) (hm : mayV s i = 0) (hd : d.length ≠ 32) :
    Calls Tryd.prog 37 #[ptr p, .int .i64 i, str d] w (StoPost w p g (write s i d).2 (.int .i64 (write s i d).1)) := by
  have hw : write s i d = (1, s) := by
    unfold mayV at hm; unfold write
    by_cases h1 : s.down = true
    · simp [h1] at hm
    · rw [if_neg h1] at hm ⊢
      by_cases h2 : i < 0 ∨ (s.blocks.length : Int) ≤ i
      · simp [h2] at hm
      · simp [h2, hd]
  rw [hw]
  have hd' : ((d.length : Int) != 32) = true := by simp; omega
  have hc := may_any w p g s i h
  rw [hm] at hc
  have HC := Lib.hid hc
  have HH := Lib.hid h
  clear hc h hw hm hd
  go_enter Tryd.func37, Tryd.ntmps37
  go_wp2_with (go_at_call 53; refine HC.out.mono ?_; rintro e w' ⟨rfl, rfl⟩)
  go_ret
  exact ⟨rfl, HH.out, Keeps.refl _ _⟩

theorem write_close {w w1 : World} {p g i : Nat} {s : Sto} {d : Bytes} {k k' f : Int} (h : StoAt w p g s) (ht : Blk w p 45 (stoCells g s k)) (hdn : s.down = false) (hi : i < s.blocks.length) (hd : d.length = 32)
    (hb1 : Blk w1 g 95 (splice (u8s s.bytes) (i * 32) (u8s d))) (hk1 : Keeps (fun k => k = g) (w.setCell ⟨p, 1, none⟩ (.int .i64 f)) w1) (hf : f = max (s.fuse - 1) (-1)) :
    StoPost w p g ⟨s.blocks.set i d, max (s.fuse - 1) (-1), s.pre, false⟩ (.int .i64 0) (.returned (.int .i64 0)) (w1.setCell ⟨p, 4, none⟩ (.int .i64 k')) := by
  subst hf
  have hbt := (ht.set 1 (.int .i64 (max (s.fuse - 1) (-1)))).keeps hk1 h.ne
  have hwf := h.wf
  have h1 := hwf.fuse
  have h2 := hwf.fuse'
  refine ⟨rfl, ⟨hwf.set hd (by omega) (by omega) _ hwf.pre _, ⟨k', ?_⟩, ?_, h.ne⟩, ?_⟩
  · have := hbt.set 4 (.int .i64 k')
    simpa [stoCells, hdn] using this
  · have e : splice (u8s s.bytes) (i * 32) (u8s d) = u8s (Sto.bytes ⟨s.blocks.set i d, max (s.fuse - 1) (-1), s.pre, false⟩) := by
      rw [splice_u8s]
      have := flat_set s.blocks hwf.each i hi d (by omega)
      rw [List.drop_of_length_le (show (s.blocks.getD i []).length ≤ d.length by have := hwf.each i hi; simp only [Sto.blk] at this; omega), List.append_nil] at this
      unfold Sto.bytes
      rw [this]
    rw [← e]
    exact hb1.other _ _ (Ne.symm h.ne)
  · exact Keeps.setCell (Keeps.step ((Keeps.refl _ w).setCell (by simp [stoF]) _) hk1 (fun j _ e => .inr e)) (by simp [stoF]) _

set_option maxRecDepth 20000 in
set_option maxHeartbeats 400000 in
theorem write_whole (w : World) (p g : Nat) (s : Sto) (i : Nat) (d : Bytes) (h : StoAt w p g s) (hdn : s.down = false) (hi : i < s.blocks.length) (hd : d.length = 32) (hf : s.fuse ≠ 0) :
    Calls Tryd.prog 37 #[ptr p, .int .i64 (i : Int), str d] w (StoPost w p g (write s i d).2 (.int .i64 (write s i d).1)) := by
  have hm : mayV s i = 0 := by
    unfold mayV; rw [if_neg (by simp [hdn]), if_neg (by omega)]
  have hw : write s i d = (0, ⟨s.blocks.set i d, max (s.fuse - 1) (-1), s.pre, false⟩) := by
    unfold write
    rw [if_neg (by simp [hdn]), if_neg (by omega), if_neg (by simp [hd]), if_neg hf]
    simp
  rw [hw]
  have hc := may_any w p g s i h
  rw [hm] at hc
  have HC := Lib.hid hc
  obtain ⟨k, ht⟩ := h.top
  have hd1 : d.length ≤ 32 := by omega
  have hd' : ((d.length : Int) != 32) = false := by simp; omega
  have hf' : (s.fuse == 0) = false := by simpa using hf
  have hwf := h.wf
  have hsz := hwf.size
  have hlo := hwf.lo
  have hhi := hwf.hi
  have hf1 := hwf.fuse
  have hf2 := hwf.fuse'
  have c0 := ht.cell0
  have c1 := ht.cell1
  have c4 := ht.cell4
  have z1 := ht.free 1
  have z4 := ht.free 4
  have hrow := h.row
  have hne := h.ne
  have HH := Lib.hid (And.intro h (And.intro ht (And.intro hrow (And.intro hd hsz))))
  clear hc h ht hw hm hd hf hrow hsz hwf
  by_cases hq : s.fuse - 1 < -1
  all_goals
    go_enter Tryd.func37, Tryd.ntmps37
    go_wp2_with (first | (go_at_call 53; refine HC.out.mono ?_; rintro e w' ⟨rfl, rfl⟩) | (refine wp_copyString rfl _ _ _ _ rfl 5 Tryd.underlying90 (by kernel_rfl) g (i * 32) 32 32 rfl d rfl hd1 95 (u8s s.bytes) ?b ?fit ?_))
    case b => exact HH.out.2.2.1.other _ _ (Ne.symm hne)
    case fit => rw [u8s_length, HH.out.2.2.2.2]; have := HH.out.2.2.2.1; omega
    intro w1 hb1 hk1
    have hbt := (HH.out.2.1.set 1 _).keeps hk1 hne
    have c4' := hbt.cell 4 (by simp [stoCells])
    have z4' := hbt.free 4
    have HK := Lib.hid (And.intro hb1 (And.intro hk1 hbt))
    clear hb1 hk1 hbt c0 c1 c4 z1 z4
    simp only [stoCells, List.set_cons_succ, List.set_cons_zero, List.getElem_cons_succ, List.getElem_cons_zero] at c4'
    go_wp2
    go_ret
    exact write_close HH.out.1 HH.out.2.1 hdn hi HH.out.2.2.2.1 HK.out.1 HK.out.2.1 (by omega)

theorem torn_close {w w1 : World} {p g i : Nat} {s : Sto} {d : Bytes} {k : Int} (h : StoAt w p g s) (ht : Blk w p 45 (stoCells g s k)) (hi : i < s.blocks.length) (hd : d.length = 32)
    (hb1 : Blk w1 g 95 (splice (u8s s.bytes) (i * 32) (u8s (d.take s.pre)))) (hk1 : Keeps (fun k => k = g) w w1) :
    StoPost w p g ⟨s.blocks.set i (d.take s.pre ++ (s.blk i).drop s.pre), -1, s.pre, true⟩ (.int .i64 16) (.returned (.int .i64 16)) ((w1.setCell ⟨p, 3, none⟩ (.bool true)).setCell ⟨p, 1, none⟩ (.int .i64 (-1))) := by
  have hbt := ht.keeps hk1 h.ne
  have hwf := h.wf
  have hp := hwf.pre
  have hbl := hwf.each i hi
  have htl : (d.take s.pre).length = s.pre := by rw [List.length_take]; omega
  refine ⟨rfl, ⟨hwf.set (by rw [List.length_append, htl, List.length_drop, hbl]; omega) (by omega) (by omega) _ hp _, ⟨k, ?_⟩, ?_, h.ne⟩, ?_⟩
  · have := (hbt.set 3 (.bool true)).set 1 (.int .i64 (-1))
    simpa [stoCells] using this
  · have e : splice (u8s s.bytes) (i * 32) (u8s (d.take s.pre)) = u8s (Sto.bytes ⟨s.blocks.set i (d.take s.pre ++ (s.blk i).drop s.pre), -1, s.pre, true⟩) := by
      rw [splice_u8s]
      have := flat_set s.blocks hwf.each i hi (d.take s.pre) (by omega)
      rw [htl] at this
      unfold Sto.bytes
      rw [this]
      rfl
    rw [← e]
    exact (hb1.other _ _ (Ne.symm h.ne)).other _ _ (Ne.symm h.ne)
  · exact Keeps.setCell (Keeps.setCell (Keeps.step (Keeps.refl _ w) hk1 (fun j _ e => .inr e)) (by simp [stoF]) _) (by simp [stoF]) _

set_option maxRecDepth 20000 in
set_option maxHeartbeats 400000 in
theorem write_torn (w : World) (p g : Nat) (s : Sto) (i : Nat) (d : Bytes) (h : StoAt w p g s) (hdn : s.down = false) (hi : i < s.blocks.length) (hd : d.length = 32) (hf : s.fuse = 0) :
    Calls Tryd.prog 37 #[ptr p, .int .i64 (i : Int), str d] w (StoPost w p g (write s i d).2 (.int .i64 (write s i d).1)) := by
  have hm : mayV s i = 0 := by
    unfold mayV; rw [if_neg (by simp [hdn]), if_neg (by omega)]
  have hw : write s i d = (16, ⟨s.blocks.set i (d.take s.pre ++ (s.blk i).drop s.pre), -1, s.pre, true⟩) := by
    unfold write
    rw [if_neg (by simp [hdn]), if_neg (by omega), if_neg (by simp [hd]), if_pos hf]
    simp
  rw [hw]
  have hc := may_any w p g s i h
  rw [hm] at hc
  have HC := Lib.hid hc
  obtain ⟨k, ht⟩ := h.top
  have hd1 : d.length ≤ 32 := by omega
  have hd2 : 32 ≤ d.length := by omega
  have hd' : ((d.length : Int) != 32) = false := by simp; omega
  have hf' : (s.fuse == 0) = true := by simpa using hf
  have hwf := h.wf
  have hsz := hwf.size
  have hlo := hwf.lo
  have hhi := hwf.hi
  have hp := hwf.pre
  have c0 := ht.cell0
  have c1 := ht.cell1
  have c2 := ht.cell2
  have c3 := ht.cell3
  have z1 := ht.free 1
  have z3 := ht.free 3
  have hrow := h.row
  have hne := h.ne
  have HH := Lib.hid (And.intro h (And.intro ht (And.intro hrow (And.intro hd hsz))))
  have hpd : s.pre ≤ d.length := by omega
  have hex : (⟨d.toArray⟩ : ByteArray).extract 0 s.pre = ⟨(d.take s.pre).toArray⟩ := by rw [bs_extract]; rfl
  have htl : (d.take s.pre).length ≤ 32 := by rw [List.length_take]; omega
  clear hc h ht hw hm hd hf hrow hsz hwf
  go_enter Tryd.func37, Tryd.ntmps37
  go_wp2_with (go_at_call 53; refine HC.out.mono ?_; rintro e w' ⟨rfl, rfl⟩)
  go_region_law (refine step_copyString rfl (.tmp 31) (.tmp 37) 90 9 rfl 5 Tryd.underlying90 (by kernel_rfl) g (i * 32) 32 32 (by simp [Act.eval, Act.put]) (d.take s.pre) (by simp [Act.eval, Act.put]) htl 95 (u8s s.bytes) HH.out.2.2.1 (by rw [u8s_length, HH.out.2.2.2.2]; have := HH.out.2.2.2.1; omega) ?_; intro w1 hb1 hk1)
  all_goals
    have hbt := HH.out.2.1.keeps hk1.un hne
    have y1 := hbt.cell1
    have y3 := hbt.cell3
    have x1 := hbt.free 1
    have x3 := hbt.free 3
    have HK := Lib.hid (And.intro hb1 hk1)
    clear hb1 hk1 hbt c0 c1 c2 c3 z1 z3
    go_wp2
    go_ret
    exact torn_close HH.out.1 HH.out.2.1 hi HH.out.2.2.2.1 HK.out.1 HK.out.2.un

theorem write_any (w : World) (p g : Nat) (s : Sto) (i : Int) (d : Bytes) (h : StoAt w p g s) :
    Calls Tryd.prog 37 #[ptr p, .int .i64 i, str d] w (StoPost w p g (write s i d).2 (.int .i64 (write s i d).1)) := by
  by_cases hm : mayV s i = 0
  · by_cases hd : d.length = 32
    · have hdn : s.down = false := by
        cases h1 : s.down with
        | false => rfl
        | true => simp [mayV, h1] at hm
      have hi : 0 ≤ i ∧ i < s.blocks.length := by
        unfold mayV at hm
        rw [if_neg (by simp [hdn])] at hm
        by_cases h2 : i < 0 ∨ (s.blocks.length : Int) ≤ i
        · rw [if_pos h2] at hm; omega
        · omega
      obtain ⟨j, rfl⟩ := Int.eq_ofNat_of_zero_le hi.1
      by_cases hf : s.fuse = 0
      · exact write_torn w p g s j d h hdn (by omega) hd hf
      · exact write_whole w p g s j d h hdn (by omega) hd hf
    · exact write_len w p g s i d h hm hd
  · exact write_may w p g s i d h hm
end Go.Proofs.YtoldogkfeimojaaDoor.Hv
