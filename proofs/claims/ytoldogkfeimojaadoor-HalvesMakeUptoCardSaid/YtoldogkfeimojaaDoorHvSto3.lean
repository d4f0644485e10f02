/- One step of the proof of a statement of this seat: plain laws and walks of the store, log, journal and halves packages; no condition. -/
import Derived.Test.YtoldogkfeimojaaDoorHvSto2
import Derived.Test.YtoldogkfeimojaaDoorHvBld
set_option linter.unusedVariables false
set_option linter.unusedSimpArgs false
open Go.RowKit
namespace Go.Proofs.YtoldogkfeimojaaDoor.Hv
open Go.Proofs.Hv Go.Proofs.Mem

theorem info95 : (Tryd.prog.info? 95).map (·.size) = some 32 := by kernel_rfl
theorem take_succ_flat (l : List Bytes) (k : Nat) (h : k < l.length) : (l.take (k + 1)).flatten = (l.take k).flatten ++ l.getD k [] := by
  rw [List.take_succ_eq_append_getElem h, List.flatten_append, List.getD_eq_getElem?_getD, List.getElem?_eq_getElem h]
  simp
theorem take_flat_len (l : List Bytes) (hl : ∀ i, i < l.length → (l.getD i []).length = 32) (k : Nat) (hk : k ≤ l.length) : (l.take k).flatten.length = 32 * k := by
  have := flat_len (l.take k) (fun i hi => by
    have h1 : i < k ∧ i < l.length := by rw [List.length_take] at hi; omega
    have := hl i h1.2
    simpa [List.getD_eq_getElem?_getD, List.getElem?_take, h1.1] using this)
  rw [this, List.length_take]
  omega
theorem blk_flat (l : List Bytes) (hl : ∀ i, i < l.length → (l.getD i []).length = 32) (i : Nat) (hi : i < l.length) : (l.flatten.drop (i * 32)).take 32 = l.getD i [] := by
  have e : l.flatten = (l.take i).flatten ++ (l.drop i).flatten := by rw [← List.flatten_append, List.take_append_drop]
  rw [e, List.drop_append, List.drop_of_length_le (by rw [take_flat_len l hl i (by omega)]; omega), take_flat_len l hl i (by omega), show i * 32 - 32 * i = 0 by omega, List.drop_zero, List.nil_append]
  have h32 := hl i hi
  rw [List.getD_eq_getElem?_getD, List.getElem?_eq_getElem hi] at h32 ⊢
  rw [List.drop_eq_getElem_cons hi, List.flatten_cons, List.take_append_of_le_length (by simp at h32; omega), List.take_of_length_le (by simp at h32; omega)]
  rfl
theorem blk_cells {s : Sto} (h : SWf s) (i : Nat) (hi : i < s.blocks.length) : u8s (s.blk i) = ((u8s s.bytes).drop (i * 32)).take 32 := by
  have := blk_flat s.blocks h.each i hi
  unfold Sto.blk Sto.bytes
  rw [← this, u8s, u8s, List.map_take, List.map_drop]
set_option maxHeartbeats 400000 in
set_option maxRecDepth 20000 in
theorem bytes_any (w : World) (p g : Nat) (s : Sto) (h : StoAt w p g s) :
    Calls Tryd.prog 36 #[ptr p] w (RetB (str s.bytes) w) := by
  obtain ⟨k0, ht⟩ := h.top
  have c0 := ht.cell0
  have hhi := h.wf.hi
  have hlt := h.lt
  have HH := Lib.hid h
  clear ht h
  go_enter Tryd.func36, Tryd.ntmps36
  go_wp2_with fail
  go_loopg [11] (s.blocks.length + 1) (fun f v wr => ∃ k : Nat, k + f = s.blocks.length + 1 ∧ k ≤ s.blocks.length ∧ v = .int .i64 k ∧ Bld w.heap.size wr w.heap.size ((s.blocks.take k).flatten) ∧ Below w.heap.size w wr)
  case atStart => exact ⟨0, by omega, by omega, rfl, Bld.new (Nat.le_refl _), (Below.refl _ _).alloc (Nat.le_refl _) _⟩
  case round =>
    obtain ⟨k, hk, hkl, rfl, hbl, hbw⟩ := hrel
    have HB := Lib.hid (And.intro hbl hbw)
    clear hbl hbw
    by_cases hlt : k < s.blocks.length
    · go_wp2_with (first | (refine wp_loadSeg rfl _ _ rfl g (k * 32) rfl 95 (u8s s.bytes) (u8s (s.blk k)) _ (HH.out.below HB.out.2).row Tryd.underlying95 rfl 32 info95 (by rw [u8s_length]; exact HH.out.wf.each k hlt) (blk_cells HH.out.wf k hlt) ?_) | (refine wp_storeNew (w := wr) rfl _ _ _ rfl (u8s (s.blk k)) rfl rfl 95 _ 32 info95 (by rw [u8s_length]; exact HH.out.wf.each k hlt) (by rfl) (u8s_one _) ?_))
      intro w1 hb1 hbw1 hs1
      have HN := Lib.hid (And.intro hb1 hbw1)
      clear hb1 hbw1
      go_wp2_with fail
      have hszr := HB.out.2.size
      have hl32 := HH.out.wf.each k hlt
      have htl := take_flat_len s.blocks HH.out.wf.each k hkl
      have HL := Lib.hid (And.intro hl32 htl)
      clear hl32 htl
      refine (bwrite_any w.heap.size w.heap.size _ (s.blk k) (some ⟨wr.heap.size, 0, none⟩) 32 w1 (HB.out.1.below HN.out.2) HN.out.1.rd (fun h => by cases h) (by rintro a ⟨⟩; have := HB.out.1.lt; simp only [ne_eq]; omega) (by rw [HL.out.1, HL.out.2]; omega) (by omega) 32 HL.out.1.symm).mono ?_
      rintro e w2 ⟨⟨v2, rfl⟩, hbl2, hbw2⟩
      have hrel2 : Bld w.heap.size w2 w.heap.size ((s.blocks.take (k + 1)).flatten) ∧ Below w.heap.size w w2 := by
        refine ⟨?_, HB.out.2.trans ((HN.out.2.mono (by omega)).trans hbw2)⟩
        rw [take_succ_flat s.blocks k hlt]
        exact hbl2
      have HR := Lib.hid hrel2
      clear hrel2 hbl2 hbw2
      go_wp2_with fail
      go_roundg (gk - 1)
      case measure => omega
      case rel => exact ⟨k + 1, by omega, by omega, by go_num, HR.out⟩
    · have hkk : s.blocks.take k = s.blocks := List.take_of_length_le (by omega)
      have hbld := HB.out.1
      rw [hkk] at hbld
      have HD := Lib.hid hbld
      have hszr := HB.out.2.size
      clear hkk hbld
      go_wp2_with fail
      refine (Tryd.Builder_String_any w.heap.size w.heap.size s.bytes wr HD.out hszr).mono ?_
      rintro e w2 ⟨rfl, hb2⟩
      have HE := Lib.hid (HB.out.2.trans hb2)
      clear hb2
      go_wp2
      go_ret
      exact ⟨rfl, HE.out⟩
end Go.Proofs.YtoldogkfeimojaaDoor.Hv
