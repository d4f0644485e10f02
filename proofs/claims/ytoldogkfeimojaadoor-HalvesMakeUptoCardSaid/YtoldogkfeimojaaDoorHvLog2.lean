/- One step of the proof of a statement of this seat: plain laws and walks of the store, log, journal and halves packages; no condition. -/
import Derived.Test.YtoldogkfeimojaaDoorHvLog1
import Derived.Test.YtoldogkfeimojaaDoorHvStr
set_option linter.unusedVariables false
set_option linter.unusedSimpArgs false
open Go.RowKit
namespace Go.Proofs.YtoldogkfeimojaaDoor.Hv
open Go.Proofs.Hv Go.Proofs.Mem

theorem fold_lt (l : Bytes) {n : Nat} (h : n < 4294967296) : l.foldl crcByte n < 4294967296 := by
  induction l generalizing n with
  | nil => exact h
  | cons c r ih => exact ih (crcByte_lt h c)
theorem crc_lt (l : Bytes) : crc l < 4294967296 := by unfold crc; omega
theorem take_succ_fold (l : Bytes) (k : Nat) (h : k < l.length) (n : Nat) : (l.take (k + 1)).foldl crcByte n = crcByte ((l.take k).foldl crcByte n) l[k] := by
  rw [List.take_succ_eq_append_getElem h, List.foldl_append]; rfl

theorem xor_ones {m : Nat} (h : m < 4294967296) : 4294967295 ^^^ m = 4294967295 - m := by
  have h1 : (BitVec.allOnes 32 ^^^ BitVec.ofNat 32 m).toNat = (~~~(BitVec.ofNat 32 m)).toNat := by rw [BitVec.allOnes_xor]
  rw [BitVec.toNat_xor, BitVec.toNat_not, BitVec.toNat_allOnes, BitVec.toNat_ofNat, Nat.mod_eq_of_lt (by omega)] at h1
  exact h1
theorem xor_max {l : Bytes} (h : l.foldl crcByte 4294967295 < 4294967296) : bits .xor .u32 IntKind.u32.max ((l.foldl crcByte 4294967295 : Nat) : Int) = ((crc l : Nat) : Int) := by
  have e : IntKind.u32.max = ((4294967295 : Nat) : Int) := by decide
  rw [e, u32_xor_nat _ _ (by omega) h, xor_ones h]
  rfl

set_option maxHeartbeats 400000 in
theorem sum_any (s : Bytes) (w : World) (hs : s.length ≤ 1000000) :
    Calls Tryd.prog 56 #[str s] w fun e w' => e = .returned (.int .u32 (crc s : Nat)) ∧ Below w.heap.size w w' := by
  go_enter Tryd.func56, Tryd.ntmps56
  go_wp2_with (refine wp_bytes rfl _ _ _ _ rfl Tryd.underlying9 Tryd.underlying90 Tryd.underlying5 s rfl ?_)
  intro w1 c1 hc1 hr1 hb1 hs1
  have hB : Blk w1 w.heap.size 102 [.int .u32 4294967295] := (Blk.new w 102 [.int .u32 4294967295]).same (hb1.block _ (by omega))
  have hbw : Below w.heap.size w w1 := ((Below.refl _ _).alloc (Nat.le_refl _) _).trans (hb1.mono (by omega))
  have HS : Hid (Blk w1 w.heap.size 102 [.int .u32 4294967295] ∧ Below w.heap.size w w1 ∧ Rd w1 (some ⟨w.heap.size + 1, 0, none⟩) (u8s s)) := ⟨hB, hbw, hr1⟩
  clear hB hbw hr1 hb1
  go_wp2_with fail
  go_loopg [11] (s.length + 1) (fun f v wr => ∃ k : Nat, k + f = s.length + 1 ∧ k ≤ s.length ∧ v = .int .i64 k ∧ Blk wr w.heap.size 102 [.int .u32 ((s.take k).foldl crcByte 4294967295 : Nat)] ∧ Rd wr (some ⟨w.heap.size + 1, 0, none⟩) (u8s s) ∧ Below w.heap.size w wr)
  case atStart => exact ⟨0, by omega, by omega, rfl, HS.out.1, HS.out.2.2, HS.out.2.1⟩
  case round =>
    obtain ⟨k, hk, hkl, rfl, hB, hr, hbw⟩ := hrel
    by_cases hlt : k < s.length
    · have hfl := fold_lt (s.take k) (n := 4294967295) (by omega)
      have hts := take_succ_fold s k hlt 4294967295
      generalize (s.take k).foldl crcByte 4294967295 = m at hB hfl hts
      have HT := Lib.hid hts
      have hcell : wr.cell? ⟨w.heap.size + 1, k, none⟩ = some (.int .u8 (s[k].toNat : Int)) := by
        obtain ⟨b, o, e, hc⟩ := hr.at_ k (by rw [u8s_length]; exact hlt)
        cases e
        have := hc k (by rw [u8s_length]; exact hlt)
        rw [Nat.zero_add, u8s_get s k hlt] at this
        exact this
      have HH := Lib.hid (And.intro hB (And.intro hr hbw))
      clear hts hB hr hbw
      go_wp2_with (go_at_call 66; refine (step_any s[k] m _ _ hfl HH.out.1).mono ?_; rintro e w2 ⟨⟨v, rfl⟩, hB2, hk2⟩)
      obtain ⟨hB, hr, hbw⟩ := HH.out
      go_roundg (gk - 1)
      case measure => omega
      case rel =>
        refine ⟨k + 1, by omega, by omega, by go_num, by rw [HT.out]; exact hB2, hk2.rd hr (by rintro a ⟨⟩; simp), hbw.trans (hk2.to_below _ hbw.size (fun i hi => by omega))⟩
    · have hkk : s.take k = s := List.take_of_length_le (by omega)
      rw [hkk] at hB
      have hc := hB.cell0
      have hx := xor_max (fold_lt s (n := 4294967295) (by omega))
      have hsg : IntKind.u32.signed = false := rfl
      clear hB hkk
      go_wp2
      go_ret
      exact ⟨rfl, hbw⟩
end Go.Proofs.YtoldogkfeimojaaDoor.Hv
