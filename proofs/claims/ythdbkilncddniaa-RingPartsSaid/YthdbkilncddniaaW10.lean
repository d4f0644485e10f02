/- One step of the proof of a statement of this seat: plain laws and walks of the ring package; no condition. -/
import Derived.Test.YthdbkilncddniaaW9
set_option linter.unusedVariables false
set_option linter.unusedSimpArgs false
open Go.RowKit
namespace Go.Proofs.Ythdbkilncddniaa.Ring
open RingM Go.Proofs.Mem

theorem ints_cast (l : List Nat) : ints (RingM.cast l) = vints l := by
  unfold ints RingM.cast vints
  rw [List.map_map]
  rfl
theorem cast_length (l : List Nat) : (RingM.cast l).length = l.length := by simp [RingM.cast]
theorem rdI_of {w : World} {A : Option Addr} {l : List Int} (h : Rd w A (ints l)) : RdI w A l :=
  ⟨fun i hi => by
    obtain ⟨b, o, e, hc⟩ := h.at_ i (by rw [ints_length]; exact hi)
    refine ⟨b, o, e, fun j hj => ?_⟩
    rw [hc j (by rw [ints_length]; exact hj)]
    simp [ints, nth, List.getD_eq_getElem?_getD, hj]⟩
theorem rdI_of_nat {w : World} {A : Option Addr} {l : List Nat} (h : Rd w A (vints l)) : RdI w A (RingM.cast l) := rdI_of (by rw [ints_cast]; exact h)

theorem reach_le (n : Net) (k : Int) : (reach n k).length ≤ n.length := by
  refine nodup_le ((asc_reach n k).imp fun h e => by omega) fun v hv => ?_
  unfold reach at hv
  split at hv
  · rename_i h
    obtain ⟨s, e, hl, _⟩ := reach_loop n k.toNat
    rw [e] at hv
    have := (List.mem_filter.1 hv).1
    rw [List.mem_range] at this
    simp only [Option.getD_some] at this
    omega
  · cases hv

theorem loops_contains (n : Net) (k : Nat) : (RingM.cast (reach n (k : Int))).contains (k : Int) = loops n (k : Int) := by
  rw [Bool.eq_iff_iff, List.contains_iff_mem, mem_cast, loops_iff, mem_reach]

theorem loops_any (A : Option Addr) (n : Net) (c k : Nat) (w : World) (hs : Small n) (hk : k < n.length) (hA : RdN w A n) :
    Calls Try.prog 11 #[.slice A n.length c, .int .i64 k] w (Tells w (loops n (k : Int))) := by
  have HL := Lib.hid (loops_contains n k)
  have hl := hs.len
  have hle := reach_le n (k : Int)
  go_enter Try.func11, Try.ntmps11
  go_wp2_with fail
  refine (reach_in A n c k w hs hk hA).mono ?_
  rintro e w1 ⟨A1, c1, rfl, _, hr1, hb1⟩
  have hr := rdI_of_nat hr1
  have hcl := cast_length (reach n (k : Int))
  have hcon := contains_any A1 (RingM.cast (reach n (k : Int))) c1 (k : Int) w1 (by omega) hr
  rw [hcl, HL.out] at hcon
  clear hcl
  go_wp2_with fail
  refine hcon.mono ?_
  rintro e w2 ⟨rfl, rfl⟩
  go_wp2
  go_ret
  exact ⟨rfl, hb1⟩
end Go.Proofs.Ythdbkilncddniaa.Ring
