/- One step of the proof of a statement of this seat: plain laws and walks of the store, log, journal and halves packages; no condition. -/
import Derived.Test.YtoldogkfeimojaaDoorHvJr7
import Derived.Test.YtoldogkfeimojaaDoorHvAge
import Derived.WalkSmall
import Derived.Lib.SmallJoins
import Derived.Shelf.Strconv.ErrVarAll
set_option linter.unusedVariables false
set_option linter.unusedSimpArgs false
open Go.RowKit
namespace Go.Proofs.YtoldogkfeimojaaDoor.Hv
open Go.Proofs.Hv Go.Proofs.Mem

/-- what the package variables of the library hold -/
structure Glob (w : World) : Prop where
  tab : Lib.TabIs Tryd.prog w "internal/strconv.uint64pow10" .u64 Lib.pow10Tab
  syn : ∃ tp p, w.var? Tryd.prog "strconv.ErrSyntax" = some #[.iface tp p]
  rng : ∃ tp p, w.var? Tryd.prog "strconv.ErrRange" = some #[.iface tp p]
theorem gTab : Tryd.prog.globalNamed "internal/strconv.uint64pow10" = some 0 := by kernel_rfl
theorem gSyn : Tryd.prog.globalNamed "strconv.ErrSyntax" = some 1 := by kernel_rfl
theorem gRng : Tryd.prog.globalNamed "strconv.ErrRange" = some 2 := by kernel_rfl
theorem Glob.below {w w' : World} (h : Glob w) (hb : Below 3 w w') : Glob w' := by
  obtain ⟨h1, ⟨t2, p2, h2⟩, ⟨t3, p3, h3⟩⟩ := h
  exact ⟨var?_below hb gTab (by decide) h1, ⟨t2, p2, var?_below hb gSyn (by decide) h2⟩, ⟨t3, p3, var?_below hb gRng (by decide) h3⟩⟩
theorem Glob.keeps {S : Nat → Prop} {w w' : World} (h : Glob w) (hk : Keeps S w w') (h3 : 3 ≤ w.heap.size) (hS : ∀ k, k < 3 → ¬ S k) : Glob w' := h.below (hk.to_below 3 h3 hS)
theorem Glob.size {w : World} (h : Glob w) : 3 ≤ w.heap.size := by
  obtain ⟨t, p, h3⟩ := h.rng
  unfold World.var? at h3
  rw [gRng] at h3
  simp only [Option.bind_some] at h3
  rcases Nat.lt_or_ge 2 w.heap.size with h' | h'
  · omega
  · rw [Array.getElem?_eq_none h'] at h3; cases h3

theorem cutPrefix_any (s p : Bytes) (w : World) : Calls Tryd.prog 43 #[str s, str p] w fun e w' => e = .returned (.tuple #[str (Lib.trimPrefix s p), .bool (Lib.hasPrefix s p)]) ∧ w = w' :=
  (Tryd.strings_CutPrefix ⟨s.toArray⟩ ⟨p.toArray⟩ w).mono fun e w' ⟨h1, h2⟩ => ⟨by simpa using h1, h2.symm⟩
def AtoiPost (s : Bytes) (w : World) (e : Ending) (w' : World) : Prop :=
  Below w.heap.size w w' ∧ ((∃ v, Lib.atoiAll s = .ok v ∧ e = .returned (.tuple #[.int .i64 v, .nilIface])) ∨ ((∀ v, Lib.atoiAll s ≠ .ok v) ∧ ∃ v N, e = .returned (.tuple #[.int .i64 v, .iface 122 (ptr N)])))
theorem atoi_any (s : Bytes) (w : World) (hg : Glob w) (hs : s.length ≤ 1000000) : Calls Tryd.prog 44 #[str s] w (AtoiPost s w) := by
  have hsz : (⟨s.toArray⟩ : ByteArray).size = s.length := by simp [ByteArray.size]
  rcases h : Lib.atoiAll s with v | _ | _
  · refine (Tryd.strconv_Atoi_ok ⟨s.toArray⟩ (by omega) v (by simpa using h) w).mono ?_
    rintro e w' ⟨rfl, h2⟩
    refine ⟨?_, .inl ⟨v, h, rfl⟩⟩
    rcases h2 with rfl | ⟨t, rfl⟩
    · exact Below.refl _ _
    · exact Joins.below_bytesWorld _ _ _ _ (Nat.le_refl _)
  · obtain ⟨tp, p, hv⟩ := hg.syn
    refine (Any.strconv_Atoi_syntax_var Tryd.laysC172 ⟨s.toArray⟩ (by omega) (by simpa using h) tp p w hv).mono ?_
    rintro e w' ⟨N, rfl, _, _, hb⟩
    exact ⟨hb, .inr ⟨(fun v hv => by rw [h] at hv; cases hv), _, N, rfl⟩⟩
  · obtain ⟨tp, p, hv⟩ := hg.rng
    refine (Any.strconv_Atoi_range_var Tryd.laysC172 ⟨s.toArray⟩ (by omega) (by simpa using h) tp p w hv).mono ?_
    rintro e w' ⟨N, rfl, _, _, hb⟩
    exact ⟨hb, .inr ⟨(fun v hv => by rw [h] at hv; cases hv), _, N, rfl⟩⟩
theorem itoa_any (n : Int) (w : World) (hg : Glob w) (h0 : -9223372036854775808 ≤ n) (h1 : n ≤ 9223372036854775807) : Calls Tryd.prog 27 #[.int .i64 n] w (RetB (str (Lib.itoa n)) w) := by
  refine (Tryd.strconv_Itoa n h0 h1 w hg.tab).mono ?_
  rintro e w' ⟨rfl, k, os, rfl⟩
  refine ⟨rfl, ?_⟩
  refine ⟨rfl, rfl, rfl, by simp, fun i hi => ?_⟩
  rw [Go.«Sort».heap_grow_old _ _ (by simpa using hi)]
  rfl

theorem atoi_range {l : Bytes} {v : Int} (h : Lib.atoiAll l = .ok v) : -9223372036854775808 ≤ v ∧ v ≤ 9223372036854775807 := by
  unfold Lib.atoiAll at h
  split at h
  · cases h
  · simp only at h
    split at h
    · cases h
    · cases h
    · split at h
      · cases h
      · split at h
        · cases h
        · cases h
          split <;> omega

set_option maxHeartbeats 400000 in
set_option maxRecDepth 20000 in
theorem age_any (s : Bytes) (w : World) (hg : Glob w) (hs : s.length ≤ 1000000) : Calls Tryd.prog 30 #[str s] w (RetB (.int .i64 (Hv.age s : Nat)) w) := by
  obtain ⟨d, hd⟩ : ∃ d, d = Lib.trimPrefix s [103, 32] := ⟨_, rfl⟩
  obtain ⟨is_, his⟩ : ∃ b, b = Lib.hasPrefix s [103, 32] := ⟨_, rfl⟩
  have hdl : d.length ≤ s.length := by rw [hd]; unfold Lib.trimPrefix; split <;> simp
  have HA := Lib.hid (And.intro hg (And.intro (@age_yes s) (And.intro (@age_no s) (And.intro hd his))))
  clear hg
  go_enter Tryd.func30, Tryd.ntmps30
  go_wp2_with fail
  refine (cutPrefix_any s [103, 32] w).mono ?_
  rintro e w1 ⟨rfl, rfl⟩
  rw [← hd, ← his]
  clear hd his
  go_wp2_with fail
  refine (atoi_any d w HA.out.1 (by omega)).mono ?_
  rintro e w1 ⟨hb1, ⟨v, hv, rfl⟩ | ⟨hv, v, N, rfl⟩⟩
  · have hno : goAge s v = false → Hv.age s = 0 := fun hf => HA.out.2.2.1 (fun v' h' => by
      rw [← HA.out.2.2.2.1, hv] at h'
      cases h'
      exact hf)
    have HV := Lib.hid (And.intro hb1 (And.intro hv (And.intro hno (HA.out.1.below (hb1.mono HA.out.1.size)))))
    clear hb1 hv hno
    cases his : is_ with
    | false =>
      have HZ := Lib.hid (HV.out.2.2.1 (by rw [goAge, ← HA.out.2.2.2.2, his]; rfl))
      subst his
      go_wp2
      go_ret
      exact ⟨by rw [HZ.out]; rfl, HV.out.1⟩
    | true =>
      subst his
      by_cases h1 : v < 1
      · have HZ := Lib.hid (HV.out.2.2.1 (by rw [goAge, decide_eq_false (show ¬ 1 ≤ v by omega)]; simp))
        go_wp2
        go_ret
        exact ⟨by rw [HZ.out]; rfl, HV.out.1⟩
      · by_cases h2 : 18 < d.length
        · have HZ := Lib.hid (HV.out.2.2.1 (by rw [goAge, ← HA.out.2.2.2.1, decide_eq_false (show ¬ d.length ≤ 18 by omega)]; simp))
          go_wp2
          go_ret
          exact ⟨by rw [HZ.out]; rfl, HV.out.1⟩
        · have hvr := atoi_range HV.out.2.1
          obtain ⟨it, hit⟩ : ∃ it, it = Lib.itoa v := ⟨_, rfl⟩
          cases h3 : (it == d) with
          | false =>
            have h4 : (it != d) = true := by rw [bne, h3]; rfl
            have HZ := Lib.hid (HV.out.2.2.1 (by rw [goAge, ← HA.out.2.2.2.1, ← hit, h3]; simp))
            have HI := Lib.hid hit
            clear hit
            go_wp2_with fail
            refine (itoa_any v _ HV.out.2.2.2 (by omega) (by omega)).mono ?_
            rintro e w2 ⟨rfl, hb2⟩
            rw [← HI.out]
            have HB2 := Lib.hid hb2
            clear hb2
            go_wp2
            go_ret
            exact ⟨by rw [HZ.out]; rfl, HV.out.1.trans (HB2.out.mono HV.out.1.size)⟩
          | true =>
            have h4 : (it != d) = false := by rw [bne, h3]; rfl
            have HZ := Lib.hid (HA.out.2.1 (v := v) (by rw [goAge, ← HA.out.2.2.2.1, ← HA.out.2.2.2.2, ← hit, h3, decide_eq_true (show 1 ≤ v by omega), decide_eq_true (show d.length ≤ 18 by omega)]; rfl))
            have HI := Lib.hid hit
            clear hit
            go_wp2_with fail
            refine (itoa_any v _ HV.out.2.2.2 (by omega) (by omega)).mono ?_
            rintro e w2 ⟨rfl, hb2⟩
            rw [← HI.out]
            have HB2 := Lib.hid hb2
            clear hb2
            go_wp2
            go_ret
            exact ⟨ret_int HZ.out.symm, HV.out.1.trans (HB2.out.mono HV.out.1.size)⟩
  · have hz : Hv.age s = 0 := HA.out.2.2.1 (fun v' h' => absurd (by rw [HA.out.2.2.2.1]; exact h') (hv v'))
    have HZ := Lib.hid (And.intro hb1 hz)
    clear hb1 hv hz
    cases is_
    all_goals
      go_wp2
      go_ret
      exact ⟨by rw [HZ.out.2]; rfl, HZ.out.1⟩
end Go.Proofs.YtoldogkfeimojaaDoor.Hv
