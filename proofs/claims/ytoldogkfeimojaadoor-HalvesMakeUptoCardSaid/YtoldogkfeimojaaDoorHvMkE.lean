/- One step of the proof of a statement of this seat: plain laws and walks of the store, log, journal and halves packages; no condition. -/
import Derived.Test.YtoldogkfeimojaaDoorHvMkD
import Derived.SevenTiedAt
set_option linter.unusedVariables false
set_option linter.unusedSimpArgs false
open Go.RowKit
namespace Go.Proofs.YtoldogkfeimojaaDoor.Hv
open Go.Proofs.Hv Go.Proofs.Mem Go.ChangeShapes Go.WideShapes Go.ChangeAt

set_option maxRecDepth 100000 in
set_option maxHeartbeats 1000000 in
theorem make_lifted (os : Os) (started : os.Started) (H : Type) (enc : TypeId × Value → H) (F : Stop.Interp) :
    ReturnsInHanded {} Tryd.checked os 4 .any ((Rows.OpenSpec.upto Rows.halvesMakeSpec).preRow enc Tryd.prog Tryd.f4 Rows.halvesMakeUptoRow.domain false Rows.halvesMakeUptoRow.laid)
      (((Rows.OpenSpec.upto Rows.halvesMakeSpec).at F).post enc Tryd.prog Tryd.f4 false true false false) := by
  have wit := witness_row os enc
  have hok : Input.okWideB Tryd.checked.prog ((World.doorLaid Tryd.prog 400 os).forCall (fun _ _ => 0) ⟨#[], #[.int .u8 0, .slice none 0 0, .slice none 0 0], []⟩) 4 ⟨#[], #[.int .u8 0, .slice none 0 0, .slice none 0 0], []⟩ = true := by kernel_rfl
  refine returnsInHanded_of_row (C := Tryd.checked) (s := Rows.OpenSpec.upto Rows.halvesMakeSpec) c_own started (by kernel_rfl) Tryd.func4
    ⟨World.doorLaid Tryd.prog 400 os, fun _ _ => 0, ⟨#[], #[.int .u8 0, .slice none 0 0, .slice none 0 0], []⟩, rfl, World.shaped_of_RefB (by kernel_rfl) (by kernel_rfl),
      (Input.okWide_of_okWideB (base := 0) hok).1, (Input.okWide_of_okWideB hok).2, wit, by
        simp only [Assume.holds]
        exact ⟨by simp, by simp, (fun h => by cases h), by simp, by simp⟩⟩ ?_
  intro W base args ds gs before hval0 hW _ hcond0 hsz0 hL hsh _
  have hcond : Rows.uptoSmall H (ds ++ gs) = true := hcond0 _ rfl
  clear hcond0 hsz0
  have hval : ∀ (j : Nat) t v, Tryd.f4.params[j]? = some t → args[j]? = some v → Value.okWide Tryd.prog W .any base t v := hval0
  have hW' := hW
  obtain ⟨p, q, hA0, hV0, rfl, _, _⟩ := hW
  have hA : DataW.TrodAll enc Tryd.prog W 0 (fun _ => true) true Tryd.f4.params.toList args.toList ds p := hA0
  rw [Tryd.params4] at hA hval
  obtain ⟨v0, v1, v2, d0, d1, d2, p0, p1, p2, rfl, rfl, rfl, h0, h1, h2⟩ := trodAll_three hA
  obtain ⟨rfl, rfl⟩ := trodVars_none hV0
  obtain ⟨n, rfl, rfl, rfl, wn⟩ := open_int Tryd.underlying5 (hval 0 5 v0 rfl rfl) h0
  obtain ⟨a0, l0, c0, rfl⟩ := okWide_slice Tryd.underlying32 (hval 1 32 v1 rfl rfl)
  obtain ⟨a1, l1, c1, rfl⟩ := okWide_slice Tryd.underlying32 (hval 2 32 v2 rfl rfl)
  clear hA0 hV0 hval0
  simp only [List.append_nil] at hW' hcond
  have hlt : ∀ x ∈ [] ++ (p1 ++ p2), x.block < W.heap.size := fun x hx => by simpa using hW'.lt x hx
  obtain ⟨a, rfl, hra, _, hba⟩ := open_arg h1
  obtain ⟨b, rfl, hrb, hbb, hb2⟩ := open_arg h2
  have hbulk : sumL a + sumL b + a.length + b.length ≤ 10000000 := by
    have h : Rows.uptoBulkAll [DataW.lit (.int .u8 n), d1, d2] ≤ 1048576 := of_decide_eq_true hcond
    simp only [Rows.uptoBulkAll] at h
    omega
  obtain ⟨m, rfl, hm⟩ : ∃ m : Nat, n = (m : Int) ∧ m < 256 := by
    have h := wn
    unfold Lit.wf at h
    rw [Bool.and_eq_true, decide_eq_true_eq, decide_eq_true_eq] at h
    have h1 : IntKind.u8.min = 0 := rfl
    have h2 : IntKind.u8.max = 255 := rfl
    rw [h1, h2] at h
    exact ⟨n.toNat, by omega, by omega⟩
  refine (make_any W (glob_of_laid hL) m hm a0 a1 a b c0 c1 hra hrb (fun x hx h => hbb x hx h) hbulk).mono ?_
  rintro e W' ⟨rfl, bel⟩
  have e1 : ((Rows.OpenSpec.upto Rows.halvesMakeSpec).at F).fn H ([.lit (.int .u8 (m : Int)), d1, d2] ++ []) = { results := [.lit (.bool true)], args := [.lit (.int .u8 (m : Int)), d1, d2] } := rfl
  refine ⟨_, rfl, _, _, _, [], [] ++ p1 ++ p2, [], hW', ?_, ?_, ?_, bel.frame _, fun h => by cases h⟩
  · rw [e1]; exact trodAll_mk1 (shut_bool Tryd.underlying4 true)
  · rw [e1]; exact trodAll_mk3 (shut_int Tryd.underlying5 wn) (Below.trod c_laidOut (by kernel_rfl) (of_decide_eq_true (by kernel_rfl)) h1 bel (fun x hx => hlt x (by simp at hx ⊢; exact .inl hx))) (Below.trod c_laidOut (by kernel_rfl) (of_decide_eq_true (by kernel_rfl)) h2 bel (fun x hx => hlt x (by simp [hx])))
  · rw [e1]; rfl
theorem make_holds : Rows.HalvesMakeUptoSaid :=
  OpenClaim.holds_of_cond 4 Tryd.f4 rfl rfl rfl rfl rfl rfl rfl ⟨rfl, rfl, rfl, rfl, rfl⟩ rfl rfl rfl rfl rfl (by kernel_rfl) Tryd.func4 (by kernel_rfl)
    (of_decide_eq_true (by kernel_rfl)) (by unfold Func.isWrapper; first | (rw [if_pos (by decide +kernel)]; kernel_rfl) | (rw [if_neg (by decide +kernel)]; exact ⟨rfl, rfl⟩))
    (fun os started H enc _ F0 => by rw [OpenClaim.pre_eq_preRow]; exact make_lifted os started H enc F0)
theorem make_card_holds : Rows.HalvesMakeUptoCardSaid :=
  Claim7.holds_tied_plain_at .later [] [.data, .data, .data, .sentinel, .sentinel] true (true, "9de5def7808305f59be03bfc625cdd510b733058224d29c64b737e694b80884d") true
    make_holds (fun _ h => by cases h) (by kernel_rfl) (fun _ h => by cases h) halvesMakeUpto_row_tie rfl ⟨rfl, rfl⟩ (by kernel_rfl) rfl
    (fun f fn hf hfn => by
      obtain rfl : f = 4 := Option.some.inj ((show Tryd.prog.funcNamed "replevin/replevinlaw17.HalvesMake" = some 4 by kernel_rfl).symm.trans hf) |>.symm
      obtain rfl : fn = Tryd.f4 := (Option.some.inj (Tryd.func4.symm.trans hfn)).symm
      exact ⟨by kernel_rfl, fun j t ht => by
        rw [Tryd.params4] at ht
        have hm : t ∈ [5, 32, 32] := by simpa using Array.mem_of_getElem? ht
        have hall : ([5, 32, 32].all fun u => !Tryd.prog.wantsStandIn u) = true := by kernel_rfl
        exact (show Tryd.prog.wantsStandIn t = false by simpa using List.all_eq_true.1 hall t hm)⟩)
    (by kernel_rfl)
#print axioms make_card_holds
end Go.Proofs.YtoldogkfeimojaaDoor.Hv
