/- One step of the proof of a statement of this seat: plain laws and walks of the store, log, journal and halves packages; no condition. -/
import Derived.Test.YtoldogkfeimojaaDoorHvOn
set_option linter.unusedVariables false
set_option linter.unusedSimpArgs false
open Go.RowKit
namespace Go.Proofs.YtoldogkfeimojaaDoor.Hv
open Go.Proofs.Hv Go.Proofs.Mem

set_option maxHeartbeats 4000000 in
set_option maxRecDepth 20000 in
theorem awake_any (w : World) (hg : Glob w) : Calls Tryd.prog 5 #[] w (RetB (.bool true) w) := by
  have HG := Lib.hid hg
  clear hg
  go_enter Tryd.func5, Tryd.ntmps5
  go_wp2_with fail
  refine (new_any w 20).mono ?_
  rintro e w1 ⟨hb1, ⟨_, p, g, rfl, hst1, hp1, hg1⟩ | ⟨h, _⟩⟩
  case inr => exact absurd (by omega) h
  have K1 := Lib.hid (show On w w1 p g (newSto 20) from ⟨hb1, hst1, hp1, hg1, HG.out⟩)
  clear hb1 hst1 hp1 hg1
  go_wp2_with fail
  refine (on_open K1.out aq1).mono ?_
  rintro e w2 ⟨hp, rfl, o2, h2, _⟩
  have K2 := Lib.hid (And.intro o2 h2)
  clear o2 h2 K1
  go_wp2_with fail
  refine (open_nil w2).mono ?_
  rintro e w3 ⟨rfl, rfl⟩
  go_wp2_with fail
  refine (hroom_any K2.out.2.lies).mono ?_
  rintro e w3 ⟨rfl, hb3⟩
  rw [ar1]
  have K3 := Lib.hid (And.intro (K2.out.1.on hb3) (K2.out.2.on hb3))
  clear hb3 K2
  go_wp2_with fail
  refine (on_append (r := [97]) K3.out.1 K3.out.2 aq2).mono ?_
  rintro e w4 ⟨rfl, o4, h4, _⟩
  have K4 := Lib.hid (And.intro o4 h4)
  clear o4 h4 K3
  go_wp2_with fail
  refine (on_append (r := [98]) K4.out.1 K4.out.2 aq3).mono ?_
  rintro e w5 ⟨rfl, o5, h5, _⟩
  have K5 := Lib.hid (And.intro o5 h5)
  clear o5 h5 K4
  go_wp2_with fail
  refine (on_compact (L := [[97, 98]]) (K5.out.1.alloc _) (K5.out.2.alloc _) (rd_one w5 [97, 98]) (by rintro a ⟨⟩ _; have h1 := K5.out.1.sto.lt; have h2 := K5.out.2.lies.hlt; exact ⟨by rintro (e | e) <;> simp only at e <;> omega, by simp only; omega⟩) (by decide) aq4).mono ?_
  rintro e w6 ⟨rfl, o6, h6, _⟩
  have K6 := Lib.hid (And.intro o6 h6)
  clear o6 h6 K5
  go_wp2_with fail
  refine (on_append (r := [99]) K6.out.1 K6.out.2 aq5).mono ?_
  rintro e w7 ⟨rfl, o7, h7, _⟩
  have K7 := Lib.hid (And.intro o7 h7.cut)
  clear o7 h7 K6
  go_wp2_with fail
  refine (on_open K7.out.1 aq6).mono ?_
  rintro e w8 ⟨kp, rfl, o8, k8, ks8⟩
  have h8 := K7.out.2.over o8 ks8 (fun k e _ => K7.out.2.nsto k e) (by rw [al1.2.2.2.2.2.1, al1.2.2.2.2.1])
  have hs8 := ks8.size
  obtain ⟨FH, hFH, hF8⟩ : ∃ F, Hal w w8 F p g hp A5.2.1 A6.2 ∧ ∀ k, F k → k < w7.heap.size := ⟨_, h8, fun k e => e.2⟩
  have K8 := Lib.hid (And.intro o8 (And.intro k8 (And.intro hFH hF8)))
  clear o8 k8 h8 ks8 hFH hF8 K7
  go_wp2_with fail
  refine (on_fuse K8.out.1 2 9 (by decide) (by decide) (by decide) (by decide)).mono ?_
  rintro e w9 ⟨⟨v9, rfl⟩, o9, ks9⟩
  have hs9 := ks9.size
  have K9 := Lib.hid (And.intro o9 (And.intro (K8.out.2.1.over o9 ks9 (fun k e _ => K8.out.2.1.nsto k e) rfl) (And.intro (K8.out.2.2.1.over o9 ks9 (fun k e _ => K8.out.2.2.1.nsto k e) rfl) K8.out.2.2.2)))
  clear o9 ks9 K8
  go_wp2_with fail
  refine (on_compact (L := [[97, 98, 99], [100]]) (K9.out.1.alloc _) (K9.out.2.1.alloc _) (rd_two w9 [97, 98, 99] [100]) (by rintro a ⟨⟩ _; have h1 := K9.out.1.sto.lt; have h2 := K9.out.2.1.lies.hlt; exact ⟨by rintro (e | e) <;> simp only at e <;> omega, by simp only; omega⟩) (by decide) aq7).mono ?_
  rintro e w10 ⟨rfl, o10, k10, ks10⟩
  have h10 := (K9.out.2.2.1.alloc _).over o10 ks10 (fun k e _ hh => by
    rcases hh with hh | hh
    · exact K9.out.2.2.1.nsto k e hh
    · have := K9.out.2.2.2 k e; omega) (by rw [al1.2.2.2.2.2.2.1]; exact al1.2.2.2.2.2.1.symm)
  have K10 := Lib.hid (And.intro o10 (And.intro k10 (And.intro h10 (And.intro K9.out.2.2.2 (K9.out.2.1.lies.hlt.1)))))
  clear o10 k10 ks10 h10
  go_wp2_with fail
  refine (on_append (r := [101]) K10.out.1 K10.out.2.1 aq8).mono ?_
  rintro e w11 ⟨rfl, o11, k11, ks11⟩
  have h11 := K10.out.2.2.1.over o11 ks11 (fun k e hlt hh => by
    rcases hh with hh | hh | hh
    · exact K10.out.2.2.1.nsto k e hh
    · have := K10.out.2.2.2.1 k e; omega
    · have := K10.out.2.2.2.1 k e; simp at hh; omega) (by rw [al1.2.2.2.2.2.2.2.1]; exact al1.2.2.2.2.2.2.1.symm)
  have K11 := Lib.hid (And.intro o11 (And.intro k11.cut h11))
  clear o11 k11 ks11 h11 K9 K10
  go_wp2_with fail
  refine (on_up K11.out.1).mono ?_
  rintro e w12 ⟨⟨v12, rfl⟩, o12, ks12⟩
  have K12 := Lib.hid (And.intro o12 (And.intro (K11.out.2.1.over o12 ks12 (fun k e _ => K11.out.2.1.nsto k e) rfl) (K11.out.2.2.over o12 ks12 (fun k e _ => K11.out.2.2.nsto k e) rfl)))
  clear o12 ks12 K11
  go_wp2_with fail
  refine (on_open K12.out.1 aq9).mono ?_
  rintro e w13 ⟨lp, rfl, o13, l13, ks13⟩
  have K13 := Lib.hid (And.intro o13 (And.intro l13 (And.intro (K12.out.2.1.over o13 ks13 (fun k e _ => K12.out.2.1.nsto k e) (by rw [al1.2.2.2.2.2.2.2.2]; exact al1.2.2.2.2.2.2.2.1.symm)) (K12.out.2.2.over o13 ks13 (fun k e _ => K12.out.2.2.nsto k e) (by rw [al1.2.2.2.2.2.2.2.2]; exact al1.2.2.2.2.2.2.2.1.symm)))))
  clear o13 l13 ks13 K12
  obtain ⟨hh1, hh2, hh3⟩ := ae1
  obtain ⟨hk1, hk2⟩ := ae2
  obtain ⟨hl1, hl2⟩ := ae3
  have HE := Lib.hid (And.intro hh1 (And.intro hh2 (And.intro hh3 (And.intro hk1 (And.intro hk2 (And.intro hl1 hl2))))))
  clear hh1 hh2 hh3 hk1 hk2 hl1 hl2
  go_wp2_with fail
  refine (hage_any K13.out.2.2.2.lies).mono ?_
  rintro e w14 ⟨rfl, rfl⟩
  rw [HE.out.1]
  go_wp2_with fail
  have KW := Lib.hid (Below.refl w13.heap.size w13)
  refine (on_snap (K13.out.2.2.2.on KW.out)).mono ?_
  rw [HE.out.2.1]
  rintro e w14 ⟨A14, c14, rfl, hr14, hb14⟩
  have KR := Lib.hid hr14
  have KW' := Lib.hid (KW.out.trans (hb14.mono KW.out.size))
  clear hr14 hb14 KW
  simp only [List.length_cons, List.length_nil]
  go_wp2_with fail
  refine (same_self A14 (some ⟨w14.heap.size, 0, none⟩) [[97, 98]] _ _ _ _ rfl rfl (((Keeps.refl none' w14).alloc _).rd KR.out (fun _ _ h => h)) (rd_one w14 [97, 98]) (by decide)).mono ?_
  rintro e w15 ⟨rfl, hk15⟩
  have KW := Lib.hid (show Below w13.heap.size w13 w15 from (KW'.out.alloc KW'.out.size _).trans (hk15.to_below0.mono (KW'.out.alloc KW'.out.size _).size))
  clear hk15 KW' KR
  go_wp2_with fail
  refine (on_tail (K13.out.2.2.2.on KW.out)).mono ?_
  rw [HE.out.2.2.1]
  rintro e w16 ⟨A16, c16, rfl, hr16, hb16⟩
  have KR := Lib.hid hr16
  have KW' := Lib.hid (KW.out.trans (hb16.mono KW.out.size))
  clear hr16 hb16 KW
  simp only [List.length_cons, List.length_nil]
  go_wp2_with fail
  refine (same_self A16 (some ⟨w16.heap.size, 0, none⟩) [[99]] _ _ _ _ rfl rfl (((Keeps.refl none' w16).alloc _).rd KR.out (fun _ _ h => h)) (rd_one w16 [99]) (by decide)).mono ?_
  rintro e w17 ⟨rfl, hk17⟩
  have KW := Lib.hid (show Below w13.heap.size w13 w17 from (KW'.out.alloc KW'.out.size _).trans (hk17.to_below0.mono (KW'.out.alloc KW'.out.size _).size))
  clear hk17 KW' KR
  go_wp2_with fail
  refine (on_snap (K13.out.2.2.1.on KW.out)).mono ?_
  rw [HE.out.2.2.2.1]
  rintro e w18 ⟨A18, c18, rfl, hr18, hb18⟩
  have KR := Lib.hid hr18
  have KW' := Lib.hid (KW.out.trans (hb18.mono KW.out.size))
  clear hr18 hb18 KW
  simp only [List.length_cons, List.length_nil]
  go_wp2_with fail
  refine (same_self A18 (some ⟨w18.heap.size, 0, none⟩) [[97, 98]] _ _ _ _ rfl rfl (((Keeps.refl none' w18).alloc _).rd KR.out (fun _ _ h => h)) (rd_one w18 [97, 98]) (by decide)).mono ?_
  rintro e w19 ⟨rfl, hk19⟩
  have KW := Lib.hid (show Below w13.heap.size w13 w19 from (KW'.out.alloc KW'.out.size _).trans (hk19.to_below0.mono (KW'.out.alloc KW'.out.size _).size))
  clear hk19 KW' KR
  go_wp2_with fail
  refine (on_tail (K13.out.2.2.1.on KW.out)).mono ?_
  rw [HE.out.2.2.2.2.1]
  rintro e w20 ⟨A20, c20, rfl, hr20, hb20⟩
  have KR := Lib.hid hr20
  have KW' := Lib.hid (KW.out.trans (hb20.mono KW.out.size))
  clear hr20 hb20 KW
  simp only [List.length_cons, List.length_nil]
  go_wp2_with fail
  refine (same_self A20 (some ⟨w20.heap.size, 0, none⟩) [[99]] _ _ _ _ rfl rfl (((Keeps.refl none' w20).alloc _).rd KR.out (fun _ _ h => h)) (rd_one w20 [99]) (by decide)).mono ?_
  rintro e w21 ⟨rfl, hk21⟩
  have KW := Lib.hid (show Below w13.heap.size w13 w21 from (KW'.out.alloc KW'.out.size _).trans (hk21.to_below0.mono (KW'.out.alloc KW'.out.size _).size))
  clear hk21 KW' KR
  go_wp2_with fail
  refine (hage_any (K13.out.2.1.on KW.out).lies).mono ?_
  rintro e w22 ⟨rfl, rfl⟩
  rw [HE.out.2.2.2.2.2.1]
  go_wp2_with fail
  refine (on_tail (K13.out.2.1.on KW.out)).mono ?_
  rw [HE.out.2.2.2.2.2.2]
  rintro e w23 ⟨A23, c23, rfl, hr23, hb23⟩
  have KR := Lib.hid hr23
  have KW' := Lib.hid (KW.out.trans (hb23.mono KW.out.size))
  clear hr23 hb23 KW
  simp only [List.length_cons, List.length_nil]
  go_wp2_with fail
  refine (same_self A23 (some ⟨w23.heap.size, 0, none⟩) [[99]] _ _ _ _ rfl rfl (((Keeps.refl none' w23).alloc _).rd KR.out (fun _ _ h => h)) (rd_one w23 [99]) (by decide)).mono ?_
  rintro e w24 ⟨rfl, hk24⟩
  have KW := Lib.hid (show Below w13.heap.size w13 w24 from (KW'.out.alloc KW'.out.size _).trans (hk24.to_below0.mono (KW'.out.alloc KW'.out.size _).size))
  clear hk24 KW' KR
  go_wp2_with fail
  go_ret
  exact ⟨rfl, K13.out.1.below.trans (KW.out.mono K13.out.1.below.size)⟩
end Go.Proofs.YtoldogkfeimojaaDoor.Hv
