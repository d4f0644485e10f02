/- One step of the proof of a statement of this seat: plain laws and walks of the store, log, journal and halves packages; no condition. -/
import Derived.Test.YtoldogkfeimojaaDoorHvJr6
set_option linter.unusedVariables false
set_option linter.unusedSimpArgs false
open Go.RowKit
namespace Go.Proofs.YtoldogkfeimojaaDoor.Hv
open Go.Proofs.Hv Go.Proofs.Mem

theorem jroom_any (base : Nat) (w : World) (jp p : Nat) (j : Jr) (lv : Value) (l : List Bytes) (h : JAt base w jp p j lv l) (h1 : j.n ≤ 256) (h2 : j.fin ≤ 1000000) :
    Calls Tryd.prog 29 #[ptr jp] w fun e w' => e = .returned (.int .i64 j.room) ∧ ∃ q, w' = w.drewN q := by
  have c2 := h.blk.cell2
  have c4 := h.blk.cell4
  have e1 : IntKind.i64.wrap ((j.n : Int) * 32) = (j.n : Int) * 32 := by rw [IntKind.wrap_i64]; omega
  have e2 : IntKind.i64.wrap ((j.n : Int) * 32 - (j.fin : Int)) = j.room := by rw [IntKind.wrap_i64]; unfold Jr.room; omega
  clear h
  go_enter Tryd.func29, Tryd.ntmps29
  go_wp2
  go_quiet (fail)
  go_wp2
  go_ret
  exact ⟨rfl, nq, rfl⟩

theorem cleared_app (a b : Bytes) : cleared (a ++ b) a.length = a ++ zeros b.length := by
  unfold cleared
  rw [List.take_append_of_le_length (Nat.le_refl _), List.take_of_length_le (Nat.le_refl _), List.length_append, show a.length + b.length - a.length = b.length by omega]
theorem app_bytes (x f : Bytes) (fin to_ : Nat) (h1 : to_ = fin + f.length) (h2 : to_ ≤ x.length) : cleared (x.take fin ++ f ++ x.drop to_) to_ = x.take fin ++ f ++ zeros (x.length - to_) := by
  have hl : (x.take fin ++ f).length = to_ := by rw [List.length_append, List.length_take]; omega
  have := cleared_app (x.take fin ++ f) (x.drop to_)
  rw [hl, List.length_drop] at this
  exact this

/-- what Append leaves -/
def AppPost (base : Nat) (w : World) (jp p g : Nat) (j' : Jr) (s' : Sto) (lv : Value) (r : Int) (e : Ending) (w' : World) : Prop :=
  e = .returned (.int .i64 r) ∧ StoAt w' p g s' ∧ (∃ lv' l', JAt base w' jp p j' lv' l' ∧ ∀ k, k < w.heap.size → lv'.ownBlock = some k → lv.ownBlock = some k) ∧ Keeps (fun k => stoF p g k ∨ k = jp ∨ lv.ownBlock = some k) w w'

attribute [local go_sem] bs_append
section
variable {base : Nat} {w : World} {jp p g : Nat} {j : Jr} {s : Sto} {lv : Value} {l : List Bytes} {r : Bytes}
theorem app_same (h : StoAt w p g s) (hj : JAt base w jp p j lv l) (e : Int) {w' : World} (hb : Below w.heap.size w w') : AppPost base w jp p g j s lv e (.returned (.int .i64 e)) w' :=
  ⟨rfl, h.below hb, ⟨lv, l, hj.keeps (S := none') (.of_below hb) (fun h => h) (fun _ _ h => h), fun _ _ h => h⟩, .of_below hb⟩

theorem app_bad (h : StoAt w p g s) (hj : JAt base w jp p j lv l) (hl : r.length ≤ 1000000) (hr : okRec r = false) :
    Calls Tryd.prog 24 #[ptr jp, str r] w (AppPost base w jp p g j s lv 3) := by
  have HH := Lib.hid (And.intro h (And.intro hj hr))
  clear h hj hr
  go_enter Tryd.func24, Tryd.ntmps24
  go_wp2_with fail
  refine (frame_no r _ hl HH.out.2.2).mono ?_
  rintro e w1 ⟨rfl, hb1⟩
  have HB := Lib.hid hb1
  clear hb1
  go_wp2
  go_ret
  exact app_same HH.out.1 HH.out.2.1 _ HB.out

set_option maxHeartbeats 400000 in
set_option maxRecDepth 20000 in
theorem app_full (h : StoAt w p g s) (hj : JAt base w jp p j lv l) (hr : okRec r = true) (hn : j.n ≤ 256) (hf : j.fin ≤ 1000000) (hroom : j.room < (r.length + 8 : Nat)) :
    Calls Tryd.prog 24 #[ptr jp, str r] w (AppPost base w jp p g j s lv 14) := by
  have hfl : (frameOf r).length = r.length + 8 := frameOf_len r
  have hfl2 : j.room < ((frameOf r).length : Int) := by rw [hfl]; exact hroom
  have HH := Lib.hid (And.intro h (And.intro hj hr))
  clear h hj hr hfl hroom
  go_enter Tryd.func24, Tryd.ntmps24
  go_wp2_with fail
  refine (frame_yes r _ HH.out.2.2).mono ?_
  rintro e w1 ⟨rfl, hb1⟩
  have HB := Lib.hid hb1
  clear hb1
  go_wp2_with fail
  refine (jroom_any base w1 jp p j lv l (HH.out.2.1.keeps (S := none') (.of_below HB.out) (fun h => h) (fun _ _ h => h)) hn hf).mono ?_
  rintro e w2 ⟨rfl, q, rfl⟩
  go_wp2
  go_ret
  exact app_same HH.out.1 HH.out.2.1 _ ((Keeps.of_below HB.out : Keeps none' w w1).drewN q).to_below0

set_option maxHeartbeats 400000 in
set_option maxRecDepth 20000 in
theorem app_down (h : StoAt w p g s) (hj : JAt base w jp p j lv l) (hr : okRec r = true) (hn : j.n ≤ 256) (hf : j.fin ≤ 1000000) (hroom : (r.length + 8 : Nat) ≤ j.room) (hd : j.down = true) :
    Calls Tryd.prog 24 #[ptr jp, str r] w (AppPost base w jp p g j s lv 16) := by
  have hfl : (frameOf r).length = r.length + 8 := frameOf_len r
  have hfl2 : ((frameOf r).length : Int) ≤ j.room := by rw [hfl]; exact hroom
  have HH := Lib.hid (And.intro h (And.intro hj (And.intro hr hd)))
  clear h hj hr hfl hroom hd
  go_enter Tryd.func24, Tryd.ntmps24
  go_wp2_with fail
  refine (frame_yes r _ HH.out.2.2.1).mono ?_
  rintro e w1 ⟨rfl, hb1⟩
  have HB := Lib.hid hb1
  clear hb1
  go_wp2_with fail
  have hj1 := HH.out.2.1.keeps (S := none') (.of_below HB.out) (fun h => h) (fun _ _ h => h)
  have c5 := hj1.blk.cell5
  rw [HH.out.2.2.2] at c5
  refine (jroom_any base w1 jp p j lv l hj1 hn hf).mono ?_
  rintro e w2 ⟨rfl, q, rfl⟩
  clear hj1
  go_wp2
  go_ret
  exact app_same HH.out.1 HH.out.2.1 _ ((Keeps.of_below HB.out : Keeps none' w w1).drewN q).to_below0

theorem app_close_no {w5 : World} {s' : Sto} {e : Int} (hst : StoAt w5 p g s') (hj : JAt base w5 jp p j lv l) (hk : Keeps (stoF p g) w w5) (hjp : ¬ stoF p g jp) :
    AppPost base w jp p g { j with down := true } s' lv e (.returned (.int .i64 e)) (w5.setCell ⟨jp, 5, none⟩ (.bool true)) := by
  have hk1 : Keeps (fun k => k = jp) w5 (w5.setCell ⟨jp, 5, none⟩ (.bool true)) := (Keeps.refl _ w5).setCell (by simp) _
  simp only [stoF, not_or] at hjp
  refine ⟨rfl, hst.keeps hk1 (fun e => hjp.1 e.symm) (fun e => hjp.2 e.symm), ⟨lv, l, ⟨hj.blk.set 5 _, hk1.own hj.own (fun k hk e => hj.ne (by rw [hk, e])), hj.ne, hj.ge, hj.len⟩, fun _ _ h => h⟩, ?_⟩
  exact (hk.mono (fun _ _ h => .inl h)).step hk1 (fun _ _ h => .inr (.inl h))
theorem app_close_yes {w5 w6 : World} {s' : Sto} {v4 : Value} {to_ : Nat} (hst : StoAt w5 p g s') (hj : JAt base w5 jp p j lv l) (hk : Keeps (stoF p g) w w5) (hjp : ¬ stoF p g jp) (hlv : ∀ k, lv.ownBlock = some k → ¬ stoF p g k)
    (hb6 : Blk w6 jp 75 [ptr p, .int .i64 (j.from_ : Int), .int .i64 (j.n : Int), lv, .int .i64 (j.fin : Int), .bool j.down]) (hown6 : Mem.Own base w6 9 v4 (strs l ++ [str r])) (hgr6 : w5.grownBy w6 lv.ownBlock) (hmv6 : Moves w5 lv v4) (hne6 : v4.ownBlock ≠ some jp) (hto : to_ = j.fin + (r.length + 8)) :
    AppPost base w jp p g { j with fin := to_ } s' lv 0 (.returned (.int .i64 0)) ((w6.setCell ⟨jp, 3, none⟩ v4).setCell ⟨jp, 4, none⟩ (.int .i64 (to_ : Int))) := by
  simp only [stoF, not_or] at hjp
  have hk6 : Keeps (fun k => lv.ownBlock = some k) w5 w6 := (Keeps.refl _ w5).grown hgr6 (fun k hk => .inl hk)
  have hk7 : Keeps (fun k => k = jp) w6 ((w6.setCell ⟨jp, 3, none⟩ v4).setCell ⟨jp, 4, none⟩ (.int .i64 (to_ : Int))) := ((Keeps.refl _ w6).setCell (by simp) _).setCell (by simp) _
  have hlen := hj.len
  refine ⟨rfl, (hst.keeps hk6 (fun e => hlv _ e (.inl rfl)) (fun e => hlv _ e (.inr rfl))).keeps hk7 (fun e => hjp.1 e.symm) (fun e => hjp.2 e.symm), ⟨v4, l ++ [r], ⟨?_, ?_, hne6, hj.ge, ?_⟩, ?_⟩, ?_⟩
  · exact (hb6.set 3 v4).set 4 (.int .i64 (to_ : Int))
  · have e : strs (l ++ [r]) = strs l ++ [str r] := by simp [strs]
    rw [e]
    exact hk7.own hown6 (fun k hk e => hne6 (by rw [hk, e]))
  · simp only [List.length_append, List.length_singleton]; omega
  · intro k hk e
    by_cases h : lv.ownBlock = some k
    · exact h
    · exact absurd e (hmv6 k (Nat.lt_of_lt_of_le hk (Keeps.size ‹Keeps (stoF p g) w w5›)) h)
  · exact ((hk.mono (fun _ _ h => .inl h)).step hk6 (fun _ _ h => .inr (.inr h))).step hk7 (fun _ _ h => .inr (.inl h))

set_option maxHeartbeats 1000000 in
set_option maxRecDepth 20000 in
theorem app_main (h : StoAt w p g s) (hj : JAt base w jp p j lv l) (hr : okRec r = true) (ho : PartOk s j.from_ j.n) (hroom : (r.length + 8 : Nat) ≤ j.room) (hd : j.down = false) (hbase : base ≤ w.heap.size)
    (hjp : ¬ stoF p g jp) (hlv : ∀ k, lv.ownBlock = some k → ¬ stoF p g k) (r' : Int) (s' : Sto)
    (hput : put j.from_ ((partBytes s j.from_ j.n).take j.fin ++ frameOf r ++ zeros (32 * j.n - (j.fin + (r.length + 8)))) j.fin (j.fin + (r.length + 8)) true s = (r', s')) (j' : Jr) (hj' : j' = if r' = 0 then { j with fin := j.fin + (r.length + 8) } else { j with down := true }) :
    Calls Tryd.prog 24 #[ptr jp, str r] w (AppPost base w jp p g j' s' lv r') := by
  have HJ' := Lib.hid hj'
  clear hj'
  have hfl : (frameOf r).length = r.length + 8 := frameOf_len r
  have hle := ho.le
  have hhi := h.wf.hi
  have hn : j.n ≤ 256 := by omega
  have hxl := partBytes_len h.wf j.from_ j.n hle
  obtain ⟨b, n, fin, dn⟩ := j
  simp only [Jr.room] at *
  subst hd
  generalize hx : partBytes s b n = x at *
  obtain ⟨fr, hfr⟩ : ∃ fr, fr = frameOf r := ⟨_, rfl⟩
  rw [← hfr] at hfl hput
  obtain ⟨to_, hto⟩ : ∃ to_, to_ = fin + (r.length + 8) := ⟨_, rfl⟩
  rw [← hto] at hput HJ'
  have hto1 : to_ ≤ x.length := by omega
  have happ := app_bytes x fr fin to_ (by omega) hto1
  rw [hxl] at happ
  rw [← happ, List.append_assoc] at hput
  have hfin : fin ≤ x.length := by omega
  have hfl2 : (fr.length : Int) ≤ 32 * (n : Int) - (fin : Int) := by omega
  have hxl2 : x.length ≤ 8192 := by omega
  have hfrl : fr.length ≤ 8192 := by omega
  have hsum : (fin : Int) + (fr.length : Int) = (to_ : Int) := by omega
  have HH := Lib.hid (And.intro h (And.intro hj (And.intro hr (And.intro ho (And.intro hput (And.intro hx (And.intro hxl (And.intro hfl (And.intro hfr (And.intro hto hsum))))))))))
  clear h hj hr ho hput hx hxl hfl happ hroom hsum
  go_enter Tryd.func24, Tryd.ntmps24
  go_wp2_with fail
  refine (frame_yes r _ HH.out.2.2.1).mono ?_
  rintro e w1 ⟨rfl, hb1⟩
  rw [← hfr]
  clear hfr hto
  have HB := Lib.hid hb1
  clear hb1
  go_wp2_with fail
  have hj1 := HH.out.2.1.keeps (S := none') (.of_below HB.out) (fun h => h) (fun _ _ h => h)
  have c0 := hj1.blk.cell0
  have c1 := hj1.blk.cell1
  have c2 := hj1.blk.cell2
  have c4 := hj1.blk.cell4
  have c5 := hj1.blk.cell5
  refine (jroom_any base w1 jp p _ lv l hj1 hn (by simp only; omega)).mono ?_
  rintro e w2 ⟨rfl, q, rfl⟩
  have HJ1 := Lib.hid hj1
  clear hj1
  simp only [Jr.room]
  go_wp2_with fail
  have hk2 : Keeps none' w (w1.drewN q) := (Keeps.of_below HB.out : Keeps none' w w1).drewN q
  have hst2 := HH.out.1.keeps hk2 (fun h => h) (fun h => h)
  have hj2 := HH.out.2.1.keeps hk2 (fun h => h) (fun _ _ h => h)
  clear c0 c1 c2 c4 c5
  generalize w1.drewN q = w2 at *
  have HK2 := Lib.hid (And.intro hk2 (And.intro hst2 hj2))
  clear hk2 hst2 hj2 HJ1 HB
  refine (pbytes_any w2 p g b n s HK2.out.2.1 HH.out.2.2.2.1).mono ?_
  rintro e w3 ⟨rfl, hb3⟩
  rw [HH.out.2.2.2.2.2.1]
  have hk3 := HK2.out.1.below hb3
  have hst3 := HK2.out.2.1.below hb3
  have hj3 := HK2.out.2.2.keeps (S := none') (.of_below hb3) (fun h => h) (fun _ _ h => h)
  have c0 := hj3.blk.cell0
  have c1 := hj3.blk.cell1
  have c2 := hj3.blk.cell2
  have c4 := hj3.blk.cell4
  have HK3 := Lib.hid (And.intro hk3 (And.intro hst3 hj3))
  clear hk3 hst3 hj3 hb3
  have hsum := HH.out.2.2.2.2.2.2.2.2.2.2
  go_wp2_with fail
  clear hsum
  have ex1 : (⟨x.toArray⟩ : ByteArray).extract 0 fin = ⟨(x.take fin).toArray⟩ := by rw [bs_extract]; rfl
  have ex2 : (⟨x.toArray⟩ : ByteArray).extract to_ x.length = ⟨(x.drop to_).toArray⟩ := bs_extract_end x to_
  have l1 : (fin : Int) ≤ (x.length : Int) := by omega
  have l2 : (to_ : Int) ≤ (x.length : Int) := by omega
  have l3 : ¬ 9223372036854775807 < fin + fr.length := by omega
  have l4 : ¬ 9223372036854775807 < fin + fr.length + (x.length - to_) := by omega
  have l5 : ¬ 9223372036854775807 < min fin x.length + fr.length := by omega
  have l6 : ¬ 9223372036854775807 < min fin x.length + fr.length + (x.length - to_) := by omega
  have l7 : ¬ 9223372036854775807 < fin + (fr.length + (x.length - to_)) := by omega
  have hyl : (x.take fin ++ (fr ++ x.drop to_)).length = x.length := by
    have := HH.out.2.2.2.2.2.2.2.1
    have := HH.out.2.2.2.2.2.2.2.2.2.1
    simp only [List.length_append, List.length_take, List.length_drop]; omega
  have hy1 : to_ ≤ (x.take fin ++ (fr ++ x.drop to_)).length := by rw [hyl]; exact hto1
  have hy2 : (x.take fin ++ (fr ++ x.drop to_)).length ≤ 1000000 := by rw [hyl]; omega
  have HY := Lib.hid (And.intro hyl (And.intro hy1 hy2))
  clear hyl hy1 hy2
  go_region_held3 (fun w' => w'.cell? ⟨jp, 0, none⟩ = some (ptr p) ∧ w'.cell? ⟨jp, 1, none⟩ = some (.int .i64 (b : Int)) ∧ w'.cell? ⟨jp, 2, none⟩ = some (.int .i64 (n : Int)) ∧ w'.cell? ⟨jp, 4, none⟩ = some (.int .i64 (fin : Int))) (go_keep) ((first | (go_at_call 39; refine (cleared_any (x.take fin ++ (fr ++ x.drop to_)) to_ _ HY.out.2.1 HY.out.2.2).mono ?_; rintro e w4 ⟨rfl, hb4⟩; have k0 := cell_below hb4 c0; have k1 := cell_below hb4 c1; have k2 := cell_below hb4 c2; have k4 := cell_below hb4 c4; have HB4 := Lib.hid hb4) | (go_at_call 38; refine (put_any w4 p g b n fin to_ s (cleared (x.take fin ++ (fr ++ x.drop to_)) to_) true ((HK3.out.2.1.keeps (S := none') (Keeps.refl none' w3).drew (fun h => h) (fun h => h)).below HB4.out) HH.out.2.2.2.1 ((cleared_len _ _ HY.out.2.1).trans (HY.out.1.trans HH.out.2.2.2.2.2.2.1)) (by have := HH.out.2.2.2.2.2.2.1; omega) (by omega)).mono ?_; rintro e w5 ⟨rfl, hst5, hk5⟩; have k0' := hk5.cell k0 hjp; have k1' := hk5.cell k1 hjp; have k2' := hk5.cell k2 hjp; have k4' := hk5.cell k4 hjp)))
  rw [HH.out.2.2.2.2.1] at hst5 ⊢
  simp only at hst5
  have hk45 : Keeps (stoF p g) w3 w5 := ((Keeps.refl (stoF p g) w3).drew.below HB4.out).trans hk5
  have hj5 := HK3.out.2.2.keeps hk45 hjp hlv
  have hkw : Keeps (stoF p g) w w5 := (HK3.out.1.mono (fun _ _ h => h.elim)).trans hk45
  have HF := Lib.hid (And.intro hst5 (And.intro hj5 hkw))
  clear hst5 hk5 hk45 hkw k0 k1 k2 k4 k0' k1' k2' k4' c0 c1 c2 c4
  by_cases hr : r' = 0
  · subst hr
    have hj'' := HJ'.out
    rw [if_pos rfl] at hj''
    subst hj''
    have c1 := hj5.blk.cell3
    have c2 := hj5.blk.cell4
    have z1 := hj5.blk.free 3
    have z2 := hj5.blk.free 4
    have hlf := hj5.len
    simp only at hlf
    clear hj5
    go_wp2_with (at_builtin; refine wp_push (w := w5) E32 rfl _ _ rfl base lv (strs l) rfl (str r) rfl HF.out.2.1.own rfl ?c1 (by decide) ?c2 ?_)
    case c1 => first | omega | (rw [strs_length]; omega)
    case c2 => exact Nat.le_trans hbase HF.out.2.2.size
    intro v4 w6 hown6 hgr6 hmv6
    have hb6 := HF.out.2.1.blk.grown hgr6 HF.out.2.1.ne
    have d1 := hb6.cell3
    have d2 := hb6.cell4
    have y1 := hb6.free 3
    have y2 := hb6.free 4
    have hne6 := hmv6 jp HF.out.2.1.blk.lt HF.out.2.1.ne
    have HG := Lib.hid (And.intro hb6 (And.intro hown6 (And.intro hgr6 (And.intro hmv6 hne6))))
    clear hb6 hgr6 hmv6 hne6 c1 c2 z1 z2
    have hshape : ∃ A m c, v4 = .slice A m c := by
      rcases hown6.shape with ⟨e, _⟩ | ⟨g2, cc2, e, _⟩
      · exact ⟨_, _, _, e⟩
      · exact ⟨_, _, _, e⟩
    clear hown6
    obtain ⟨A4, m4, c4, rfl⟩ := hshape
    go_wp2
    go_ret
    exact app_close_yes HF.out.1 HF.out.2.1 HF.out.2.2 hjp hlv HG.out.1 HG.out.2.1 HG.out.2.2.1 HG.out.2.2.2.1 HG.out.2.2.2.2 HH.out.2.2.2.2.2.2.2.2.2.1
  · have hj'' := HJ'.out
    rw [if_neg hr] at hj''
    subst hj''
    have hr' : (r' != 0) = true := by simpa using hr
    have c5 := hj5.blk.cell5
    have z5 := hj5.blk.free 5
    clear hj5 hr
    go_wp2
    go_ret
    exact app_close_no HF.out.1 HF.out.2.1 HF.out.2.2 hjp

theorem appendJ_main (hr : okRec r = true) (hroom : ¬ j.room < (r.length + 8 : Nat)) (hd : j.down = false) :
    appendJ j r s = ((put j.from_ ((partBytes s j.from_ j.n).take j.fin ++ frameOf r ++ zeros (32 * j.n - (j.fin + (r.length + 8)))) j.fin (j.fin + (r.length + 8)) true s).1,
      if (put j.from_ ((partBytes s j.from_ j.n).take j.fin ++ frameOf r ++ zeros (32 * j.n - (j.fin + (r.length + 8)))) j.fin (j.fin + (r.length + 8)) true s).1 = 0 then { j with fin := j.fin + (r.length + 8) } else { j with down := true },
      (put j.from_ ((partBytes s j.from_ j.n).take j.fin ++ frameOf r ++ zeros (32 * j.n - (j.fin + (r.length + 8)))) j.fin (j.fin + (r.length + 8)) true s).2) := by
  unfold appendJ
  rw [if_neg (by simp [hr]), if_neg hroom, if_neg (by simp [hd])]
  simp only
  generalize put j.from_ ((partBytes s j.from_ j.n).take j.fin ++ frameOf r ++ zeros (32 * j.n - (j.fin + (r.length + 8)))) j.fin (j.fin + (r.length + 8)) true s = pr
  by_cases h0 : pr.1 = 0
  · simp only [h0, if_true]
  · simp only [h0, if_false]
theorem append_any (h : StoAt w p g s) (hj : JAt base w jp p j lv l) (hl : r.length ≤ 1000000) (ho : PartOk s j.from_ j.n) (hf : j.fin ≤ 1000000) (hbase : base ≤ w.heap.size)
    (hjp : ¬ stoF p g jp) (hlv : ∀ k, lv.ownBlock = some k → ¬ stoF p g k) :
    Calls Tryd.prog 24 #[ptr jp, str r] w (AppPost base w jp p g (appendJ j r s).2.1 (appendJ j r s).2.2 lv (appendJ j r s).1) := by
  have hn : j.n ≤ 256 := by have := ho.le; have := h.wf.hi; omega
  cases hr : okRec r with
  | false =>
    have e : appendJ j r s = (3, j, s) := by unfold appendJ; rw [if_pos hr]
    rw [e]
    exact app_bad h hj hl hr
  | true =>
    by_cases hroom : j.room < (r.length + 8 : Nat)
    · have e : appendJ j r s = (14, j, s) := by unfold appendJ; rw [if_neg (by simp [hr]), if_pos hroom]
      rw [e]
      exact app_full h hj hr hn hf hroom
    · cases hd : j.down with
      | true =>
        have e : appendJ j r s = (16, j, s) := by unfold appendJ; rw [if_neg (by simp [hr]), if_neg hroom, if_pos hd]
        rw [e]
        exact app_down h hj hr hn hf (Int.not_lt.1 hroom) hd
      | false =>
        have hm := app_main h hj hr ho (Int.not_lt.1 hroom) hd hbase hjp hlv _ _ rfl _ rfl
        rw [appendJ_main hr hroom hd]
        exact hm
end
end Go.Proofs.YtoldogkfeimojaaDoor.Hv
