/- One step of the proof of a statement of this seat: plain laws and walks of the store, log, journal and halves packages; no condition. -/
import Derived.Test.YtoldogkfeimojaaDoorHvSto3
import Derived.Test.YtoldogkfeimojaaDoorHvLog6
import Derived.Deep.RegionHeld3
import Derived.Deep.RegionWith
set_option linter.unusedVariables false
set_option linter.unusedSimpArgs false
open Go.RowKit
namespace Go.Proofs.YtoldogkfeimojaaDoor.Hv
open Go.Proofs.Hv Go.Proofs.Mem

theorem quiet_same {P : Program} {f : FuncId} {args : Array Value} {w : World} {n : Nat} {v : Value} (h : Calls P f args (w.drewN n) fun e w' => e = .returned v ∧ w.drewN n = w') : Calls P f args (w.drewN n) fun e w'' => e = .returned v ∧ ∃ m, w'' = w.drewN m :=
  Calls.quiet_of_same (h.mono fun _ _ ⟨h1, h2⟩ => ⟨h1, h2.symm⟩)
theorem StoAt.drewN {w : World} {p g : Nat} {s : Sto} (h : StoAt w p g s) (n : Nat) : StoAt (w.drewN n) p g s := h.keeps (S := none') ((Keeps.refl _ w).drewN n) (fun h => h) (fun h => h)
theorem StoAt.alloc {w : World} {p g : Nat} {s : Sto} (h : StoAt w p g s) (o : Obj) : StoAt (w.alloc o) p g s := h.below ((Below.refl _ _).alloc (Nat.le_refl _) o)

theorem part_bytes {s : Sto} (h : SWf s) (b n : Nat) (hn : b + n ≤ s.blocks.length) : (s.bytes.take ((b + n) * 32)).drop (b * 32) = partBytes s b n := by
  have e1 : s.bytes.take ((b + n) * 32) = (s.blocks.take (b + n)).flatten := by
    have e : s.bytes = (s.blocks.take (b + n)).flatten ++ (s.blocks.drop (b + n)).flatten := by rw [← List.flatten_append, List.take_append_drop]; rfl
    have hl := take_flat_len s.blocks h.each (b + n) hn
    rw [e, List.take_append_of_le_length (by omega), List.take_of_length_le (by omega)]
  rw [e1]
  have e2 : (s.blocks.take (b + n)).flatten = (s.blocks.take b).flatten ++ ((s.blocks.drop b).take n).flatten := by
    rw [← List.flatten_append, ← List.take_add]
  have hl := take_flat_len s.blocks h.each b (by omega)
  rw [e2, List.drop_append, List.drop_of_length_le (by omega), hl, show b * 32 - 32 * b = 0 by omega]
  rfl
theorem partBytes_len {s : Sto} (h : SWf s) (b n : Nat) (hn : b + n ≤ s.blocks.length) : (partBytes s b n).length = 32 * n := by
  rw [← part_bytes h b n hn, List.length_drop, List.length_take, h.size]
  omega
/-- such a part there is -/
structure PartOk (s : Sto) (b n : Nat) : Prop where
  n1 : 1 ≤ n
  le : b + n ≤ s.blocks.length
abbrev partV (p b n : Nat) : Value := .agg #[ptr p, .int .i64 (b : Int), .int .i64 (n : Int)]
set_option maxHeartbeats 400000 in
set_option maxRecDepth 20000 in
theorem is_any (w : World) (p g b n : Nat) (s : Sto) (h : StoAt w p g s) (ho : PartOk s b n) :
    Calls Tryd.prog 32 #[partV p b n] w (RetB (.bool true) w) := by
  have h1 := ho.n1
  have h2 := ho.le
  have h3 := h.wf.hi
  have i1 : (0 : Int) ≤ (b : Int) := by omega
  have i2 : (1 : Int) ≤ (n : Int) := by omega
  have i3 : (b : Int) < (s.blocks.length : Int) := by omega
  have i4 : (n : Int) ≤ (s.blocks.length : Int) - (b : Int) := by omega
  have i5 : IntKind.i64.wrap ((s.blocks.length : Int) - (b : Int)) = (s.blocks.length : Int) - (b : Int) := by rw [IntKind.wrap_i64]; omega
  have d1 : decide ((0 : Int) ≤ (b : Int)) = true := decide_eq_true i1
  have d2 : decide ((1 : Int) ≤ (n : Int)) = true := by simpa using i2
  have d3 : decide ((b : Int) < (s.blocks.length : Int)) = true := by simpa using i3
  have d4 : decide ((n : Int) ≤ (s.blocks.length : Int) - (b : Int)) = true := by simpa using i4
  have HH := Lib.hid h
  clear h ho h3
  go_enter Tryd.func32, Tryd.ntmps32
  go_wp2
  go_quiet ((go_at_call 18; exact quiet_same (blocks_any _ p g s ((HH.out.alloc _).drewN _))))
  go_wp2
  go_ret
  exact ⟨rfl, (((Keeps.refl none' w).alloc _).drewN _).to_below0⟩

set_option maxHeartbeats 400000 in
set_option maxRecDepth 20000 in
theorem pbytes_any (w : World) (p g b n : Nat) (s : Sto) (h : StoAt w p g s) (ho : PartOk s b n) :
    Calls Tryd.prog 34 #[partV p b n] w (RetB (str (partBytes s b n)) w) := by
  have h1 := ho.n1
  have h2 := ho.le
  have h3 := h.wf.hi
  have e1 : IntKind.i64.wrap ((b : Int) * 32) = (b : Int) * 32 := by rw [IntKind.wrap_i64]; omega
  have e2 : IntKind.i64.wrap ((b : Int) + (n : Int)) = (b : Int) + (n : Int) := by rw [IntKind.wrap_i64]; omega
  have e3 : IntKind.i64.wrap (((b : Int) + (n : Int)) * 32) = ((b : Int) + (n : Int)) * 32 := by rw [IntKind.wrap_i64]; omega
  have HH := Lib.hid h
  clear h ho h3
  go_enter Tryd.func34, Tryd.ntmps34
  go_wp2
  obtain ⟨w0, hw0⟩ : ∃ w0, w0 = w.alloc (.cells #[ptr p, .int .i64 (b : Int), .int .i64 (n : Int)] 67) := ⟨_, rfl⟩
  have hB : Blk w0 w.heap.size 67 [ptr p, .int .i64 (b : Int), .int .i64 (n : Int)] := by rw [hw0]; exact Blk.new w _ _
  have hk : Below w.heap.size w w0 := by rw [hw0]; exact (Below.refl _ _).alloc (Nat.le_refl _) _
  rw [← hw0]
  clear hw0
  have c0 := hB.cell0
  have c1 := hB.cell1
  have c2 := hB.cell2
  have HK := Lib.hid (And.intro hB hk)
  clear hB hk
  have c0' : w0.drew.cell? ⟨w.heap.size, 0, none⟩ = some (ptr p) := c0
  have c1' : w0.drew.cell? ⟨w.heap.size, 1, none⟩ = some (.int .i64 (b : Int)) := c1
  have c2' : w0.drew.cell? ⟨w.heap.size, 2, none⟩ = some (.int .i64 (n : Int)) := c2
  have hst : StoAt w0.drew p g s := (HH.out.below HK.out.2).drewN 1
  have l1 : b * 32 ≤ (b + n) * 32 := by omega
  have l2 : (b + n) * 32 ≤ s.bytes.length := by rw [HH.out.wf.size]; omega
  have l3 : (b : Int) * 32 ≤ ((b : Int) + (n : Int)) * 32 := by omega
  have l4 : ((b : Int) + (n : Int)) * 32 ≤ (s.bytes.length : Int) := by omega
  have l7 : (b : Int) ≤ (b : Int) + (n : Int) := by omega
  have l5 : (0 : Int) ≤ (b : Int) * 32 := by omega
  have l6 : (0 : Int) ≤ ((b : Int) + (n : Int)) * 32 := by omega
  have t1 : ((b : Int) * 32).toNat = b * 32 := by omega
  have t2 : (((b : Int) + (n : Int)) * 32).toNat = (b + n) * 32 := by omega
  have hex : (⟨s.bytes.toArray⟩ : ByteArray).extract (b * 32) ((b + n) * 32) = ⟨(partBytes s b n).toArray⟩ := by rw [bs_extract, part_bytes HH.out.wf b n h2]
  have HC := Lib.hid (And.intro hst (And.intro c0' (And.intro c1' c2')))
  clear hst c0' c1' c2' h1 h2
  go_region_held3 (fun w' => w'.cell? ⟨w.heap.size, 0, none⟩ = some (ptr p) ∧ w'.cell? ⟨w.heap.size, 1, none⟩ = some (.int .i64 (b : Int)) ∧ w'.cell? ⟨w.heap.size, 2, none⟩ = some (.int .i64 (n : Int))) (go_keep) ((go_at_call 36; refine (bytes_any _ p g s HC.out.1).mono ?_; rintro e w1 ⟨rfl, hb1⟩; have k0 := cell_below hb1 HC.out.2.1; have k1 := cell_below hb1 HC.out.2.2.1; have k2 := cell_below hb1 HC.out.2.2.2))
  have HE := Lib.hid ((((Keeps.of_below HK.out.2 : Keeps none' w w0).drew).below hb1).to_below0)
  clear hb1 k0 k1 k2 c0 c1 c2
  go_wp2
  go_ret
  exact ⟨rfl, HE.out⟩
end Go.Proofs.YtoldogkfeimojaaDoor.Hv
