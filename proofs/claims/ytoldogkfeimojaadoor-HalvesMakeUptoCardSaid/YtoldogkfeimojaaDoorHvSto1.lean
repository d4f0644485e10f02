/- One step of the proof of a statement of this seat: plain laws and walks of the store, log, journal and halves packages; no condition. -/
import Derived.Test.YtoldogkfeimojaaDoorHvBase
import Derived.Test.YtoldogkfeimojaaDoorHvStr
import Derived.Test.YtoldogkfeimojaaDoorHvModel
set_option linter.unusedVariables false
set_option linter.unusedSimpArgs false
open Go.RowKit
namespace Go.Proofs.YtoldogkfeimojaaDoor.Hv
open Go.Proofs.Hv Go.Proofs.Mem

theorem ret_int {k : IntKind} {a b : Int} (h : a = b) : Ending.returned (.int k a) = .returned (.int k b) := by rw [h]
/-- a store is as one that New made -/
structure SWf (s : Sto) : Prop where
  lo : 1 ≤ s.blocks.length
  hi : s.blocks.length ≤ 256
  each : ∀ i, i < s.blocks.length → (s.blk i).length = 32
  fuse : -1 ≤ s.fuse
  fuse' : s.fuse ≤ 9223372036854775807
  pre : s.pre ≤ 32

abbrev ptr (g : Nat) : Value := .pointer (some ⟨g, 0, none⟩)
def stoCells (g : Nat) (s : Sto) (k : Int) : List Value := [.slice (some ⟨g, 0, none⟩) s.blocks.length s.blocks.length, .int .i64 s.fuse, .int .i64 (s.pre : Int), .bool s.down, .int .i64 k]
/-- the store s lies in block p, its bytes in block g -/
structure StoAt (w : World) (p g : Nat) (s : Sto) : Prop where
  wf : SWf s
  top : ∃ k, Blk w p 45 (stoCells g s k)
  row : Blk w g 95 (u8s s.bytes)
  ne : p ≠ g
abbrev stoF (p g : Nat) : Nat → Prop := fun k => k = p ∨ k = g
theorem StoAt.keeps {S : Nat → Prop} {w w' : World} {p g : Nat} {s : Sto} (h : StoAt w p g s) (hk : Keeps S w w') (h1 : ¬ S p) (h2 : ¬ S g) : StoAt w' p g s :=
  ⟨h.wf, h.top.imp fun _ hb => hb.keeps hk h1, h.row.keeps hk h2, h.ne⟩
theorem StoAt.below {w w' : World} {p g : Nat} {s : Sto} (h : StoAt w p g s) (hk : Below w.heap.size w w') : StoAt w' p g s := h.keeps (S := none') (.of_below hk) (fun h => h) (fun h => h)
theorem StoAt.lt {w : World} {p g : Nat} {s : Sto} (h : StoAt w p g s) : p < w.heap.size ∧ g < w.heap.size := ⟨h.top.choose_spec.lt, h.row.lt⟩

theorem blocks_any (w : World) (p g : Nat) (s : Sto) (h : StoAt w p g s) :
    Calls Tryd.prog 18 #[ptr p] w fun e w' => e = .returned (.int .i64 (s.blocks.length : Int)) ∧ w = w' := by
  obtain ⟨k, ht⟩ := h.top
  have h0 := ht.cell0
  clear h ht
  go_enter Tryd.func18, Tryd.ntmps18
  go_wp2
  go_ret
  exact ⟨rfl, rfl⟩

def mayV (s : Sto) (i : Int) : Int := if s.down then 16 else if i < 0 ∨ (s.blocks.length : Int) ≤ i then 3 else 0
theorem may_any (w : World) (p g : Nat) (s : Sto) (i : Int) (h : StoAt w p g s) :
    Calls Tryd.prog 53 #[ptr p, .int .i64 i] w fun e w' => e = .returned (.int .i64 (mayV s i)) ∧ w = w' := by
  obtain ⟨k, ht⟩ := h.top
  have h0 := ht.cell0
  have h3 := ht.cell3
  clear h ht
  by_cases hd : s.down = true
  · have HV := Lib.hid (show mayV s i = 16 by unfold mayV; rw [if_pos hd])
    go_enter Tryd.func53, Tryd.ntmps53
    go_wp2
    go_ret
    exact ⟨ret_int HV.out.symm, rfl⟩
  · have hd' : s.down = false := by simpa using hd
    clear hd
    by_cases hi : i < 0
    · have HV := Lib.hid (show mayV s i = 3 by unfold mayV; rw [if_neg (by simp [hd']), if_pos (.inl hi)])
      go_enter Tryd.func53, Tryd.ntmps53
      go_wp2
      go_ret
      exact ⟨ret_int HV.out.symm, rfl⟩
    · by_cases hl : (s.blocks.length : Int) ≤ i
      · have HV := Lib.hid (show mayV s i = 3 by unfold mayV; rw [if_neg (by simp [hd']), if_pos (.inr hl)])
        go_enter Tryd.func53, Tryd.ntmps53
        go_wp2
        go_ret
        exact ⟨ret_int HV.out.symm, rfl⟩
      · have HV := Lib.hid (show mayV s i = 0 by unfold mayV; rw [if_neg (by simp [hd']), if_neg (by omega)])
        go_enter Tryd.func53, Tryd.ntmps53
        go_wp2
        go_ret
        exact ⟨ret_int HV.out.symm, rfl⟩

def StoPost (w : World) (p g : Nat) (s : Sto) (v : Value) (e : Ending) (w' : World) : Prop := e = .returned v ∧ StoAt w' p g s ∧ Keeps (stoF p g) w w'
def StoPost0 (w : World) (p g : Nat) (s : Sto) (e : Ending) (w' : World) : Prop := (∃ v, e = .returned v) ∧ StoAt w' p g s ∧ Keeps (stoF p g) w w'
theorem up_wf {s : Sto} (h : SWf s) : SWf (up s) := ⟨h.lo, h.hi, h.each, by simp [up], by simp [up], h.pre⟩
theorem up_any (w : World) (p g : Nat) (s : Sto) (h : StoAt w p g s) :
    Calls Tryd.prog 12 #[ptr p] w (StoPost0 w p g (up s)) := by
  obtain ⟨k, ht⟩ := h.top
  have h0 := ht.cell1
  have h3 := ht.cell3
  have f0 := ht.free 1
  have f3 := ht.free 3
  have HH := Lib.hid (And.intro h ht)
  clear h ht
  go_enter Tryd.func12, Tryd.ntmps12
  go_wp2
  go_end0
  obtain ⟨h, ht⟩ := HH.out
  exact ⟨⟨_, rfl⟩, ⟨up_wf h.wf, ⟨k, (ht.set 3 (.bool false)).set 1 (.int .i64 (-1))⟩, (h.row.other _ _ (Ne.symm h.ne)).other _ _ (Ne.symm h.ne), h.ne⟩, ((Keeps.refl _ w).setCell (by simp [stoF]) _).setCell (by simp [stoF]) _⟩

theorem fuse_wf {s : Sto} (h : SWf s) (n m : Int) (hn : n ≤ 9223372036854775807) : SWf (setFuse s n m) :=
  ⟨h.lo, h.hi, h.each, by simp [setFuse]; omega, by simp [setFuse]; omega, by simp only [setFuse]; omega⟩
theorem sto_fuse {w : World} {p g : Nat} {s : Sto} {n m x y k : Int} {v : Value} (h : StoAt w p g s) (ht : Blk w p 45 (stoCells g s k)) (hn : n ≤ 9223372036854775807) (hx : x = max n (-1)) (hy : y = (((max m 0).toNat % 33 : Nat) : Int)) :
    StoPost0 w p g (setFuse s n m) (.returned v) ((w.setCell ⟨p, 1, none⟩ (.int .i64 x)).setCell ⟨p, 2, none⟩ (.int .i64 y)) := by
  subst hx hy
  exact ⟨⟨_, rfl⟩, ⟨fuse_wf h.wf n m hn, ⟨k, (ht.set 1 _).set 2 _⟩, (h.row.other _ _ (Ne.symm h.ne)).other _ _ (Ne.symm h.ne), h.ne⟩, ((Keeps.refl _ w).setCell (by simp [stoF]) _).setCell (by simp [stoF]) _⟩
theorem fuse_any (w : World) (p g : Nat) (s : Sto) (n m : Int) (h : StoAt w p g s) (h1 : -9223372036854775808 ≤ n) (h2 : n ≤ 9223372036854775807) (h3 : -9223372036854775808 ≤ m) (h4 : m ≤ 9223372036854775807) :
    Calls Tryd.prog 8 #[ptr p, .int .i64 n, .int .i64 m] w (StoPost0 w p g (setFuse s n m)) := by
  obtain ⟨k, ht⟩ := h.top
  have c0 := ht.cell1
  have c3 := ht.cell2
  have f0 := ht.free 1
  have f3 := ht.free 2
  have HH := Lib.hid (And.intro h ht)
  clear h ht
  go_enter Tryd.func8, Tryd.ntmps8
  go_wp2
  all_goals
    go_end0
    exact sto_fuse HH.out.1 HH.out.2 h2 (by omega) (by omega)

theorem new_wf {n : Nat} (h1 : 1 ≤ n) (h2 : n ≤ 256) : SWf (newSto n) :=
  ⟨by simpa [newSto] using h1, by simpa [newSto] using h2, fun i hi => by
    have : i < n := by simpa [newSto] using hi
    simp [Sto.blk, newSto, zeros, List.getD_eq_getElem?_getD, this], by simp [newSto], by simp [newSto], by simp [newSto]⟩
def NewPost (w : World) (n : Int) (e : Ending) (w' : World) : Prop :=
  Below w.heap.size w w' ∧ ((1 ≤ n ∧ n ≤ 256) ∧ (∃ p g, e = .returned (.tuple #[ptr p, .int .i64 0]) ∧ StoAt w' p g (newSto n.toNat) ∧ w.heap.size ≤ p ∧ w.heap.size ≤ g) ∨ ¬ (1 ≤ n ∧ n ≤ 256) ∧ e = .returned (.tuple #[.pointer none, .int .i64 1]))
theorem new_no (w : World) (n : Int) (h : ¬ (1 ≤ n ∧ n ≤ 256)) : Calls Tryd.prog 6 #[.int .i64 n] w (NewPost w n) := by
  by_cases h1 : n < 1
  · have HH := Lib.hid h
    clear h
    go_enter Tryd.func6, Tryd.ntmps6
    go_wp2
    go_ret2
    exact ⟨Below.refl _ _, .inr ⟨HH.out, rfl⟩⟩
  · have h2 : 256 < n := by omega
    have HH := Lib.hid h
    clear h
    go_enter Tryd.func6, Tryd.ntmps6
    go_wp2
    go_ret2
    exact ⟨Below.refl _ _, .inr ⟨HH.out, rfl⟩⟩
theorem made_zero (n : Nat) : (madeCells (Array.replicate 32 (Value.int .u8 0)) (n * 32)).toList = u8s (newSto n).bytes := by
  have h : (newSto n).bytes = List.replicate (n * 32) 0 := by
    unfold Sto.bytes newSto zeros
    exact List.flatten_replicate_replicate
  rw [h]
  apply List.ext_getElem
  · simp [madeCells, u8s]
  · intro i h1 h2
    have : i % 32 < 32 := Nat.mod_lt _ (by omega)
    simp [madeCells, u8s, this]
theorem new_cells (w : World) (g n : Nat) : Blk (w.alloc (.cells #[.slice (some ⟨g, 0, none⟩) n n, .int .i64 (-1), .int .i64 0, .bool false, .int .i64 0] 45)) w.heap.size 45 (stoCells g (newSto n) 0) := by
  have := Blk.new w 45 [.slice (some ⟨g, 0, none⟩) n n, .int .i64 (-1), .int .i64 0, .bool false, .int .i64 0]
  have e : stoCells g (newSto n) 0 = [.slice (some ⟨g, 0, none⟩) n n, .int .i64 (-1), .int .i64 0, .bool false, .int .i64 0] := by simp [stoCells, newSto]
  rw [e]
  exact this
theorem new_yes (w : World) (n : Nat) (h1 : 1 ≤ n) (h2 : n ≤ 256) : Calls Tryd.prog 6 #[.int .i64 n] w (NewPost w n) := by
  go_enter Tryd.func6, Tryd.ntmps6
  go_wp2_with (refine wp_makeBlk rfl _ _ 43 rfl 95 (.agg (Array.replicate 32 (Value.int .u8 0))) 32 32 Tryd.underlying43 (by kernel_rfl) n rfl rfl (by omega) (by unfold maxLen; omega) ?_)
  intro w1 hB hb hs
  rw [made_zero] at hB
  have HB := Lib.hid hB
  clear hB
  go_wp2
  go_ret2
  exact ⟨hb.alloc (by omega) _, .inl ⟨by omega, w1.heap.size, w.heap.size, rfl, ⟨new_wf h1 h2, ⟨0, new_cells w1 _ n⟩, HB.out.alloc _, by omega⟩, by omega, Nat.le_refl _⟩⟩
theorem new_any (w : World) (n : Int) : Calls Tryd.prog 6 #[.int .i64 n] w (NewPost w n) := by
  by_cases h : 1 ≤ n ∧ n ≤ 256
  · obtain ⟨m, rfl⟩ := Int.eq_ofNat_of_zero_le (show 0 ≤ n by omega)
    exact new_yes w m (by omega) (by omega)
  · exact new_no w n h
end Go.Proofs.YtoldogkfeimojaaDoor.Hv
