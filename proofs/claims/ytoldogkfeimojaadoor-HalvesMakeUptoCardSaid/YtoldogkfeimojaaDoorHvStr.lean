/- One step of the proof of a statement of this seat: plain laws and walks of the store, log, journal and halves packages; no condition. -/
import Derived.Test.YtoldogkfeimojaaDoorHvKeep
import Derived.Laws.IdiomStrings
import Derived.Laws.BytesArg
import Derived.Laws.CopyOwn
import Derived.Laws.Tables
set_option linter.unusedVariables false
set_option linter.unusedSimpArgs false
/-! strings as bytes, bytes as strings; a row read and written in parts -/
open Go.RowKit
namespace Go.Proofs.Mem

abbrev str (l : List UInt8) : Value := .string ⟨l.toArray⟩
def u8s (l : List UInt8) : List Value := l.map fun b => Value.int .u8 (b.toNat : Int)
theorem u8s_length (l : List UInt8) : (u8s l).length = l.length := by simp [u8s]
theorem u8s_get (l : List UInt8) (i : Nat) (h : i < l.length) : (u8s l)[i]'(by rw [u8s_length]; exact h) = .int .u8 (l[i].toNat : Int) := by simp [u8s]
theorem u8s_append (a b : List UInt8) : u8s (a ++ b) = u8s a ++ u8s b := by simp [u8s]
theorem u8s_one (l : List UInt8) : ∀ v ∈ u8s l, v.oneCell' = true := by
  intro v hv
  obtain ⟨b, _, rfl⟩ := List.mem_map.1 hv
  rfl
theorem bs_append (a b : List UInt8) : (⟨a.toArray⟩ : ByteArray) ++ (⟨b.toArray⟩ : ByteArray) = ⟨(a ++ b).toArray⟩ := by
  apply ByteArray.ext
  simp
theorem bs_extract (l : List UInt8) (a b : Nat) : (⟨l.toArray⟩ : ByteArray).extract a b = ⟨((l.take b).drop a).toArray⟩ := by
  apply ByteArray.ext
  rw [ByteArray.data_extract]
  simp [List.extract_toArray, List.extract_eq_take_drop, List.drop_take]
theorem bs_get (l : List UInt8) (i : Nat) (h : i < (⟨l.toArray⟩ : ByteArray).size) : (⟨l.toArray⟩ : ByteArray)[i]'h = l[i]'(by simpa [ByteArray.size] using h) := rfl
theorem i64_or_nat (a b : Nat) (ha : a < 4611686018427387904) (hb : b < 4611686018427387904) : bits .or .i64 (a : Int) (b : Int) = ((a ||| b : Nat) : Int) :=
  (bits_nat .i64 62 (by decide) (fun n h0 h1 => by rw [IntKind.wrap_i64]; omega) a b (by omega) (by omega)).2
theorem str_of (s : ByteArray) : Value.string s = str s.data.toList := by cases s; rfl

section
variable {P : Program} {ops : Array Oper} {rest : List Oper} {o : Oper} {a : Act} {Q : Exit → Act → World → Prop}

/-- []byte(s) -/
theorem wp_bytes {w : World} (hg : o.guard = none) (src dst e : TypeId) (x : Operand) (ho : o.op = .convert src dst x) (hs : P.underlying src = some .string) (hd : P.underlying dst = some (.slice e)) (he : P.underlying e = some (.int .u8)) (l : List UInt8) (hx : a.eval x = str l)
    (h : ∀ w' c, l.length ≤ c → Rd w' (some ⟨w.heap.size, 0, none⟩) (u8s l) → Below w.heap.size w w' → w.heap.size < w'.heap.size → wpList P ops Q rest (a.put o.dst (.slice (some ⟨w.heap.size, 0, none⟩) l.length c)) w') : wpList P ops Q (o :: rest) a w := by
  refine wpList_plain hg fun K hK => ?_
  have hrun := run_bytes_of_string (P := P) w src dst e ⟨l.toArray⟩ hs hd he
  unfold Oper.wp execOp
  simp only [ho, hx, Sem.run_bind, hrun, Result.andThen_ok, Sem.run_pure]
  have hcap : l.length ≤ grownCap w l.length 0 e := grownCap_ge _ _ _ _
  refine hK _ _ (h _ _ hcap ⟨fun i hi => ⟨_, _, rfl, fun j hj => ?_⟩⟩ ?_ ?_)
  · rw [Nat.zero_add]
    have hj' : j < l.length := by rw [u8s_length] at hj; exact hj
    have := World.cell?_alloc_mark w.drew (bytesRow ⟨l.toArray⟩ (grownCap w l.length 0 e)) e ((bytesRow ⟨l.toArray⟩ (grownCap w l.length 0 e)).size, (bytesRow ⟨l.toArray⟩ (grownCap w l.length 0 e)).size + 1) j
    refine this.trans ?_
    rw [bytesRow_at _ _ j (by simpa using hj'), u8s_get l j hj']
    simp
  · exact ((Below.refl _ _).drew).alloc (Nat.le_refl _) _
  · simp

/-- string(b) -/
theorem wp_text {w : World} (hg : o.guard = none) (src dst e : TypeId) (x : Operand) (ho : o.op = .convert src dst x) (hs : P.underlying src = some (.slice e)) (he : P.underlying e = some (.int .u8)) (hd : P.underlying dst = some .string) (l : List UInt8) (A : Option Addr) (n c : Nat)
    (hx : a.eval x = .slice A n c) (hn : n = l.length) (hr : Rd w A (u8s l)) (h : wpList P ops Q rest (a.put o.dst (str l)) w) : wpList P ops Q (o :: rest) a w := by
  refine wpList_plain hg fun K hK => ?_
  subst hn
  have hrun : (convert src dst (.slice A l.length c)).run P w = .ok (str l) w := by
    cases A with
    | none =>
      have h0 : l = [] := by
        cases l with
        | nil => rfl
        | cons y r => obtain ⟨b, o, hh, _⟩ := hr.at_ 0 (by simp [u8s]); cases hh
      subst h0
      exact run_convert_bytes_nil w src e hs he _ _ dst hd
    | some ad =>
      refine run_convert_bytes_back w src dst e ad c l hs he hd fun j hj => ?_
      obtain ⟨b, o, e, hc⟩ := hr.at_ j (by rw [u8s_length]; exact hj)
      cases e
      rw [add_lit, hc j (by rw [u8s_length]; exact hj), u8s_get l j hj]
  unfold Oper.wp execOp
  simp only [ho, hx, Sem.run_bind, hrun, Result.andThen_ok, Sem.run_pure]
  exact hK _ _ h

/-- a whole element of several cells, loaded out of a row -/
theorem wp_loadSeg {w : World} (hg : o.guard = none) (ty : TypeId) (x : Operand) (ho : o.op = .load ty x) (g off : Nat) (hx : a.eval x = .pointer (some ⟨g, off, none⟩)) (t : TypeId) (cs vs : List Value) (d : TypeDesc) (hb : Blk w g t cs)
    (hu : P.underlying ty = some d) (hd : (match d with | .struct _ | .array _ _ => true | _ => false) = true) (m : Nat) (hi : (P.info? ty).map (·.size) = some m) (hvl : vs.length = m) (hv : vs = (cs.drop off).take m)
    (h : wpList P ops Q rest (a.put o.dst (.agg vs.toArray)) w) : wpList P ops Q (o :: rest) a w := by
  refine wpList_plain hg fun K hK => ?_
  have hl : (loadCells ⟨g, off, none⟩ vs.length).run P w = .ok vs.toArray w :=
    run_loadCells_list (P := P) w ⟨g, off, none⟩ vs (fun j v hj => by
      rw [add_lit]
      obtain ⟨hj', rfl⟩ := List.getElem?_eq_some_iff.1 hj
      have e : vs[j]? = cs[off + j]? := by
        have h3 := congrArg (fun l : List Value => l[j]?) hv
        simp only [List.getElem?_take, if_pos (show j < m by omega), List.getElem?_drop] at h3
        exact h3
      rw [hj] at e
      obtain ⟨h1, h2⟩ := List.getElem?_eq_some_iff.1 e.symm
      rw [hb.cell (off + j) h1, h2])
  have hrun : (loadVar ty ⟨g, off, none⟩).run P w = .ok (.agg vs.toArray) w := by
    cases hq : P.info? ty with
    | none => simp [hq] at hi
    | some i =>
      have hs : i.size = vs.length := by rw [hvl]; simpa [hq] using hi
      have hagg : (isAgg ty).run P w = .ok true w := by
        unfold isAgg
        rw [Sem.run_bind, run_underlying hu w]
        cases d <;> simp_all
      simp [loadVar, Sem.run_bind, hagg, sizeOf, typeInfo, hq, hs, hl]
  unfold Oper.wp execOp
  simp only [ho, hx, Instr.loadAt, Instr.sureAddr, Sem.run_bind, Sem.run_pure, Result.andThen_ok, hrun]
  exact hK _ _ h

theorem run_copyString {w : World} (dT sT rT : TypeId) (elem : TypeId) (hu : P.underlying dT = some (.slice elem)) (hsz : (P.info? elem).map (·.size) = some 1)
    (g off n c : Nat) (l : List UInt8) (hln : l.length ≤ n) (t : TypeId) (cs : List Value) (hb : Blk w g t cs) (hfit : off + l.length ≤ cs.length) :
    (Builtin.copy_ #[dT, sT] rT #[.slice (some ⟨g, off, none⟩) n c, str l]).run P w = .ok (.int .i64 (l.length : Int)) (w.setRow g (splice cs off (u8s l)).toArray) := by
  have hst := run_storeCells_at (P := P) g off t (u8s l) 0 cs.toArray w hb (by rw [u8s_length]; simpa using hfit) (u8s_one l)
  have hsz' : (sizeOf elem).run P w = .ok 1 w := by
    cases hq : P.info? elem with
    | none => simp [hq] at hsz
    | some i =>
      have h1 : i.size = 1 := by simpa [hq] using hsz
      simp [sizeOf, typeInfo, hq, h1]
  have hmin : Nat.min l.length n = l.length := Nat.min_eq_left hln
  have hsize : (⟨l.toArray⟩ : ByteArray).size = l.length := by simp [ByteArray.size]
  unfold Builtin.copy_
  simp only [Nat.add_zero, List.toList_toArray] at hst
  simp [Sem.run_bind, run_underlying hu, Builtin.lenOf, Builtin.firstCells, hsize, hmin, hsz', goInt]
  rw [List.take_of_length_le (by simp)]
  have e : List.map (fun b => Value.int IntKind.u8 ↑b.toNat) l = u8s l := rfl
  rw [e, hst]
  simp [splice]

/-- copy(dst, s), s a string, into a block known whole -/
theorem wp_copyString {w : World} (hg : o.guard = none) (d s : Operand) (dT sT : TypeId) (ho : o.op = .call { callee := .builtin .copy, args := #[d, s], argTypes := #[dT, sT] }) (elem : TypeId) (hu : P.underlying dT = some (.slice elem)) (hsz : (P.info? elem).map (·.size) = some 1)
    (g off n c : Nat) (hd : a.eval d = .slice (some ⟨g, off, none⟩) n c) (l : List UInt8) (hs : a.eval s = str l) (hln : l.length ≤ n) (t : TypeId) (cs : List Value) (hb : Blk w g t cs) (hfit : off + l.length ≤ cs.length)
    (h : ∀ w', Blk w' g t (splice cs off (u8s l)) → Keeps (fun k => k = g) w w' → wpList P ops Q rest (a.put o.dst (.int .i64 (l.length : Int))) w') : wpList P ops Q (o :: rest) a w := by
  refine wpList_plain hg fun K hK => ?_
  have hrun := run_copyString (P := P) dT sT o.type elem hu hsz g off n c l hln t cs hb hfit
  unfold Oper.wp
  simp [execOp, ho, resolve, invoke, builtin, hd, hs, hrun, Result.andThen]
  exact hK _ _ (h _ hb.row ((Keeps.refl _ w).setRow (by simp) _))

/-- the same as one step of a region that draws its order -/
theorem step_copyString {w : World} {K : Act → World → Prop} {E : Prop} (hg : o.guard = none) (d s : Operand) (dT sT : TypeId) (ho : o.op = .call { callee := .builtin .copy, args := #[d, s], argTypes := #[dT, sT] }) (elem : TypeId) (hu : P.underlying dT = some (.slice elem)) (hsz : (P.info? elem).map (·.size) = some 1)
    (g off n c : Nat) (hd : a.eval d = .slice (some ⟨g, off, none⟩) n c) (l : List UInt8) (hs : a.eval s = str l) (hln : l.length ≤ n) (t : TypeId) (cs : List Value) (hb : Blk w g t cs) (hfit : off + l.length ≤ cs.length)
    (h : ∀ w', Blk w' g t (splice cs off (u8s l)) → Keeps (fun k => k = g) w w' → K (a.put o.dst (.int .i64 (l.length : Int))) w') : if Region.wanted o (yielded ops a.tmps) = true then Oper.wp P o a w K Q else E := by
  have hw : Region.wanted o (yielded ops a.tmps) = true := by simp [Region.wanted, hg]
  rw [if_pos hw]
  have hrun := run_copyString (P := P) dT sT o.type elem hu hsz g off n c l hln t cs hb hfit
  unfold Oper.wp
  simp [execOp, ho, resolve, invoke, builtin, hd, hs, hrun, Result.andThen]
  exact h _ hb.row ((Keeps.refl _ w).setRow (by simp) _)

/-- a whole value of several cells, stored into a new block -/
theorem wp_storeNew {w : World} (hg : o.guard = none) (ty : TypeId) (x y : Operand) (ho : o.op = .store ty x y) (cells : List Value) (hx : a.eval x = .pointer (some ⟨w.heap.size, 0, none⟩)) (hy : a.eval y = .agg cells.toArray) (t : TypeId) (old : Array Value) (m : Nat)
    (hi : (P.info? ty).map (·.size) = some m) (hcl : cells.length = m) (hold : old.size = m) (h1 : ∀ v ∈ cells, v.oneCell' = true)
    (h : ∀ w', Blk w' w.heap.size t cells → Below w.heap.size w w' → w'.heap.size = w.heap.size + 1 → wpList P ops Q rest (a.put o.dst undef) w') : wpList P ops Q (o :: rest) a (w.alloc (.cells old t)) := by
  subst hcl
  refine wpList_store_row hg ty x y ho w.heap.size cells.toArray hx hy t old (heap_alloc_new w _) (by simpa using hi) (by simpa using hold) (by rw [Array.all_eq_true_iff_forall_mem]; intro v hv; exact h1 v (by simpa using hv)) (h _ ?_ ?_ ?_)
  · exact setRow_heap _ _ _ _ t _ (heap_alloc_new w _)
  · exact (((Keeps.refl none' w).alloc _).setRow (g := w.heap.size) (.inr (Nat.le_refl _)) _).to_below0
  · simp
/-- make([]T, n) of elements of several cells: the block is known whole -/
theorem wp_makeBlk {w : World} (hg : o.guard = none) (l c : Operand) (t : TypeId) (hop : o.op = Op.makeSlice t l c) (e : TypeId) (z : Value) (size bytes : Nat) (h1 : P.underlying t = some (.slice e)) (hi : (P.info? e).map (fun i => (i.zero, i.size, i.bytes)) = some (some z, size, bytes))
    (n : Nat) (hl : a.eval l = .int .i64 (n : Int)) (hc : a.eval c = .int .i64 (n : Int)) (b2 : bytes * n ≤ 281474976710656) (b3 : n ≤ maxLen)
    (hK : ∀ w', Blk w' w.heap.size e (madeCells z.cells (n * size)).toList → Below w.heap.size w w' → w.heap.size < w'.heap.size → wpList P ops Q rest (a.put o.dst (.slice (some ⟨w.heap.size, 0, none⟩) n n)) w') :
    wpList P ops Q (o :: rest) a w := by
  obtain ⟨i, h2, h3, h4, h5⟩ := info_parts hi
  refine wpList_make_full w hg l c t hop w.heap.size e i z size h1 h2 h3 h4 .i64 .i64 n n n hl hc rfl rfl (by rw [h5]; exact b2) b3 (Nat.le_refl _) fun w' hown hgr => ?_
  have hB := below_of_grown (B := w.heap.size) hgr (Nat.le_refl _) (fun k hk => by cases hk)
  rcases hown.2 with ⟨h', _⟩ | ⟨g', cap', cur, h', hb, hg', hnc, hcm, hcs, htake⟩
  · simp at h'
  · simp only [Value.slice.injEq, Option.some.injEq, Addr.mk.injEq, and_true, true_and] at h'
    obtain ⟨rfl, rfl⟩ := h'
    rw [List.take_of_length_le (by simp [hcs])] at htake
    refine hK w' ?_ hB (Array.getElem?_eq_some_iff.1 hg').1
    unfold Blk
    rw [hg', ← htake]
end
end Go.Proofs.Mem
