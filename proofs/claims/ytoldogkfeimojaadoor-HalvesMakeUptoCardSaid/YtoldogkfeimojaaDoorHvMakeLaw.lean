/- One step of the proof of a statement of this seat: plain laws and walks of the store, log, journal and halves packages; no condition. -/
import Derived.Test.YtoldogkfeimojaaDoorHvPlain1
import Derived.Test.YtoldogkfeimojaaDoorHvPlain3
import Derived.Test.YtoldogkfeimojaaDoorHvPlain2
set_option linter.unusedVariables false
set_option linter.unusedSimpArgs false
/-! plain law: a store that does not fail; what Append and Compact do on it -/
namespace Go.Proofs.Hv
theorem frameOf_len' (r : Bytes) : (frameOf r).length = r.length + 8 := by simp [frameOf]
structure Alive (s : Sto) : Prop where
  down : s.down = false
  fuse : s.fuse = -1
  each : ∀ i, i < s.blocks.length → (s.blk i).length = 32
theorem blk_set (bs : List Bytes) (f : Int) (q : Nat) (d : Bool) (i j : Nat) (b : Bytes) (hi : i < bs.length) : (⟨bs.set i b, f, q, d⟩ : Sto).blk j = if i = j then b else bs.getD j [] := by
  unfold Sto.blk
  simp only [List.getD_eq_getElem?_getD, List.getElem?_set]
  by_cases h : i = j
  · subst h; simp [hi]
  · simp [h]
theorem write_alive {s : Sto} {i : Nat} {d : Bytes} (h : Alive s) (hi : i < s.blocks.length) (hd : d.length = 32) :
    write s (i : Nat) d = (0, ⟨s.blocks.set i d, -1, s.pre, false⟩) ∧ Alive ⟨s.blocks.set i d, -1, s.pre, false⟩ := by
  constructor
  · unfold write
    rw [if_neg (by simp [h.down]), if_neg (by omega), if_neg (by omega), if_neg (by rw [h.fuse]; decide), h.fuse]
    rfl
  · refine ⟨rfl, rfl, fun j hj => ?_⟩
    simp only [List.length_set] at hj
    rw [blk_set _ _ _ _ _ _ _ hi]
    split
    · exact hd
    · exact h.each j hj
theorem blkOf_len {x : Bytes} {n hi i : Nat} (hx : x.length = 32 * n) (hh : hi ≤ 32 * n) (hi' : 32 * i < hi) : (blkOf x i).length = 32 := by
  unfold blkOf; rw [List.length_take, List.length_drop]; omega
theorem putF_alive {b n hi : Nat} {x : Bytes} {must : Bool} (hx : x.length = 32 * n) (hh : hi ≤ 32 * n) : ∀ (f i : Nat) (s : Sto), Alive s → b + n ≤ s.blocks.length →
    (putF b x hi must f i s).1 = 0 ∧ Alive (putF b x hi must f i s).2 ∧ (putF b x hi must f i s).2.blocks.length = s.blocks.length := by
  intro f
  induction f with
  | zero => intro i s h _; exact ⟨rfl, h, rfl⟩
  | succ f ih =>
    intro i s h hb
    rw [putF]
    split
    · rename_i hlt
      split
      · exact ih _ _ h hb
      · have hw := write_alive (i := b + i) (d := blkOf x i) h (by omega) (blkOf_len hx hh hlt)
        rw [hw.1]
        simp only [if_true]
        have := ih (i + 1) _ hw.2 (by simp only [List.length_set]; exact hb)
        simp only [List.length_set] at this
        exact this
    · exact ⟨rfl, h, rfl⟩
theorem partBytes_len' {s : Sto} (h : Alive s) (b n : Nat) (hn : b + n ≤ s.blocks.length) : (partBytes s b n).length = 32 * n := by
  have : ∀ (l : List Bytes), (∀ x ∈ l, x.length = 32) → l.flatten.length = 32 * l.length := by
    intro l
    induction l with
    | nil => intro _; rfl
    | cons x l ih => intro h; simp only [List.flatten_cons, List.length_append, List.length_cons]; rw [h x (by simp), ih (fun y hy => h y (by simp [hy]))]; omega
  unfold partBytes
  rw [this]
  · rw [List.length_take, List.length_drop]; omega
  · intro x hx
    obtain ⟨i, hi, rfl⟩ := List.getElem_of_mem hx
    rw [List.length_take, List.length_drop] at hi
    have := h.each (b + i) (by omega)
    unfold Sto.blk at this
    rw [List.getD_eq_getElem?_getD, List.getElem?_eq_getElem (by omega)] at this
    simpa [List.getElem_take, List.getElem_drop] using this
theorem part_alive {s : Sto} (h : Alive s) {b n : Nat} (hn : b + n ≤ s.blocks.length) :
    (part b n s).1 = (0, scan (partBytes s b n)) ∧ Alive (part b n s).2 ∧ (part b n s).2.blocks.length = s.blocks.length := by
  have hl := partBytes_len' h b n hn
  have hs := scan_end (partBytes s b n)
  have hp := putF_alive (b := b) (n := n) (hi := 32 * n) (x := cleared (partBytes s b n) (scan (partBytes s b n)).2) (must := false) (by unfold cleared zeros; simp; omega) (Nat.le_refl _) (32 * n + 1) ((scan (partBytes s b n)).2 / 32) s h hn
  unfold part
  simp only
  rw [show put b (cleared (partBytes s b n) (scan (partBytes s b n)).2) (scan (partBytes s b n)).2 (32 * n) false s = putF b (cleared (partBytes s b n) (scan (partBytes s b n)).2) (32 * n) false (32 * n + 1) ((scan (partBytes s b n)).2 / 32) s from rfl, if_pos hp.1]
  exact ⟨rfl, hp.2⟩
/-- Append of a frame on a store that does not fail -/
theorem appendJ_alive {s : Sto} (h : Alive s) {j : Jr} (hn : j.from_ + j.n ≤ s.blocks.length) (hf : j.fin ≤ 32 * j.n) (hd : j.down = false) (r : Bytes) :
    (okRec r = false ∧ appendJ j r s = (3, j, s)) ∨ (okRec r = true ∧ j.room < (r.length + 8 : Nat) ∧ appendJ j r s = (14, j, s)) ∨
    (okRec r = true ∧ ((r.length + 8 : Nat) : Int) ≤ j.room ∧ ∃ s', appendJ j r s = (0, { j with fin := j.fin + (r.length + 8) }, s') ∧ Alive s' ∧ s'.blocks.length = s.blocks.length) := by
  unfold appendJ
  cases hr : okRec r with
  | false => exact .inl ⟨rfl, by rw [if_pos rfl]⟩
  | true =>
    rw [if_neg (by simp)]
    by_cases hroom : j.room < (r.length + 8 : Nat)
    · exact .inr (.inl ⟨rfl, hroom, by rw [if_pos hroom]⟩)
    · refine .inr (.inr ⟨rfl, Int.not_lt.1 hroom, ?_⟩)
      rw [if_neg hroom, if_neg (by simp [hd])]
      simp only [Jr.room] at hroom
      have hl := partBytes_len' h j.from_ j.n hn
      have hp := putF_alive (b := j.from_) (n := j.n) (hi := j.fin + (r.length + 8)) (x := (partBytes s j.from_ j.n).take j.fin ++ frameOf r ++ zeros (32 * j.n - (j.fin + (r.length + 8)))) (must := true)
        (by simp [frameOf_len', zeros, hl]; omega) (by omega) (j.fin + (r.length + 8) + 1) (j.fin / 32) s h hn
      simp only
      rw [show put j.from_ ((partBytes s j.from_ j.n).take j.fin ++ frameOf r ++ zeros (32 * j.n - (j.fin + (r.length + 8)))) j.fin (j.fin + (r.length + 8)) true s = putF j.from_ ((partBytes s j.from_ j.n).take j.fin ++ frameOf r ++ zeros (32 * j.n - (j.fin + (r.length + 8)))) (j.fin + (r.length + 8)) true (j.fin + (r.length + 8) + 1) (j.fin / 32) s from rfl, if_pos hp.1]
      exact ⟨_, rfl, hp.2⟩
def total (l : List Bytes) : Nat := (l.map fun r => r.length + 8).sum
theorem total_cons (r : Bytes) (l : List Bytes) : total (r :: l) = r.length + 8 + total l := rfl
theorem total_app (l m : List Bytes) : total (l ++ m) = total l + total m := by unfold total; rw [List.map_append, List.sum_append]
theorem appendAll_alive : ∀ (l : List Bytes) (s : Sto) (j : Jr), Alive s → j.from_ + j.n ≤ s.blocks.length → j.fin ≤ 32 * j.n → j.down = false → (∀ r ∈ l, okRec r = true) →
    (j.fin + total l ≤ 32 * j.n ∧ (∃ s', appendAll l j s = (0, { j with fin := j.fin + total l }, s') ∧ Alive s' ∧ s'.blocks.length = s.blocks.length)) ∨
    (32 * j.n < j.fin + total l ∧ (appendAll l j s).1 = 14 ∧ Alive (appendAll l j s).2.2 ∧ (appendAll l j s).2.2.blocks.length = s.blocks.length) := by
  intro l
  induction l with
  | nil => intro s j h _ hf _ _; exact .inl ⟨hf, s, rfl, h, rfl⟩
  | cons r l ih =>
    intro s j h hn hf hd hr
    rw [appendAll, total_cons]
    rcases appendJ_alive h hn hf hd r with ⟨h1, _⟩ | ⟨_, h2, e⟩ | ⟨_, h2, s', e, h', hl'⟩
    · rw [hr r (by simp)] at h1; cases h1
    · refine .inr ?_
      rw [e]
      simp only [Jr.room] at h2
      exact ⟨by omega, rfl, h, rfl⟩
    · rw [e]
      simp only [if_true]
      simp only [Jr.room] at h2
      rcases ih s' { j with fin := j.fin + (r.length + 8) } h' (by rw [hl']; exact hn) (by simp only; omega) hd (fun x hx => hr x (by simp [hx])) with ⟨h3, s2, e2, h4, h5⟩ | ⟨h3, h4, h5, h6⟩
      · refine .inl ⟨by simp only at h3; omega, s2, ?_, h4, h5.trans hl'⟩
        rw [e2]; simp only [Nat.add_assoc]
      · exact .inr ⟨by simp only at h3; omega, h4, h5, h6.trans hl'⟩
theorem wipe_alive : ∀ (f i : Nat) (s : Sto), Alive s → i + f ≤ s.blocks.length →
    (wipeF f i s).1 = 0 ∧ Alive (wipeF f i s).2 ∧ (wipeF f i s).2.blocks.length = s.blocks.length ∧ (∀ k, i ≤ k → k < i + f → (wipeF f i s).2.blk k = zeros 32) ∧ (∀ k, k < i → (wipeF f i s).2.blk k = s.blk k) := by
  intro f
  induction f with
  | zero => intro i s h _; exact ⟨rfl, h, rfl, fun k h1 h2 => by omega, fun _ _ => rfl⟩
  | succ f ih =>
    intro i s h hb
    rw [wipeF]
    split
    · rename_i hz
      obtain ⟨h1, h2, h3, h4, h5⟩ := ih (i + 1) s h (by omega)
      refine ⟨h1, h2, h3, fun k k1 k2 => ?_, fun k k1 => h5 k (by omega)⟩
      by_cases hk : k = i
      · rw [hk, h5 i (by omega), hz]
      · exact h4 k (by omega) (by omega)
    · have hw := write_alive (i := i) (d := zeros 32) h (by omega) (by simp [zeros])
      rw [hw.1]
      simp only [if_true]
      obtain ⟨h1, h2, h3, h4, h5⟩ := ih (i + 1) _ hw.2 (by simp only [List.length_set]; omega)
      simp only [List.length_set] at h3
      refine ⟨h1, h2, h3, fun k k1 k2 => ?_, fun k k1 => ?_⟩
      · by_cases hk : k = i
        · rw [hk, h5 i (by omega), blk_set _ _ _ _ _ _ _ (by omega), if_pos rfl]
        · exact h4 k (by omega) (by omega)
      · rw [h5 k (by omega), blk_set _ _ _ _ _ _ _ (by omega), if_neg (by omega)]; rfl
theorem scan_zeros (m : Nat) : scan (zeros m) = ([], 0) := by
  apply scan_none
  unfold one
  rw [if_neg]
  rintro ⟨_, h, _⟩
  have h0 : ∀ k, (zeros m).getD k 0 = 0 := by
    intro k
    unfold zeros
    rw [List.getD_eq_getElem?_getD, List.getElem?_replicate]
    split <;> rfl
  unfold sizeAt at h
  rw [h0, h0] at h
  simp at h
theorem partBytes_zero {s : Sto} {b n : Nat} (hn : b + n ≤ s.blocks.length) (h : ∀ k, b ≤ k → k < b + n → s.blk k = zeros 32) : partBytes s b n = zeros (n * 32) := by
  have e : (s.blocks.drop b).take n = List.replicate n (zeros 32) := by
    apply List.ext_getElem
    · rw [List.length_take, List.length_drop, List.length_replicate]; omega
    · intro i h1 h2
      rw [List.length_take, List.length_drop] at h1
      have := h (b + i) (by omega) (by omega)
      unfold Sto.blk at this
      rw [List.getD_eq_getElem?_getD, List.getElem?_eq_getElem (by omega)] at this
      simpa [List.getElem_take, List.getElem_drop] using this
  unfold partBytes
  rw [e]
  unfold zeros
  rw [List.flatten_replicate_replicate]
theorem fresh_alive {s : Sto} (h : Alive s) {k : Nat} (hk : k ≤ 1) {l : List Bytes} (hl : ∀ r ∈ l, okRec r = true) :
    (total l ≤ 32 * (s.blocks.length / 2) ∧ ∃ s', fresh k l s = ((0, some ⟨k * (s.blocks.length / 2), s.blocks.length / 2, total l, false⟩), s') ∧ Alive s' ∧ s'.blocks.length = s.blocks.length) ∨
    (32 * (s.blocks.length / 2) < total l ∧ (fresh k l s).1.1 = 14 ∧ Alive (fresh k l s).2 ∧ (fresh k l s).2.blocks.length = s.blocks.length) := by
  obtain ⟨n, hn⟩ : ∃ n, n = s.blocks.length / 2 := ⟨_, rfl⟩
  have hb : k * n + n ≤ s.blocks.length := by rcases (show k = 0 ∨ k = 1 by omega) with rfl | rfl <;> omega
  obtain ⟨h1, h2, h3, h4, _⟩ := wipe_alive n (k * n) s h hb
  rw [← hn]
  unfold fresh
  simp only
  rw [← hn, if_pos h1]
  have hz := partBytes_zero (s := (wipeF n (k * n) s).2) (b := k * n) (n := n) (by rw [h3]; exact hb) h4
  have hp := part_alive h2 (b := k * n) (n := n) (by rw [h3]; exact hb)
  rw [hz, scan_zeros] at hp
  obtain ⟨p1, p2, p3⟩ := hp
  rw [p1]
  simp only [if_true]
  rcases appendAll_alive l (part (k * n) n (wipeF n (k * n) s).2).2 ⟨k * n, n, 0, false⟩ p2 (by rw [p3, h3]; exact hb) (Nat.zero_le _) rfl hl with ⟨a1, s', a2, a3, a4⟩ | ⟨a1, a2, a3, a4⟩
  · refine .inl ⟨by simpa using a1, s', ?_, a3, by rw [a4, p3, h3]⟩
    rw [a2]; simp
  · exact .inr ⟨by simpa using a1, a2, a3, by rw [a4, p3, h3]⟩
theorem new_alive (n : Nat) : Alive (newSto n) := ⟨rfl, rfl, fun i hi => by
  unfold newSto at hi ⊢
  unfold Sto.blk
  simp only [List.length_replicate] at hi ⊢
  rw [List.getD_eq_getElem?_getD, List.getElem?_replicate, if_pos hi]
  simp [zeros]⟩
end Go.Proofs.Hv
