/- One step of the proof of a statement of this seat: plain laws and walks of the store, log, journal and halves packages; no condition. -/
import Derived.Test.YtoldogkfeimojaaDoorHvMakeLaw
set_option linter.unusedVariables false
set_option linter.unusedSimpArgs false
/-! plain law: what the halves of a store that does not fail answer to Append and Compact -/
namespace Go.Proofs.Hv
structure GoodH (many : Nat) (h : Hs) (s : Sto) : Prop where
  al : Alive s
  len : s.blocks.length = many
  use : h.use = 0
  age : h.age = 1
  snap : h.snap = []
  down : h.down = false
  jn : h.j.n = many / 2
  jf : h.j.from_ + h.j.n ≤ many
  fin : h.j.fin ≤ 32 * h.j.n
  jd : h.j.down = false
theorem open_new (many : Nat) (h4 : 4 ≤ many) : ∃ h s, openH (newSto many) = ((0, some h), s) ∧ GoodH many h s ∧ h.tail = [] := by
  have hl : (newSto many).blocks.length = many := by simp [newSto]
  have hz : ∀ k, k < many → (newSto many).blk k = zeros 32 := by
    intro k hk
    unfold newSto Sto.blk
    simp only
    rw [List.getD_eq_getElem?_getD, List.getElem?_replicate, if_pos hk]
    rfl
  have hlook : ∀ b n, b + n ≤ many → look b n (newSto many) = [] := by
    intro b n hb
    unfold look
    rw [partBytes_zero (by rw [hl]; exact hb) (fun k _ h2 => hz k (by omega)), scan_zeros]
  have hf := fresh_alive (new_alive many) (k := 0) (by omega) (l := [[103, 32, 49], live]) (by intro r hr; simp at hr; rcases hr with rfl | rfl <;> rfl)
  rw [hl] at hf
  rcases hf with ⟨_, s', e, a1, a2⟩ | ⟨h1, _⟩
  · refine ⟨⟨0, 1, [], [], ⟨0 * (many / 2), many / 2, total [[103, 32, 49], live], false⟩, false⟩, s', ?_, ⟨a1, a2, rfl, rfl, rfl, rfl, ?_, ?_, ?_, rfl⟩, rfl⟩
    · unfold openH
      rw [if_neg (by omega)]
      simp only
      rw [hl, hlook 0 _ (by omega), hlook _ _ (by omega)]
      simp only [readHalf]
      rw [e]
      simp
    · rfl
    · simp only; omega
    · simp only [total, live]; simp; omega
  · simp [total, live] at h1; omega
theorem GoodH.append {many : Nat} {h : Hs} {s : Sto} (G : GoodH many h s) (r : Bytes) : GoodH many (appendH h r s).2.1 (appendH h r s).2.2 := by
  unfold appendH
  split
  · exact G
  · rw [if_neg (by simp [G.down])]
    rcases appendJ_alive G.al (j := h.j) (by rw [G.len]; exact G.jf) G.fin G.jd (pre2 116 32 r) with ⟨_, e⟩ | ⟨_, _, e⟩ | ⟨_, h2, s', e, a1, a2⟩
    · rw [e]; exact ⟨G.al, G.len, G.use, G.age, G.snap, rfl, G.jn, G.jf, G.fin, G.jd⟩
    · rw [e]; exact ⟨G.al, G.len, G.use, G.age, G.snap, rfl, G.jn, G.jf, G.fin, G.jd⟩
    · rw [e]
      simp only [Jr.room] at h2
      exact ⟨a1, a2.trans G.len, G.use, G.age, G.snap, rfl, G.jn, G.jf, by simp only; omega, G.jd⟩
def sizeOf (L : List Bytes) : Nat := (L.map fun r => r.length + 10).sum
theorem total_snap (L : List Bytes) : total (pre2 103 32 (digits 2) :: (L.map (pre2 115 32) ++ [live])) = 23 + sizeOf L := by
  have h1 : total (L.map (pre2 115 32)) = sizeOf L := by
    unfold total sizeOf
    rw [List.map_map]
    congr 1
  have h2 : (pre2 103 32 (digits 2)).length = 3 := by decide
  have h3 : total [live] = 12 := by decide
  rw [total_cons, total_app, h1, h2, h3]
  omega
theorem ok_snap {L : List Bytes} (h : tooLong L = false) : ∀ r ∈ pre2 103 32 (digits 2) :: (L.map (pre2 115 32) ++ [live]), okRec r = true := by
  intro r hr
  simp only [List.mem_cons, List.mem_append, List.mem_map, List.not_mem_nil, or_false] at hr
  rcases hr with rfl | ⟨x, hx, rfl⟩ | rfl
  · decide
  · have : x.length ≤ 398 := by
      by_cases h1 : x.length ≤ 398
      · exact h1
      · have : tooLong L = true := by unfold tooLong; rw [List.any_eq_true]; exact ⟨x, hx, by simp; omega⟩
        rw [h] at this; cases this
    simp [okRec, pre2]; omega
  · decide
theorem GoodH.compact {many : Nat} {h : Hs} {s : Sto} (G : GoodH many h s) (L : List Bytes) :
    (tooLong L = true ∧ ∃ s', compactH h L s = (3, h, s')) ∨
    (tooLong L = false ∧ 23 + sizeOf L ≤ 32 * (many / 2) ∧ ∃ h' s', compactH h L s = (0, h', s') ∧ h'.age = 2 ∧ h'.tail = [] ∧ h'.snap = L ∧ h'.j.room = 32 * ((many / 2 : Nat) : Int) - (23 + sizeOf L : Nat)) ∨
    (tooLong L = false ∧ 32 * (many / 2) < 23 + sizeOf L ∧ ∃ s', compactH h L s = (14, h, s')) := by
  unfold compactH
  cases ht : tooLong L with
  | true => exact .inl ⟨rfl, s, by rw [if_pos rfl]⟩
  | false =>
    rw [if_neg (by simp), if_neg (by rw [G.age]; omega), if_neg (by simp [G.down])]
    have hf := fresh_alive G.al (k := 1 - h.use) (by omega) (ok_snap ht)
    rw [total_snap, G.len] at hf
    rw [G.age]
    rcases hf with ⟨h1, s', e, a1, a2⟩ | ⟨h1, e, a1, a2⟩
    · refine .inr (.inl ⟨rfl, h1, ⟨1 - h.use, 2, L, [], ⟨(1 - h.use) * (many / 2), many / 2, 23 + sizeOf L, false⟩, false⟩, s', ?_, rfl, rfl, rfl, by simp [Jr.room]⟩)
      rw [e]; rfl
    · refine .inr (.inr ⟨rfl, h1, (fresh (1 - h.use) (pre2 103 32 (digits (1 + 1)) :: (L.map (pre2 115 32) ++ [live])) s).2, ?_⟩)
      simp only
      rw [if_neg (by rw [e]; decide), e]
      have : h = { h with age := 1, down := (14 : Int) == 16 } := by
        have h1 := G.down
        have h2 := G.age
        cases h
        simp only at h1 h2
        subst h1
        subst h2
        rfl
      rw [← this]
end Go.Proofs.Hv
