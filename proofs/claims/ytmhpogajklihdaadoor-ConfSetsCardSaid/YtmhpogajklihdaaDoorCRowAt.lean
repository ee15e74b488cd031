/- A row of matches that is written in place. -/
import Derived.Test.YtmhpogajklihdaaDoorCSort
namespace Go.Proofs.YtmhpogajklihdaaDoor.C
open Go.RowKit Go.Shelf Go.Lib Go.Sort Go.Proofs.YtmhpogajklihdaaDoorW.PrintWords

/-- The row of matches m at the head of block g. -/
def RowAt (W : World) (g cap : Nat) (m : List P) : Prop := ∃ cur, W.heap[g]? = some (.cells cur 24 (0, 0)) ∧ cur.size = cap * 2 ∧ cur.toList.take (m.length * 2) = cellsP m ∧ m.length ≤ cap ∧ cap ≤ maxLen

section
variable {w W : World} {g cap : Nat} {m : List P}

theorem RowAt.lt (h : RowAt W g cap m) : g < W.heap.size := by obtain ⟨cur, h, _⟩ := h; exact blk_lt h
theorem RowAt.move (h : RowAt w g cap m) (hk : W.heap[g]? = w.heap[g]?) : RowAt W g cap m := by
  obtain ⟨cur, h1, h2⟩ := h
  exact ⟨cur, hk.trans h1, h2⟩
theorem RowAt.below (h : RowAt w g cap m) (hb : Below w.heap.size w W) : RowAt W g cap m := h.move (hb.block g h.lt)
theorem RowAt.at_ (h : RowAt W g cap m) {j : Nat} (hj : j < m.length * 2) : W.cell? ⟨g, j, none⟩ = (cellsP m)[j]? := by
  obtain ⟨cur, h1, h2, h3, _⟩ := h
  rw [blk_cell h1, ← h3, List.getElem?_take, if_pos hj, Array.getElem?_toList]
theorem RowAt.cell0 (h : RowAt W g cap m) {j : Nat} (hj : j < m.length) : W.cell? ⟨g, j * 2, none⟩ = some (.string m[j].1) := by
  rw [h.at_ (by omega)]; exact (cellsP_at m j hj).1
theorem RowAt.cell1 (h : RowAt W g cap m) {j : Nat} (hj : j < m.length) : W.cell? ⟨g, j * 2 + 1, none⟩ = some m[j].2.2 := by
  rw [h.at_ (by omega)]; exact (cellsP_at m j hj).2
theorem RowAt.frozen (h : RowAt W g cap m) (i : Nat) : W.frozen? ⟨g, i, none⟩ = false := by
  obtain ⟨cur, h1, _⟩ := h
  exact blk_frozen h1 i

theorem cellsP_take (m : List P) (k : Nat) : (cellsP m).take (k * 2) = cellsP (m.take k) := by
  induction m generalizing k with
  | nil => simp [cellsP]
  | cons p m ih =>
    cases k with
    | zero => simp [cellsP]
    | succ k =>
      have e : cellsP (p :: m) = .string p.1 :: p.2.2 :: cellsP m := rfl
      have e2 : cellsP ((p :: m).take (k + 1)) = .string p.1 :: p.2.2 :: cellsP (m.take k) := rfl
      rw [e, e2, ← ih k]
      have : (k + 1) * 2 = k * 2 + 1 + 1 := by omega
      rw [this]
      rfl

/-- A match put at a place. -/
theorem RowAt.store (h : RowAt W g cap m) {j : Nat} (_ : j < m.length) (x : P) : RowAt ((W.setCell ⟨g, j * 2, none⟩ (.string x.1)).setCell ⟨g, j * 2 + 1, none⟩ x.2.2) g cap (m.set j x) := by
  obtain ⟨cur, h1, h2, h3, h4, h5⟩ := h
  refine ⟨_, blk_set (blk_set h1 (j * 2) (.string x.1)) (j * 2 + 1) x.2.2, by simpa using h2, ?_, by simpa using h4, h5⟩
  rw [List.length_set]
  apply List.ext_getElem?
  intro t
  rw [List.getElem?_take]
  have hlen := cellsP_len (m.set j x)
  rw [List.length_set] at hlen
  by_cases ht : t < m.length * 2
  · rw [if_pos ht, Array.getElem?_toList]
    have hd : t / 2 < (m.set j x).length := by rw [List.length_set]; omega
    obtain ⟨c0, c1⟩ := cellsP_at (m.set j x) (t / 2) hd
    have old : cur[t]? = (cellsP m)[t]? := by rw [← h3, List.getElem?_take, if_pos ht, Array.getElem?_toList]
    have hd' : t / 2 < m.length := by omega
    obtain ⟨d0, d1⟩ := cellsP_at m (t / 2) hd'
    have ht' : t < cur.size := by omega
    rcases Nat.mod_two_eq_zero_or_one t with q | q
    · have e : t / 2 * 2 = t := by omega
      rw [e] at c0 d0
      rw [c0]
      by_cases ej : t / 2 = j
      · have e3 : j * 2 = t := by omega
        rw [Array.getElem?_setIfInBounds_ne (by omega), e3]
        simp [ht', ej]
      · rw [Array.getElem?_setIfInBounds_ne (by omega), Array.getElem?_setIfInBounds_ne (by omega), old, d0]
        rw [List.getElem_set_ne (fun e => ej e.symm)]
    · have e : t / 2 * 2 + 1 = t := by omega
      rw [e] at c1 d1
      rw [c1]
      by_cases ej : t / 2 = j
      · have e3 : j * 2 + 1 = t := by omega
        rw [e3]
        simp [ht', ej]
      · rw [Array.getElem?_setIfInBounds_ne (by omega), Array.getElem?_setIfInBounds_ne (by omega), old, d1]
        rw [List.getElem_set_ne (fun e => ej e.symm)]
  · rw [if_neg ht, List.getElem?_eq_none (by omega)]

theorem Owns.row {B : Nat} {v : Value} {l : List P} (h : Owns W B 24 v l) (hn : 0 < l.length) : ∃ g cap, v = .slice (some ⟨g, 0, none⟩) l.length cap ∧ B ≤ g ∧ RowAt W g cap l := by
  obtain ⟨g, cap, cur, rfl, hBg, hg, hnc, hcm, hcs, htk⟩ := owns_open h.1 hn
  exact ⟨g, cap, rfl, hBg, cur, hg, hcs, htk, hnc, hcm⟩
theorem RowAt.owns {B : Nat} (h : RowAt W g cap m) (hB : B ≤ g) {k : Nat} (hk : k ≤ m.length) : W.ownsRow B 24 2 (.slice (some ⟨g, 0, none⟩) k cap) k (cellsP (m.take k)) := by
  obtain ⟨cur, h1, h2, h3, h4, h5⟩ := h
  refine ⟨by rw [cellsP_len, List.length_take]; omega, .inr ⟨g, cap, cur, rfl, hB, h1, by omega, h5, h2, ?_⟩⟩
  rw [← cellsP_take, ← h3, List.take_take, Nat.min_eq_left (by omega)]

/-- Cells that are put from a place on leave what stands ahead. -/
theorem setCells_row (g : Nat) : ∀ (vs : List Value) (o : Nat) (W : World) (cur : Array Value), W.heap[g]? = some (.cells cur 24 (0, 0)) →
    ∃ cur', (W.setCells g o vs).heap[g]? = some (.cells cur' 24 (0, 0)) ∧ cur'.size = cur.size ∧ (∀ i, i < o → cur'[i]? = cur[i]?) ∧ (∀ b, b ≠ g → (W.setCells g o vs).heap[b]? = W.heap[b]?) ∧ ∀ B, B ≤ g → Below B W (W.setCells g o vs)
  | [], o, W, cur, h => ⟨cur, h, rfl, fun _ _ => rfl, fun _ _ => rfl, fun _ _ => Below.refl _ _⟩
  | v :: vs, o, W, cur, h => by
    obtain ⟨cur', h1, h2, h3, h4, h5⟩ := setCells_row g vs (o + 1) (W.setCell ⟨g, o, none⟩ v) _ (blk_set h o v)
    refine ⟨cur', h1, by rw [h2]; simp, fun i hi => ?_, fun b hb => (h4 b hb).trans (Below.heap_setCell _ _ _ _ hb), fun B hB => ((Below.refl B W).setCell hB v).trans (h5 B hB)⟩
    rw [h3 i (by omega), Array.getElem?_setIfInBounds_ne (by omega)]

theorem zero24 (w : World) : (zeroValue 24).run Tryd.prog w = .ok (.agg #[.string ⟨#[]⟩, .slice none 0 0]) w := by kernel_rfl

/-- 'clear' of what stands behind. -/
theorem run_clear (h : RowAt W g cap m) (k n c : Nat) (hk : k + n = m.length) :
    ∃ W', (Builtin.clear_ #[26] 0 #[.slice (some ⟨g, k * 2, none⟩) n c]).run Tryd.prog W = .ok (.tuple #[]) W' ∧ RowAt W' g cap (m.take k) ∧ (∀ b, b ≠ g → W'.heap[b]? = W.heap[b]?) ∧ ∀ B, B ≤ g → Below B W W' := by
  by_cases hn : 0 < n
  · have hzl : ∀ v ∈ (Builtin.zeroCells (Value.agg #[.string ⟨#[]⟩, .slice none 0 0]).cells n).toList, v.oneCell' = true := fun v hv => by
      simp [Builtin.zeroCells, Value.cells] at hv
      obtain ⟨i, _, rfl⟩ := hv
      rcases Nat.mod_two_eq_zero_or_one i with q | q <;> simp [q, Value.oneCell']
    have hlen : (Builtin.zeroCells (Value.agg #[.string ⟨#[]⟩, .slice none 0 0]).cells n).toList.length = n * 2 := by
      simp [Builtin.zeroCells, Value.cells]
    have hst := run_storeCells_cells (P := Tryd.prog) g (k * 2) (Builtin.zeroCells (Value.agg #[.string ⟨#[]⟩, .slice none 0 0]).cells n).toList 0 W (fun j hj => ?_) (fun j _ => h.frozen _) hzl
    · obtain ⟨cur, h1, h2, h3, h4, h5⟩ := h
      obtain ⟨cur', c1, c2, c3, c4, c5⟩ := setCells_row g (Builtin.zeroCells (Value.agg #[.string ⟨#[]⟩, .slice none 0 0]).cells n).toList (k * 2) W cur h1
      refine ⟨_, ?_, ⟨cur', c1, c2.trans h2, ?_, by rw [List.length_take]; omega, h5⟩, c4, c5⟩
      · obtain ⟨q, rfl⟩ : ∃ q, n = q + 1 := ⟨n - 1, by omega⟩
        simp only [Nat.add_zero] at hst
        simp [Builtin.clear_, run_underlying Tryd.underlying26, hst]
      · rw [List.length_take, Nat.min_eq_left (by omega), ← cellsP_take, ← h3, List.take_take, Nat.min_eq_left (by omega)]
        apply List.ext_getElem?
        intro t
        rw [List.getElem?_take, List.getElem?_take]
        split
        · rename_i ht
          rw [Array.getElem?_toList, Array.getElem?_toList, c3 t ht]
        · rfl
    · rw [hlen] at hj
      rw [h.at_ (by omega)]
      have : k * 2 + (0 + j) < (cellsP m).length := by rw [cellsP_len]; omega
      simp only [Nat.zero_add] at this ⊢
      rw [List.getElem?_eq_getElem (by rw [cellsP_len]; omega)]
      rfl
  · have e : n = 0 := by omega
    subst e
    refine ⟨W, by simp [Builtin.clear_, run_underlying Tryd.underlying26], ?_, fun _ _ => rfl, fun _ _ => Below.refl _ _⟩
    rw [List.take_of_length_le (by omega)]
    exact h
end
end Go.Proofs.YtmhpogajklihdaaDoor.C
