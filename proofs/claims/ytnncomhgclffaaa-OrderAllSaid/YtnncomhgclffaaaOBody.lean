/- What holds within a round of the law OrderAll. -/
import Derived.Test.YtnncomhgclffaaaOAwake
namespace Go.Proofs.Ytnncomhgclffaaa.O
open Go.RowKit Go.Shelf Go.OIter Go.Proofs.YtnncomhgclffaaaW.PrintWords Go.Proofs.Ytnncomhgclffaaa.POrderAll

/-- The document's orders in memory. -/
def WV (B1 N0 wb : Nat) (A : Option Addr) (cw m : Nat) (W : World) : Prop :=
  Boxed W wb 98 (.slice A (fct m) cw) ∧ Kd.V (Kd.slice 3 (Kd.int .i64)) 40 W 0 (fun k => B1 ≤ k ∧ k < N0) (.slice A (fct m) cw) (orders m)
section
variable {B1 N0 wb cw m : Nat} {A : Option Addr} {W W' : World}
theorem WV.step (h : WV B1 N0 wb A cw m W) (hb : ∀ k, B1 ≤ k → k < N0 → W'.heap[k]? = W.heap[k]?) (h1 : B1 ≤ wb) (h2 : wb < N0) : WV B1 N0 wb A cw m W' :=
  ⟨(hb wb h1 h2).trans h.1, Kd.V_step h.2 (fun k hk _ => hb k hk.1 hk.2)⟩
theorem WV.read (h : WV B1 N0 wb A cw m W) (hm : m ≤ 6) {i j : Nat} (hi : i < fct m) (hj : j < m) : ∃ ad a0 c0, A = some ad ∧ W.cell? (ad.add i) = some (.slice (some a0) m c0) ∧ W.cell? (a0.add j) = some (.int .i64 (((orders m).getD i []).getD j 0)) := by
  obtain ⟨_, _, hC⟩ := Kd.V_reads' h.2
  obtain ⟨ad, A0, c0, e, h1, h2, h3⟩ := at_L1 hC i (by omega) (by rw [orders_len m hm]; omega)
  have er : rd_L1 (orders m) i = (orders m).getD i [] := by unfold rd_L1; rw [Int.toNat_natCast]
  obtain ⟨hl, _⟩ := orders_all m hm i hi
  rw [er, hl] at h1 h3
  obtain ⟨a0, e0, h4⟩ := Kd.at_int h3 j (by omega) (by omega)
  subst e0
  exact ⟨ad, a0, c0, e, by rw [Int.toNat_natCast] at h1; exact h1, by rw [Int.toNat_natCast] at h4; rw [h4]; unfold rd; rw [Int.toNat_natCast]⟩
end

/-- The law's variables: n, stop, the result, i. -/
def Bs (w : World) (n st : Int) (i : Nat) (W : World) : Prop :=
  Boxed W w.heap.size 3 (.int .i64 n) ∧ Boxed W (w.heap.size + 1) 3 (.int .i64 st) ∧ Boxed W (w.heap.size + 1 + 1) 4 (.bool false) ∧ Boxed W (w.heap.size + 1 + 1 + 1 + 1) 3 (.int .i64 i) ∧ Below w.heap.size w W
section
variable {w W W' : World} {n st : Int} {i : Nat}
theorem Bs.below (h : Bs w n st i W) (hb : Below (w.heap.size + 5) W W') : Bs w n st i W' :=
  ⟨(hb.block _ (by omega)).trans h.1, (hb.block _ (by omega)).trans h.2.1, (hb.block _ (by omega)).trans h.2.2.1, (hb.block _ (by omega)).trans h.2.2.2.1, h.2.2.2.2.trans (hb.mono (by omega))⟩
theorem Bs.lt (h : Bs w n st i W) : w.heap.size + 5 ≤ W.heap.size := h.2.2.2.1.lt
theorem Bs.next (h : Bs w n st i W) (j : Nat) : Bs w n st j (W.setCell ⟨w.heap.size + 1 + 1 + 1 + 1, 0, none⟩ (.int .i64 j)) :=
  ⟨h.1.other (by omega) _, h.2.1.other (by omega) _, h.2.2.1.other (by omega) _, h.2.2.2.1.set _, h.2.2.2.2.setCell (by show w.heap.size ≤ w.heap.size + 1 + 1 + 1 + 1; omega) _⟩
end

/-- What holds ahead of each round. -/
def OI (w : World) (m : Nat) (st : Int) (B1 N0 wb : Nat) (A : Option Addr) (cw : Nat) (pre : List El) (W : World) : Prop :=
  pre.length ≤ fct m ∧ Bs w m st pre.length W ∧ WV B1 N0 wb A cw m W
/-- How the loop is left by its 'break'. -/
def OX (w : World) (m : Nat) (st : Int) (B1 N0 wb : Nat) (A : Option Addr) (cw : Nat) (c : Code) (pre : List El) (W : World) : Prop :=
  c = .exit 2 ∧ (pre.length : Int) = st ∧ OI w m st B1 N0 wb A cw pre W
section
variable {w : World} {m : Nat} {st : Int} {B1 N0 wb cw : Nat} {A : Option Addr}
theorem OI.low (h5 : w.heap.size + 5 ≤ B1) (h1 : B1 ≤ wb) (h2 : wb < N0) : Low N0 (OI w m st B1 N0 wb A cw) := fun _ _ _ h hc => ⟨h.1, h.2.1.below (hc.mono (by omega)), h.2.2.step (fun k _ hk => hc.block k hk) h1 h2⟩
theorem OX.low (h5 : w.heap.size + 5 ≤ B1) (h1 : B1 ≤ wb) (h2 : wb < N0) (c : Code) : Low N0 (OX w m st B1 N0 wb A cw c) := fun _ _ _ h hc => ⟨h.1, h.2.1, OI.low h5 h1 h2 _ _ _ h.2.2 hc⟩

/-- Within a round: places up to k have been looked at, and turned. -/
def OJ (w : World) (m : Nat) (st : Int) (B1 N0 wb : Nat) (A : Option Addr) (cw i g cap : Nat) (xs : List Int) (W : World) (k : Nat) (W' : World) : Prop :=
  Bs w m st i W' ∧ WV B1 N0 wb A cw m W' ∧ Fr N0 (.slice (some ⟨g, 0, none⟩) m cap) W W' ∧ ∃ cur, W'.heap[g]? = some (.cells cur 3 (0, 0)) ∧ ∀ j, k ≤ j → j < m → cur[j]? = some (.int .i64 (xs.getD j 0))
variable {i g cap k : Nat} {xs : List Int} {W W' : World}
theorem OJ.drewN (h : OJ w m st B1 N0 wb A cw i g cap xs W k W') (h1 : B1 ≤ wb) (h2 : wb < N0) (q : Nat) : OJ w m st B1 N0 wb A cw i g cap xs W k (W'.drewN q) :=
  ⟨h.1.below ⟨rfl, rfl, rfl, Nat.le_refl _, fun _ _ => rfl⟩, h.2.1.step (fun _ _ _ => rfl) h1 h2, h.2.2.1, h.2.2.2⟩
theorem OJ.drew (h : OJ w m st B1 N0 wb A cw i g cap xs W k W') (h1 : B1 ≤ wb) (h2 : wb < N0) : OJ w m st B1 N0 wb A cw i g cap xs W k W'.drew :=
  ⟨h.1.below ⟨rfl, rfl, rfl, Nat.le_refl _, fun _ _ => rfl⟩, h.2.1.step (fun _ _ _ => rfl) h1 h2, h.2.2.1, h.2.2.2⟩
theorem OJ.store (h : OJ w m st B1 N0 wb A cw i g cap xs W k W') (h5 : w.heap.size + 5 ≤ B1) (h1 : B1 ≤ wb) (h2 : wb < N0) (hg : N0 ≤ g) (u : Value) : OJ w m st B1 N0 wb A cw i g cap xs W (k + 1) (W'.setCell ⟨g, k, none⟩ u) := by
  obtain ⟨a1, a2, a3, cur, a4, a5⟩ := h
  refine ⟨a1.below ((Below.refl _ _).setCell (by show _ ≤ g; omega) _), a2.step (fun b _ hb => Below.heap_setCell _ _ _ b (by show b ≠ g; omega)) h1 h2, ⟨by simpa using a3.1, fun b hb hl hv => ?_⟩, cur.setIfInBounds k u, blk_set a4 k u, fun j hj hjm => ?_⟩
  · refine (Below.heap_setCell _ _ _ b (fun e => hv ?_)).trans (a3.2 b hb hl hv)
    rw [e]
    rfl
  · rw [Array.getElem?_setIfInBounds_ne (by omega)]
    exact a5 j (by omega) hjm
theorem OJ.at (h : OJ w m st B1 N0 wb A cw i g cap xs W k W') (hk : k < m) : W'.cell? ⟨g, k, none⟩ = some (.int .i64 (xs.getD k 0)) := by
  obtain ⟨_, _, _, cur, a4, a5⟩ := h
  rw [blk_cell a4 k]
  exact a5 k (Nat.le_refl _) hk
theorem OJ.free (h : OJ w m st B1 N0 wb A cw i g cap xs W k W') (j : Nat) : W'.frozen? ⟨g, j, none⟩ = false := by
  obtain ⟨_, _, _, cur, a4, a5⟩ := h
  exact blk_frozen a4 j
theorem OJ.start {pre : List El} (hI : OI w m st B1 N0 wb A cw pre W) {B : Nat} (h4 : W.ownsRow B 3 1 (.slice (some ⟨g, 0, none⟩) m cap) m (xs.map (.int .i64))) (hl : xs.length = m) : OJ w m st B1 N0 wb A cw pre.length g cap xs W 0 W := by
  have hc := row_cells h4 hl
  refine ⟨hI.2.1, hI.2.2, Fr.refl _ _ _, ?_⟩
  rcases h4.2 with ⟨h1, _⟩ | ⟨g', cap', cur, h1, hB, hh, _⟩
  · cases h1
  · cases h1
    refine ⟨cur, hh, fun j _ hj => ?_⟩
    have := hc j hj
    rwa [blk_cell hh j] at this
end
end Go.Proofs.Ytnncomhgclffaaa.O
