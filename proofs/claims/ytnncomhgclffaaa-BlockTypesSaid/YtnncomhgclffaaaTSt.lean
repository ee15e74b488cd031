/- The blocks as a state: owners in order, the blockers of each; what each function answers and what it leaves. -/
import Derived.Test.YtnncomhgclffaaaTBy
namespace Go.Proofs.Ytnncomhgclffaaa.BT
open Go.RowKit Go.Proofs.YtnncomhgclffaaaW.PrintWords Go.Proofs.YtnncomhgclffaaaL Go.Proofs.Ytnncomhgclffaaa.LL Go.Proofs.Ytnncomhgclffaaa.LT

/-- The blocks at block bb: owners ks, blockers vs; all their blocks are among F; no more than N calls have made them. -/
def Blk (w : World) (bb : Nat) (F : Nat → Prop) (ks : List P2) (vs : P2 → List ByteArray) (N : Nat) : Prop :=
  ∃ lb mb Fl hd gb vals, BIs w bb lb mb Fl hd gb ks vs vals ∧ (∀ b, BFoot bb mb Fl gb ks b → F b) ∧ vals.length ≤ N ∧ ks.length ≤ N ∧ sumOf ks vs ≤ N ∧ ∀ k, (vs k).Nodup

section
variable {w W : World} {bb N : Nat} {F : Nat → Prop} {ks : List P2} {vs : P2 → List ByteArray}

theorem Blk.mono {F' : Nat → Prop} (h : Blk w bb F ks vs N) (hf : ∀ b, F b → b < w.heap.size → F' b) : Blk w bb F' ks vs N := by
  obtain ⟨lb, mb, Fl, hd, gb, vals, h1, h2, h3⟩ := h
  refine ⟨lb, mb, _, hd, gb, vals, h1.bound, fun b hb => hf b ?_ (h1.foot_lt hb), h3⟩
  exact h2 b (by rcases hb with x | x | x | x; exact .inl x; exact .inr (.inl x); exact .inr (.inr (.inl x.1)); exact .inr (.inr (.inr x)))
theorem Blk.more {N' : Nat} (h : Blk w bb F ks vs N) (hN : N ≤ N') : Blk w bb F ks vs N' := by
  obtain ⟨lb, mb, Fl, hd, gb, vals, h1, h2, h3, h4, h5, h6⟩ := h
  exact ⟨lb, mb, Fl, hd, gb, vals, h1, h2, Nat.le_trans h3 hN, Nat.le_trans h4 hN, Nat.le_trans h5 hN, h6⟩
theorem Blk.move (h : Blk w bb F ks vs N) (hk : ∀ b, F b → b < w.heap.size → W.heap[b]? = w.heap[b]?) : Blk W bb F ks vs N := by
  obtain ⟨lb, mb, Fl, hd, gb, vals, h1, h2, h3⟩ := h
  exact ⟨lb, mb, Fl, hd, gb, vals, h1.move (fun b hb hl => hk b (h2 b hb) hl), h2, h3⟩
theorem Blk.below (h : Blk w bb F ks vs N) (hb : Below w.heap.size w W) : Blk W bb F ks vs N := h.move fun b _ hl => hb.block b hl
theorem Blk.lt (h : Blk w bb F ks vs N) : F bb ∧ bb < w.heap.size := by
  obtain ⟨lb, mb, Fl, hd, gb, vals, h1, h2, h3⟩ := h
  exact ⟨h2 bb (.inl rfl), blk_lt h1.head⟩
theorem Blk.facts (h : Blk w bb F ks vs N) : ks.Nodup ∧ ks.length ≤ N ∧ sumOf ks vs ≤ N ∧ (∀ k, (vs k).Nodup) ∧ (∀ k, k ∉ ks → vs k = []) ∧ ∀ k ∈ ks, Good k := by
  obtain ⟨lb, mb, Fl, hd, gb, vals, h1, h2, h3, h4, h5, h6⟩ := h
  exact ⟨h1.nk, h4, h5, h6, h1.emp, fun k hk => h1.good hk⟩

/-- A call has answered r, and the blocks are ks', vs' now. -/
def Did (w : World) (bb : Nat) (F : Nat → Prop) (r : Value) (ks : List P2) (vs : P2 → List ByteArray) (N : Nat) (e : Ending) (W : World) : Prop :=
  e = .returned r ∧ Blk W bb (fun b => F b ∨ w.heap.size ≤ b) ks vs N ∧ Ch w W F

theorem Did.of_below {r : Value} {e : Ending} (h : Blk w bb F ks vs N) (he : e = .returned r) (hb : Below w.heap.size w W) : Did w bb F r ks vs N e W :=
  ⟨he, (h.below hb).mono (fun _ x _ => .inl x), Ch.of_below hb _⟩

noncomputable def openK (ks : List P2) (k : P2) : List P2 := if k ∈ ks then ks else ks ++ [k]
noncomputable def blkV (ks : List P2) (vs : P2 → List ByteArray) (k : P2) (v : ByteArray) : P2 → List ByteArray := if k ∈ ks ∧ v ∉ vs k then upd vs k (vs k ++ [v]) else vs
theorem new_did (w : World) : Calls Try.prog 63 #[] w fun e W => ∃ bb, e = .returned (.pointer (some ⟨bb, 0, none⟩)) ∧ Blk W bb (fun b => w.heap.size ≤ b) [] (fun _ => []) 0 ∧ Below w.heap.size w W := by
  refine (bnew_walk w).mono ?_
  rintro e W ⟨bb, lb, mb, hd, gb, rfl, h, hb, h1, h2⟩
  refine ⟨bb, rfl, ⟨lb, mb, _, hd, gb, [], h, ?_, Nat.le_refl _, Nat.le_refl _, Nat.le_refl _, fun _ => List.nodup_nil⟩, hb⟩
  rintro b (rfl | rfl | x | ⟨y, hy, _⟩)
  · exact h1
  · exact h2
  · exact x.1
  · cases hy

theorem open_did (h : Blk w bb F ks vs N) (k : P2) (hk : Good k) (hN : N < 100000) :
    Calls Try.prog 65 #[.pointer (some ⟨bb, 0, none⟩), tri k] w (Did w bb F (.bool (decide (k ∉ ks))) (openK ks k) vs (N + 1)) := by
  have hB := h
  obtain ⟨lb, mb, Fl, hd, gb, vals, h1, h2, h3, h4, h5, h6⟩ := h
  by_cases hm : k ∈ ks
  · refine (open_no h1 k hk hm).mono ?_
    rintro e W ⟨rfl, hb⟩
    rw [show openK ks k = ks from if_pos hm]
    exact Did.of_below (hB.more (Nat.le_succ _)) (by simp [hm]) hb
  · refine (open_yes h1 k hk hm (by omega)).mono ?_
    rintro e W ⟨rfl, Fl', hd', gb', g, hc, hf⟩
    rw [show openK ks k = ks ++ [k] from if_neg hm]
    refine ⟨by simp [hm], ⟨lb, mb, Fl', hd', gb', _, g, fun b hb => (hf b hb).imp (h2 b) id, by simp; omega, by simp; omega, ?_, h6⟩, hc.mono h2⟩
    rw [sumOf_append, sumOf_cons, h1.emp k hm]
    simp [sumOf]
    simp [sumOf] at h5
    omega

theorem block_did (h : Blk w bb F ks vs N) (k : P2) (v : ByteArray) (hk : Good k) (hv : v.size ≤ maxLen) (hN : N < 100000) :
    Calls Try.prog 66 #[.pointer (some ⟨bb, 0, none⟩), tri k, .string v] w (Did w bb F (.tuple #[.bool (decide ((k ∈ ks ∧ v ∉ vs k) ∧ (vs k).length = 0)), .bool (decide (k ∈ ks ∧ v ∉ vs k))]) ks (blkV ks vs k v) (N + 1)) := by
  have hB := h
  obtain ⟨lb, mb, Fl, hd, gb, vals, h1, h2, h3, h4, h5, h6⟩ := h
  by_cases hm : k ∈ ks ∧ v ∉ vs k
  · refine (block_yes h1 k v hk hv hm.1 hm.2 (by omega)).mono ?_
    rintro e W ⟨rfl, g, hc⟩
    rw [show blkV ks vs k v = upd vs k (vs k ++ [v]) from if_pos hm]
    have hs := sum_set h1.nk hm.1 vs (vs k ++ [v])
    rw [List.length_append, List.length_singleton] at hs
    refine ⟨by simp [hm], ⟨lb, mb, Fl, hd, gb, vals, g, fun b hb => .inl (h2 b hb), by omega, by omega, by omega, ?_⟩, hc.mono h2⟩
    intro y
    by_cases e : y = k
    · subst e
      rw [upd_same, List.nodup_append]
      exact ⟨h6 y, by simp, fun p hp q hq => by simp at hq; subst hq; exact fun e => hm.2 (e ▸ hp)⟩
    · rw [upd_other _ e]; exact h6 y
  · refine (block_no h1 k v hk hv (by by_cases a : v ∈ vs k; exact .inl a; exact .inr (fun b => hm ⟨b, a⟩))).mono ?_
    rintro e W ⟨rfl, hb⟩
    rw [show blkV ks vs k v = vs from if_neg hm]
    exact Did.of_below (hB.more (Nat.le_succ _)) (by simp only [hm, decide_false, false_and]) hb

theorem len_did (h : Blk w bb F ks vs N) : Calls Try.prog 67 #[.pointer (some ⟨bb, 0, none⟩)] w fun e w' => e = .returned (.int .i64 ks.length) ∧ w = w' := by
  obtain ⟨lb, mb, Fl, hd, gb, vals, h1, _⟩ := h
  exact blen_walk h1
theorem pairs_did (h : Blk w bb F ks vs N) : Calls Try.prog 68 #[.pointer (some ⟨bb, 0, none⟩)] w fun e w' => e = .returned (.int .i64 (sumOf ks vs)) ∧ w = w' := by
  obtain ⟨lb, mb, Fl, hd, gb, vals, h1, _⟩ := h
  exact pairs_walk h1
theorem by_did (h : Blk w bb F ks vs N) (v : ByteArray) (hv : v.size ≤ maxLen) (hN : N < 100000) : Calls Try.prog 69 #[.pointer (some ⟨bb, 0, none⟩), .string v] w fun e W' => ∃ r, e = .returned r ∧ W'.ownsRow w.heap.size 60 3 r (ks.filter fun k => decide (v ∈ vs k)).length (csT (ks.filter fun k => decide (v ∈ vs k))) ∧ Below w.heap.size w W' := by
  obtain ⟨lb, mb, Fl, hd, gb, vals, h1, h2, h3, h4, h5, h6⟩ := h
  exact callsIn_wide.1 (by_in 5 (by omega) h1 v hv (by omega) (by omega))
end
end Go.Proofs.Ytnncomhgclffaaa.BT
