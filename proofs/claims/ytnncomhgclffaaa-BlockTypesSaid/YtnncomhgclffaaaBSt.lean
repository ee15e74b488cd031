/- The blocks as a state: owners in order, the blockers of each; what each function answers and what it leaves. -/
import Derived.Test.YtnncomhgclffaaaBOpen
import Derived.Test.YtnncomhgclffaaaBClose
import Derived.Test.YtnncomhgclffaaaBBy
namespace Go.Proofs.Ytnncomhgclffaaa.BI
open Go.RowKit Go.Shelf Go.Proofs.YtnncomhgclffaaaW.PrintWords Go.Proofs.YtnncomhgclffaaaL Go.Proofs.Ytnncomhgclffaaa.LL Go.Proofs.Ytnncomhgclffaaa.LS

/-- The blocks at block bb: owners ks, blockers vs; all their blocks are among F; no more than N calls have made them. -/
def Blk (w : World) (bb : Nat) (F : Nat → Prop) (ks : List ByteArray) (vs : ByteArray → List Int) (N : Nat) : Prop :=
  ∃ lb mb Fl hd gb vals, BIs w bb lb mb Fl hd gb ks vs vals ∧ (∀ b, BFoot bb mb Fl gb ks b → F b) ∧ vals.length ≤ N ∧ ks.length ≤ N ∧ sumOf ks vs ≤ N ∧ ∀ k, (vs k).Nodup

section
variable {w W : World} {bb N : Nat} {F : Nat → Prop} {ks : List ByteArray} {vs : ByteArray → List Int}

theorem Blk.mono {F' : Nat → Prop} (h : Blk w bb F ks vs N) (hf : ∀ b, F b → b < w.heap.size → F' b) : Blk w bb F' ks vs N := by
  obtain ⟨lb, mb, Fl, hd, gb, vals, h1, h2, h3⟩ := h
  refine ⟨lb, mb, _, hd, gb, vals, h1.bound, fun b hb => hf b ?_ (h1.foot_lt hb), h3⟩
  exact h2 b (by rcases hb with x | x | x | x; exact .inl x; exact .inr (.inl x); exact .inr (.inr (.inl x.1)); exact .inr (.inr (.inr x)))
theorem Blk.more {N' : Nat} (h : Blk w bb F ks vs N) (hN : N ≤ N') : Blk w bb F ks vs N' := by
  obtain ⟨lb, mb, Fl, hd, gb, vals, h1, h2, h3, h4, h5, h6⟩ := h
  exact ⟨lb, mb, Fl, hd, gb, vals, h1, h2, Nat.le_trans h3 hN, Nat.le_trans h4 hN, Nat.le_trans h5 hN, h6⟩
theorem Blk.move (h : Blk w bb F ks vs N) (hk : ∀ b, F b → b < w.heap.size → W.heap[b]? = w.heap[b]?) : Blk W bb F ks vs N := by
  obtain ⟨lb, mb, Fl, hd, gb, vals, h1, h2, h3⟩ := h
  exact ⟨lb, mb, Fl, hd, gb, vals, h1.move (fun b hb hl => hk b (h2 b hb) hl), h2, h3⟩
theorem Blk.below (h : Blk w bb F ks vs N) (hb : Below w.heap.size w W) : Blk W bb F ks vs N := h.move fun b _ hl => hb.block b hl
theorem Blk.lt (h : Blk w bb F ks vs N) : F bb ∧ bb < w.heap.size := by
  obtain ⟨lb, mb, Fl, hd, gb, vals, h1, h2, h3⟩ := h
  exact ⟨h2 bb (.inl rfl), blk_lt h1.head⟩
theorem Blk.facts (h : Blk w bb F ks vs N) : ks.Nodup ∧ ks.length ≤ N ∧ sumOf ks vs ≤ N ∧ (∀ k, (vs k).Nodup) ∧ (∀ k, k ∉ ks → vs k = []) ∧ ∀ k ∈ ks, k.size ≤ maxLen := by
  obtain ⟨lb, mb, Fl, hd, gb, vals, h1, h2, h3, h4, h5, h6⟩ := h
  exact ⟨h1.nk, h4, h5, h6, h1.emp, fun k hk => h1.good hk⟩

/-- A call has answered r, and the blocks are ks', vs' now. -/
def Did (w : World) (bb : Nat) (F : Nat → Prop) (r : Value) (ks : List ByteArray) (vs : ByteArray → List Int) (N : Nat) (e : Ending) (W : World) : Prop :=
  e = .returned r ∧ Blk W bb (fun b => F b ∨ w.heap.size ≤ b) ks vs N ∧ Ch w W F

theorem Did.of_below {r : Value} {e : Ending} (h : Blk w bb F ks vs N) (he : e = .returned r) (hb : Below w.heap.size w W) : Did w bb F r ks vs N e W :=
  ⟨he, (h.below hb).mono (fun _ x _ => .inl x), Ch.of_below hb _⟩

noncomputable def openK (ks : List ByteArray) (k : ByteArray) : List ByteArray := if k ∈ ks then ks else ks ++ [k]
noncomputable def blkV (ks : List ByteArray) (vs : ByteArray → List Int) (k : ByteArray) (v : Int) : ByteArray → List Int := if k ∈ ks ∧ v ∉ vs k then upd vs k (vs k ++ [v]) else vs
def freeV (vs : ByteArray → List Int) (k : ByteArray) (v : Int) : ByteArray → List Int := if v ∈ vs k then upd vs k ((vs k).filter (· ≠ v)) else vs

theorem new_did (w : World) : Calls Try.prog 70 #[] w fun e W => ∃ bb, e = .returned (.pointer (some ⟨bb, 0, none⟩)) ∧ Blk W bb (fun b => w.heap.size ≤ b) [] (fun _ => []) 0 ∧ Below w.heap.size w W := by
  refine (bnew_walk w).mono ?_
  rintro e W ⟨bb, lb, mb, hd, gb, rfl, h, hb, h1, h2⟩
  refine ⟨bb, rfl, ⟨lb, mb, _, hd, gb, [], h, ?_, Nat.le_refl _, Nat.le_refl _, Nat.le_refl _, fun _ => List.nodup_nil⟩, hb⟩
  rintro b (rfl | rfl | x | ⟨y, hy, _⟩)
  · exact h1
  · exact h2
  · exact x.1
  · cases hy

theorem open_did (h : Blk w bb F ks vs N) (k : ByteArray) (hk : k.size ≤ maxLen) (hN : N < 100000) :
    Calls Try.prog 73 #[.pointer (some ⟨bb, 0, none⟩), .string k] w (Did w bb F (.bool (decide (k ∉ ks))) (openK ks k) vs (N + 1)) := by
  have hB := h
  obtain ⟨lb, mb, Fl, hd, gb, vals, h1, h2, h3, h4, h5, h6⟩ := h
  by_cases hm : k ∈ ks
  · refine (open_no h1 k hk hm).mono ?_
    rintro e W ⟨rfl, hb⟩
    rw [show openK ks k = ks from if_pos hm]
    exact Did.of_below (hB.more (Nat.le_succ _)) (by simp [hm]) hb
  · refine (open_yes h1 k hk hm (by omega)).mono ?_
    rintro e W ⟨rfl, Fl', hd', gb', g, hc, hf⟩
    rw [show openK ks k = ks ++ [k] from if_neg hm]
    refine ⟨by simp [hm], ⟨lb, mb, Fl', hd', gb', _, g, fun b hb => (hf b hb).imp (h2 b) id, by simp; omega, by simp; omega, ?_, h6⟩, hc.mono h2⟩
    rw [sumOf_append, sumOf_cons, h1.emp k hm]
    simp [sumOf]
    simp [sumOf] at h5
    omega

theorem filter_split {a b : List ByteArray} {k : ByteArray} (hn : (a ++ k :: b).Nodup) : (a ++ k :: b).filter (fun y => decide (y ≠ k)) = a ++ b := by
  rw [List.nodup_append] at hn
  have h1 : a.filter (fun y => decide (y ≠ k)) = a := List.filter_eq_self.2 fun y hy => decide_eq_true (fun e => hn.2.2 y hy k (by simp) e)
  have h2 : b.filter (fun y => decide (y ≠ k)) = b := List.filter_eq_self.2 fun y hy => decide_eq_true (fun e => (List.nodup_cons.1 hn.2.1).1 (by rw [← e]; exact hy))
  rw [List.filter_append, List.filter_cons, h1, h2]
  simp

theorem close_did (h : Blk w bb F ks vs N) (k : ByteArray) (hk : k.size ≤ maxLen) (hN : N < 100000) :
    Calls Try.prog 74 #[.pointer (some ⟨bb, 0, none⟩), .string k] w (Did w bb F (.bool (decide (k ∈ ks))) (ks.filter (fun y => decide (y ≠ k))) (upd vs k []) (N + 1)) := by
  have hB := h
  obtain ⟨lb, mb, Fl, hd, gb, vals, h1, h2, h3, h4, h5, h6⟩ := h
  by_cases hm : k ∈ ks
  · obtain ⟨a, b, rfl⟩ := List.append_of_mem hm
    refine (close_yes h1 hk (by omega) (by omega)).mono ?_
    rintro e W ⟨rfl, ⟨Fl', g, hf⟩, hc⟩
    rw [filter_split h1.nk]
    refine ⟨by simp, ⟨lb, mb, Fl', hd, gb, vals, g, ?_, by omega, ?_, ?_, ?_⟩, hc.mono h2⟩
    · rintro x (rfl | rfl | hx | ⟨y, hy, rfl⟩)
      · exact .inl (h2 _ (.inl rfl))
      · exact .inl (h2 _ (.inr (.inl rfl)))
      · exact (hf x hx).imp (fun q => h2 _ (.inr (.inr (.inl q)))) id
      · exact .inl (h2 _ (.inr (.inr (.inr ⟨y, by simp at hy ⊢; rcases hy with q | q <;> simp [q], rfl⟩))))
    · simp at h4 ⊢; omega
    · have := sumOf_upd h1.nk vs []
      have hn := h1.nk
      rw [sumOf_congr (ks := a ++ b) (vs := upd vs k []) (vs' := vs) (fun y hy => by
        rw [upd_other]
        rintro rfl
        rw [List.nodup_append] at hn
        rcases List.mem_append.1 hy with q | q
        · exact hn.2.2 y q y (by simp) rfl
        · exact (List.nodup_cons.1 hn.2.1).1 q)]
      rw [sumOf_append, sumOf_cons] at h5
      rw [sumOf_append]
      omega
    · intro y
      by_cases e : y = k
      · subst e; rw [upd_same]; exact List.nodup_nil
      · rw [upd_other _ e]; exact h6 y
  · refine (close_no h1 k hk hm).mono ?_
    rintro e W ⟨rfl, hb⟩
    rw [show upd vs k [] = vs from funext fun y => by
      by_cases e : y = k
      · subst e; rw [upd_same, h1.emp y hm]
      · exact upd_other _ e _]
    rw [show ks.filter (fun y => decide (y ≠ k)) = ks from List.filter_eq_self.2 fun y hy => decide_eq_true (fun e => hm (by rw [← e]; exact hy))]
    exact Did.of_below (hB.more (Nat.le_succ _)) (by simp [hm]) hb

theorem block_did (h : Blk w bb F ks vs N) (k : ByteArray) (v : Int) (hk : k.size ≤ maxLen) (hv : (Lit.int .i64 v).wf = true) (hN : N < 100000) :
    Calls Try.prog 76 #[.pointer (some ⟨bb, 0, none⟩), .string k, .int .i64 v] w (Did w bb F (.tuple #[.bool (decide ((k ∈ ks ∧ v ∉ vs k) ∧ (vs k).length = 0)), .bool (decide (k ∈ ks ∧ v ∉ vs k))]) ks (blkV ks vs k v) (N + 1)) := by
  have hB := h
  obtain ⟨lb, mb, Fl, hd, gb, vals, h1, h2, h3, h4, h5, h6⟩ := h
  by_cases hm : k ∈ ks ∧ v ∉ vs k
  · refine (block_yes h1 k v hk hv hm.1 hm.2 (by omega)).mono ?_
    rintro e W ⟨rfl, g, hc⟩
    rw [show blkV ks vs k v = upd vs k (vs k ++ [v]) from if_pos hm]
    have hs := sum_set h1.nk hm.1 vs (vs k ++ [v])
    rw [List.length_append, List.length_singleton] at hs
    refine ⟨by simp [hm], ⟨lb, mb, Fl, hd, gb, vals, g, fun b hb => .inl (h2 b hb), by omega, by omega, by omega, ?_⟩, hc.mono h2⟩
    intro y
    by_cases e : y = k
    · subst e
      rw [upd_same, List.nodup_append]
      exact ⟨h6 y, by simp, fun p hp q hq => by simp at hq; subst hq; exact fun e => hm.2 (e ▸ hp)⟩
    · rw [upd_other _ e]; exact h6 y
  · refine (block_no h1 k v hk hv (by by_cases a : v ∈ vs k; exact .inl a; exact .inr (fun b => hm ⟨b, a⟩))).mono ?_
    rintro e W ⟨rfl, hb⟩
    rw [show blkV ks vs k v = vs from if_neg hm]
    exact Did.of_below (hB.more (Nat.le_succ _)) (by simp only [hm, decide_false, false_and]) hb

theorem free_did (h : Blk w bb F ks vs N) (k : ByteArray) (v : Int) (hk : k.size ≤ maxLen) (hv : (Lit.int .i64 v).wf = true) (hN : N < 100000) :
    Calls Try.prog 78 #[.pointer (some ⟨bb, 0, none⟩), .string k, .int .i64 v] w (Did w bb F (.tuple #[.bool (decide (v ∈ vs k ∧ (vs k).length = 1)), .bool (decide (v ∈ vs k))]) ks (freeV vs k v) (N + 1)) := by
  have hB := h
  obtain ⟨lb, mb, Fl, hd, gb, vals, h1, h2, h3, h4, h5, h6⟩ := h
  by_cases hm : v ∈ vs k
  · have hkk : k ∈ ks := by
      by_cases q : k ∈ ks
      · exact q
      · rw [h1.emp k q] at hm; cases hm
    refine (free_yes h1 k v hk hv hkk hm (h6 k) (by omega)).mono ?_
    rintro e W ⟨rfl, g, hc⟩
    rw [show freeV vs k v = upd vs k ((vs k).filter (· ≠ v)) from if_pos hm]
    have hs := sum_set h1.nk hkk vs ((vs k).filter (· ≠ v))
    have hfl := List.length_filter_le (· ≠ v) (vs k)
    refine ⟨by simp [hm], ⟨lb, mb, Fl, hd, gb, vals, g, fun b hb => .inl (h2 b hb), by omega, by omega, by omega, ?_⟩, hc.mono h2⟩
    intro y
    by_cases e : y = k
    · subst e; rw [upd_same]; exact (h6 y).filter _
    · rw [upd_other _ e]; exact h6 y
  · refine (free_no h1 k v hk hv hm).mono ?_
    rintro e W ⟨rfl, hb⟩
    rw [show freeV vs k v = vs from if_neg hm]
    exact Did.of_below (hB.more (Nat.le_succ _)) (by simp only [hm, decide_false, false_and]) hb

theorem len_did (h : Blk w bb F ks vs N) : Calls Try.prog 80 #[.pointer (some ⟨bb, 0, none⟩)] w fun e w' => e = .returned (.int .i64 ks.length) ∧ w = w' := by
  obtain ⟨lb, mb, Fl, hd, gb, vals, h1, _⟩ := h
  exact blen_walk h1
theorem pairs_did (h : Blk w bb F ks vs N) : Calls Try.prog 81 #[.pointer (some ⟨bb, 0, none⟩)] w fun e w' => e = .returned (.int .i64 (sumOf ks vs)) ∧ w = w' := by
  obtain ⟨lb, mb, Fl, hd, gb, vals, h1, _⟩ := h
  exact pairs_walk h1
theorem is_did (h : Blk w bb F ks vs N) (k : ByteArray) (hk : k.size ≤ maxLen) : Calls Try.prog 82 #[.pointer (some ⟨bb, 0, none⟩), .string k] w fun e w' => e = .returned (.bool (decide (k ∈ ks))) ∧ Below w.heap.size w w' := by
  obtain ⟨lb, mb, Fl, hd, gb, vals, h1, _⟩ := h
  exact is_walk h1 k hk
theorem count_did (h : Blk w bb F ks vs N) (k : ByteArray) (hk : k.size ≤ maxLen) : Calls Try.prog 83 #[.pointer (some ⟨bb, 0, none⟩), .string k] w fun e w' => e = .returned (.int .i64 (vs k).length) ∧ w = w' := by
  obtain ⟨lb, mb, Fl, hd, gb, vals, h1, _⟩ := h
  exact count_walk h1 k hk
theorem owners_did (h : Blk w bb F ks vs N) (hN : N < 100000) : Calls Try.prog 87 #[.pointer (some ⟨bb, 0, none⟩)] w fun e W' => ∃ v, e = .returned v ∧ W'.ownsRow w.heap.size 9 1 v ks.length (ks.map Value.string) ∧ Below w.heap.size w W' := by
  obtain ⟨lb, mb, Fl, hd, gb, vals, h1, h2, h3, h4, h5, h6⟩ := h
  exact callsIn_wide.1 (owners_in 5 (by omega) h1 (by omega) (by omega))
theorem by_did (h : Blk w bb F ks vs N) (v : Int) (hv : (Lit.int .i64 v).wf = true) (hN : N < 100000) : Calls Try.prog 85 #[.pointer (some ⟨bb, 0, none⟩), .int .i64 v] w fun e W' => ∃ r, e = .returned r ∧ W'.ownsRow w.heap.size 9 1 r (ks.filter fun k => decide (v ∈ vs k)).length ((ks.filter fun k => decide (v ∈ vs k)).map Value.string) ∧ Below w.heap.size w W' := by
  obtain ⟨lb, mb, Fl, hd, gb, vals, h1, h2, h3, h4, h5, h6⟩ := h
  exact callsIn_wide.1 (by_in 5 (by omega) h1 v hv (by omega) (by omega))
end
end Go.Proofs.Ytnncomhgclffaaa.BI
