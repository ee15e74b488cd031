/- The plain law of the blocks: owners in a row and pairs, beside the blockers of each. -/
import Derived.Test.YtnncomhgclffaaaBSt
namespace Go.Proofs.Ytnncomhgclffaaa.BI

/-- The blockers of k, by the pairs. -/
def ofP (Q : List (ByteArray × Int)) (k : ByteArray) : List Int := (Q.filter fun p => decide (p.1 = k)).map (·.2)
/-- The pairs tell the blockers. -/
def Tell (ks : List ByteArray) (vs : ByteArray → List Int) (Q : List (ByteArray × Int)) : Prop := (∀ k, vs k = ofP Q k) ∧ ∀ p ∈ Q, p.1 ∈ ks

theorem mem_ofP {Q : List (ByteArray × Int)} {k : ByteArray} {v : Int} : v ∈ ofP Q k ↔ (k, v) ∈ Q := by
  unfold ofP
  rw [List.mem_map]
  constructor
  · rintro ⟨⟨a, b⟩, h, rfl⟩
    obtain ⟨h1, h2⟩ := List.mem_filter.1 h
    have := of_decide_eq_true h2
    dsimp only at this
    subst this
    exact h1
  · intro h
    exact ⟨(k, v), List.mem_filter.2 ⟨h, decide_eq_true rfl⟩, rfl⟩
theorem ofP_len (Q : List (ByteArray × Int)) (k : ByteArray) : (ofP Q k).length = (Q.filter fun p => decide (p.1 = k)).length := by simp [ofP]
theorem ofP_append (Q : List (ByteArray × Int)) (k y : ByteArray) (v : Int) : ofP (Q ++ [(k, v)]) y = if y = k then ofP Q y ++ [v] else ofP Q y := by
  unfold ofP
  by_cases h : y = k
  · subst h; simp
  · have : ¬ k = y := fun e => h e.symm
    simp [h, this]
theorem ofP_close (Q : List (ByteArray × Int)) (k y : ByteArray) : ofP (Q.filter fun p => decide (p.1 ≠ k)) y = if y = k then [] else ofP Q y := by
  unfold ofP
  rw [List.filter_filter]
  by_cases h : y = k
  · subst h
    rw [if_pos rfl, List.filter_eq_nil_iff.2 (fun p _ => by simp)]
    rfl
  · rw [if_neg h]
    congr 1
    refine List.filter_congr fun p _ => ?_
    by_cases e : p.1 = y
    · simp [e, h]
    · simp [e]
theorem ofP_free (Q : List (ByteArray × Int)) (k y : ByteArray) (v : Int) : ofP (Q.filter fun p => decide (p.1 ≠ k ∨ p.2 ≠ v)) y = if y = k then (ofP Q y).filter (· ≠ v) else ofP Q y := by
  unfold ofP
  rw [List.filter_filter]
  by_cases h : y = k
  · subst h
    rw [if_pos rfl, List.filter_map, List.filter_filter]
    congr 1
    refine List.filter_congr fun p _ => ?_
    by_cases e : p.1 = y <;> by_cases e2 : p.2 = v <;> simp [e, e2]
  · rw [if_neg h]
    congr 1
    refine List.filter_congr fun p _ => ?_
    by_cases e : p.1 = y
    · simp [e, h]
    · simp [e]

theorem sum_ite {ks : List ByteArray} (hn : ks.Nodup) {k : ByteArray} (hk : k ∈ ks) (f : ByteArray → Nat) : (ks.map fun y => f y + if k = y then 1 else 0).sum = (ks.map f).sum + 1 := by
  induction ks with
  | nil => cases hk
  | cons a t ih =>
    obtain ⟨h1, h2⟩ := List.nodup_cons.1 hn
    simp only [List.map_cons, List.sum_cons]
    by_cases e : k = a
    · subst e
      have : (t.map fun y => f y + if k = y then 1 else 0) = t.map f := List.map_congr_left fun y hy => by
        rw [if_neg (fun e0 : k = y => h1 (by rw [e0]; exact hy))]; rfl
      rw [this]
      simp
      omega
    · have hk' : k ∈ t := by
        rcases List.mem_cons.1 hk with q | q
        · exact absurd q e
        · exact q
      rw [ih h2 hk', if_neg e]
      omega

theorem sum_pairs {ks : List ByteArray} (hn : ks.Nodup) {Q : List (ByteArray × Int)} (hQ : ∀ p ∈ Q, p.1 ∈ ks) : (ks.map fun k => (ofP Q k).length).sum = Q.length := by
  induction Q with
  | nil =>
    have : (ks.map fun k => (ofP [] k).length) = ks.map fun _ => 0 := List.map_congr_left fun _ _ => rfl
    rw [this]
    clear this hn hQ
    induction ks with
    | nil => rfl
    | cons a t ih => simpa using ih
  | cons p Q ih =>
    have e : (ks.map fun k => (ofP (p :: Q) k).length) = ks.map fun k => (ofP Q k).length + if p.1 = k then 1 else 0 := List.map_congr_left fun k _ => by
      unfold ofP
      rw [List.filter_cons]
      by_cases h : p.1 = k
      · simp [h]
      · simp [h]
    rw [e, sum_ite hn (hQ p (by simp)) (fun k => (ofP Q k).length), ih (fun q hq => hQ q (by simp [hq])), List.length_cons]

theorem Tell.sum {ks : List ByteArray} {vs : ByteArray → List Int} {Q : List (ByteArray × Int)} (h : Tell ks vs Q) (hn : ks.Nodup) : sumOf ks vs = Q.length := by
  unfold sumOf
  rw [← sum_pairs hn h.2]
  exact congrArg List.sum (List.map_congr_left fun k _ => by rw [h.1 k])
theorem Tell.has {ks : List ByteArray} {vs : ByteArray → List Int} {Q : List (ByteArray × Int)} (h : Tell ks vs Q) (k : ByteArray) (v : Int) : v ∈ vs k ↔ (k, v) ∈ Q := by rw [h.1 k]; exact mem_ofP
theorem Tell.open_ {ks : List ByteArray} {vs : ByteArray → List Int} {Q : List (ByteArray × Int)} (h : Tell ks vs Q) (k : ByteArray) : Tell (openK ks k) vs Q := by
  refine ⟨h.1, fun p hp => ?_⟩
  unfold openK
  split
  · exact h.2 p hp
  · exact List.mem_append.2 (.inl (h.2 p hp))
theorem Tell.close {ks : List ByteArray} {vs : ByteArray → List Int} {Q : List (ByteArray × Int)} (h : Tell ks vs Q) (k : ByteArray) : Tell (ks.filter fun y => decide (y ≠ k)) (upd vs k []) (Q.filter fun p => decide (p.1 ≠ k)) := by
  refine ⟨fun y => ?_, fun p hp => ?_⟩
  · rw [ofP_close]
    unfold upd
    split
    · rfl
    · exact h.1 y
  · obtain ⟨h1, h2⟩ := List.mem_filter.1 hp
    exact List.mem_filter.2 ⟨h.2 p h1, h2⟩
theorem Tell.block {ks : List ByteArray} {vs : ByteArray → List Int} {Q : List (ByteArray × Int)} (h : Tell ks vs Q) (k : ByteArray) (v : Int) (hok : k ∈ ks ∧ v ∉ vs k) : Tell ks (blkV ks vs k v) (Q ++ [(k, v)]) := by
  refine ⟨fun y => ?_, fun p hp => ?_⟩
  · rw [ofP_append, show blkV ks vs k v = upd vs k (vs k ++ [v]) from if_pos hok]
    unfold upd
    split
    · rename_i e; subst e; rw [h.1]
    · exact h.1 y
  · rcases List.mem_append.1 hp with q | q
    · exact h.2 p q
    · rw [List.mem_singleton.1 q]; exact hok.1
theorem Tell.free {ks : List ByteArray} {vs : ByteArray → List Int} {Q : List (ByteArray × Int)} (h : Tell ks vs Q) (k : ByteArray) (v : Int) : Tell ks (freeV vs k v) (Q.filter fun p => decide (p.1 ≠ k ∨ p.2 ≠ v)) := by
  refine ⟨fun y => ?_, fun p hp => h.2 p (List.mem_filter.1 hp).1⟩
  rw [ofP_free]
  unfold freeV
  split
  · unfold upd
    split
    · rename_i e; subst e; rw [h.1]
    · exact h.1 y
  · rename_i hno
    split
    · rename_i e
      subst e
      rw [← h.1]
      refine (List.filter_eq_self.2 (fun x hx => ?_)).symm
      exact decide_eq_true (p := x ≠ v) (fun e2 => hno (by rw [← e2]; exact hx))
    · exact h.1 y
end Go.Proofs.Ytnncomhgclffaaa.BI
