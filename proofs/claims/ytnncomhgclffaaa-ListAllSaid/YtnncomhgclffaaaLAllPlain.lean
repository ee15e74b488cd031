/- The plain law of 'ListAll': what the list is ahead of each round. -/
import Derived.Test.YtnncomhgclffaaaLAllM
namespace Go.Proofs.Ytnncomhgclffaaa.LA
open Go.Proofs.Ytnncomhgclffaaa.LI

def base (k : Nat) : List Int := (List.range k).map fun i : Nat => (i : Int) + 1
def baseV (k : Nat) : List Int := (List.range k).map fun i : Nat => 10 * (i : Int)
def hAt (t : Nat) (pre : List (Int × Int)) : Int := ((pre[t]?).map (·.1)).getD 0
/-- The list behind the change: g is gone, unless it was told just then; 7 is put in last. -/
def rowC (k : Nat) (g h : Int) : List Int := (if g = h then base k else (base k).filter (· ≠ g)) ++ [(k : Int) + 1]
def rowF (k t : Nat) (g : Int) (pre : List (Int × Int)) : List Int := if pre.length ≤ t then base k else rowC k g (hAt t pre)
def valsF (k t : Nat) (pre : List (Int × Int)) : List Int := if pre.length ≤ t then baseV k else baseV k ++ [7]

theorem base_succ (k : Nat) : base (k + 1) = base k ++ [(k : Int) + 1] := by simp [base, List.range_succ]
theorem baseV_succ (k : Nat) : baseV (k + 1) = baseV k ++ [10 * (k : Int)] := by simp [baseV, List.range_succ]
theorem base_len (k : Nat) : (base k).length = k := by simp [base]
theorem baseV_len (k : Nat) : (baseV k).length = k := by simp [baseV]
theorem mem_base {k : Nat} {x : Int} : x ∈ base k ↔ 1 ≤ x ∧ x ≤ k := by
  simp only [base, List.mem_map, List.mem_range]
  constructor
  · rintro ⟨i, h, rfl⟩; omega
  · intro h; exact ⟨(x - 1).toNat, by omega, by omega⟩
theorem base_sorted (k : Nat) : (base k).Pairwise (· < ·) := by
  unfold base
  rw [List.pairwise_map]
  exact List.Pairwise.imp (fun h => by omega) List.pairwise_lt_range
theorem rowC_sorted (k : Nat) (g h : Int) : (rowC k g h).Pairwise (· < ·) := by
  unfold rowC
  rw [List.pairwise_append]
  refine ⟨?_, by simp, fun a ha b hb => ?_⟩
  · split
    · exact base_sorted k
    · exact (base_sorted k).filter _
  · rw [List.mem_singleton.1 hb]
    have : a ∈ base k := by
      split at ha
      · exact ha
      · exact (List.mem_filter.1 ha).1
    have := mem_base.1 this
    omega
theorem rowF_sorted (k t : Nat) (g : Int) (pre : List (Int × Int)) : (rowF k t g pre).Pairwise (· < ·) := by
  unfold rowF
  split
  · exact base_sorted k
  · exact rowC_sorted k g _
theorem mem_rowC {k : Nat} {g h x : Int} (hx : x ∈ rowC k g h) : 1 ≤ x ∧ x ≤ k + 1 := by
  rcases List.mem_append.1 hx with q | q
  · have : x ∈ base k := by
      split at q
      · exact q
      · exact (List.mem_filter.1 q).1
    have := mem_base.1 this
    omega
  · rw [List.mem_singleton.1 q]; omega
theorem mem_rowF {k t : Nat} {g x : Int} {pre : List (Int × Int)} (hx : x ∈ rowF k t g pre) : 1 ≤ x ∧ x ≤ k + 1 := by
  unfold rowF at hx
  split at hx
  · have := mem_base.1 hx; omega
  · exact mem_rowC hx

theorem sorted_next : ∀ (l : List Int) (h : Int), l.Pairwise (· < ·) → h ∈ l → ∀ y, l[l.idxOf h + 1]? = some y → h < y
  | [], h, _, hm, _, _ => by cases hm
  | a :: l, h, hs, hm, y, hy => by
    by_cases e : a = h
    · subst e
      rw [List.idxOf_cons_self] at hy
      exact (List.pairwise_cons.1 hs).1 y (List.mem_of_getElem? (by simpa using hy))
    · rw [List.idxOf_cons, show (a == h) = false from by simpa using e, cond_false] at hy
      exact sorted_next l h (List.pairwise_cons.1 hs).2 ((List.mem_cons.1 hm).resolve_left (fun q => e q.symm)) y (by simpa using hy)
theorem next_greater {l : List Int} {h : Int} (hs : l.Pairwise (· < ·)) (hp : ∀ x ∈ l, 1 ≤ x) (h0 : 0 ≤ h) : nextR l h = 0 ∨ h < nextR l h := by
  unfold nextR
  split
  · rename_i e
    subst e
    cases hl : l[0]? with
    | none => exact .inl rfl
    | some y => have := hp y (List.mem_of_getElem? hl); exact .inr (by simp; omega)
  · split
    · rename_i hm
      cases hl : l[l.idxOf h + 1]? with
      | none => exact .inl rfl
      | some y => exact .inr (by simpa using sorted_next l h hs hm y hl)
    · exact .inl rfl

/-- The next handle is greater, and no greater than there may be. -/
theorem pend_bound {k t : Nat} {g : Int} {pre : List (Int × Int)} (h0 : 0 ≤ lastH pre) : pend (rowF k t g) pre = 0 ∨ (lastH pre < pend (rowF k t g) pre ∧ pend (rowF k t g) pre ≤ (k + 1 : Nat)) := by
  have h1 := next_greater (rowF_sorted k t g pre) (fun x hx => (mem_rowF hx).1) h0
  rcases nextR_mem (rowF k t g pre) (lastH pre) with h2 | h2
  · exact .inl h2
  · have := (mem_rowF h2).2
    exact h1.imp id fun q => ⟨q, by unfold pend; omega⟩

theorem vals_len {k t : Nat} {pre : List (Int × Int)} : (valsF k t pre).length ≤ k + 1 := by
  unfold valsF
  split <;> simp [baseV_len]
theorem baseV_at {k : Nat} {x : Int} (h : 1 ≤ x ∧ x ≤ k) : (baseV k)[(x - 1).toNat]? = some (10 * (x - 1)) := by
  unfold baseV
  rw [List.getElem?_map, List.getElem?_range (by omega)]
  simp
  omega
/-- What is told with a handle. -/
theorem getV_at {k t : Nat} {g x : Int} {pre : List (Int × Int)} (hx : x ∈ rowF k t g pre) : getV (rowF k t g pre) (valsF k t pre) x = if x ≤ k then 10 * (x - 1) else 7 := by
  unfold getV
  rw [if_pos hx]
  have hb := mem_rowF hx
  unfold rowF at hx
  unfold valsF
  by_cases hp : pre.length ≤ t
  · rw [if_pos hp] at hx ⊢
    have := mem_base.1 hx
    rw [if_pos this.2, baseV_at this]
    rfl
  · rw [if_neg hp]
    by_cases hk : x ≤ k
    · rw [if_pos hk, List.getElem?_append_left (by rw [baseV_len]; omega), baseV_at ⟨hb.1, hk⟩]
      rfl
    · have : x = k + 1 := by omega
      rw [if_neg hk, this, List.getElem?_append_right (by rw [baseV_len]; omega), baseV_len]
      have e : ((k : Int) + 1 - 1).toNat - k = 0 := by omega
      rw [e]
      rfl

/-- A round that changes nothing. -/
theorem rowF_same {k t : Nat} {g : Int} {pre : List (Int × Int)} {x : Int × Int} (h : pre.length ≠ t) : rowF k t g (pre ++ [x]) = rowF k t g pre := by
  unfold rowF
  rw [List.length_append, List.length_singleton]
  by_cases h1 : pre.length ≤ t
  · rw [if_pos h1, if_pos (by omega)]
  · rw [if_neg h1, if_neg (by omega)]
    unfold hAt
    rw [List.getElem?_append_left (by omega)]
theorem valsF_same {k t : Nat} {pre : List (Int × Int)} {x : Int × Int} (h : pre.length ≠ t) : valsF k t (pre ++ [x]) = valsF k t pre := by
  unfold valsF
  rw [List.length_append, List.length_singleton]
  by_cases h1 : pre.length ≤ t
  · rw [if_pos h1, if_pos (by omega)]
  · rw [if_neg h1, if_neg (by omega)]
/-- The round of the change. -/
theorem rowF_turn {k t : Nat} {g : Int} {pre : List (Int × Int)} {x : Int × Int} (h : pre.length = t) : rowF k t g pre = base k ∧ rowF k t g (pre ++ [x]) = rowC k g x.1 ∧ valsF k t pre = baseV k ∧ valsF k t (pre ++ [x]) = baseV k ++ [7] := by
  subst h
  refine ⟨if_pos (Nat.le_refl _), ?_, if_pos (Nat.le_refl _), if_neg (by simp)⟩
  unfold rowF
  rw [if_neg (by simp)]
  simp [hAt]
theorem filter_base {k : Nat} {g : Int} (hg : g ∈ base k) : ∃ a b, base k = a ++ g :: b ∧ (base k).filter (· ≠ g) = a ++ b := by
  obtain ⟨a, b, e⟩ := List.append_of_mem hg
  refine ⟨a, b, e, ?_⟩
  have hn : (a ++ g :: b).Nodup := by rw [← e]; exact (base_sorted k).imp (fun h => by omega)
  rw [List.nodup_append] at hn
  have h1 : a.filter (· ≠ g) = a := List.filter_eq_self.2 fun y hy => by
    have := hn.2.2 y hy g (by simp)
    simpa using this
  have h2 : b.filter (· ≠ g) = b := List.filter_eq_self.2 fun y hy => by
    have := (List.nodup_cons.1 hn.2.1).1
    have hne : y ≠ g := fun q => this (q ▸ hy)
    simpa using hne
  rw [e, List.filter_append, List.filter_cons, h1, h2]
  simp
theorem filter_none {k : Nat} {g : Int} (hg : g ∉ base k) : (base k).filter (· ≠ g) = base k := List.filter_eq_self.2 fun y hy => by
  have hne : y ≠ g := fun q => hg (q ▸ hy)
  simpa using hne
end Go.Proofs.Ytnncomhgclffaaa.LA
