/- Whatever two counts below five and up to 100 turns: the link fits at the beginning and behind each turn. For every input. -/
import Derived.Test.YtnncomhgclffaaaPLinkFitsx3
namespace Go.Proofs.Ytnncomhgclffaaa.Pure
open Go.RowKit Go.Proofs.Ytnncomhgclffaaa.PLinkFits Go.Proofs.YtnncomhgclffaaaW.PrintWords Go.Proofs.YtnncomhgclffaaaW.PrintLast

def FitsB (l r : Bool) (n m : Int) : Prop := (l = true ∨ n ≤ 0) ∧ (r = true ∨ m ≤ 0) ∧ (l = true ∨ r = true)

def itemsB (l r : Bool) (was now above : Int) : Bool × Bool :=
  if r = true then (if was ≤ 0 ∧ now > 0 then (true, decide (above > 0)) else if was > 0 ∧ now ≤ 0 then (false, r) else (l, r)) else (l, r)

theorem items_eq (k : Nat) (l r : Bool) (was now above : Int) : link_Items.f (k + 1) l r was now above = some (itemsB l r was now above) := by
  cases r
  · simp [link_Items.f, itemsB]
  · unfold link_Items.f itemsB
    simp only [link_Items.j0, if_true]
    by_cases h1 : was ≤ 0 <;> by_cases h2 : now > 0 <;> by_cases h3 : was > 0 <;> by_cases h4 : now ≤ 0 <;> simp [h1, h2, h3, h4] <;> omega

theorem above_eq (k : Nat) (l r : Bool) (was now items : Int) :
    link_Above.f (k + 1) l r was now items = some ((itemsB r l was now items).2, (itemsB r l was now items).1) := by
  unfold link_Above.f; rw [items_eq]; rfl

theorem start_eq (n m : Int) : link_Start.f n m = some (decide (n > 0) || decide (m ≤ 0), decide (m > 0)) := by
  unfold link_Start.f
  by_cases h : n > 0 <;> simp [h]

def refB (b : Bool) : Int := if b = true then 1 else 0
theorem ref_eq (l r : Bool) : retiarylaw18_ref.f l r = some (refB l, refB r) := by
  cases l <;> cases r <;> rfl

theorem fits_eq (l r : Bool) (n m : Int) (h : FitsB l r n m) : retiaryref18_Fits.f (refB l) (refB r) n m = some true := by
  unfold FitsB at h
  unfold retiaryref18_Fits.f refB
  cases l <;> cases r <;> simp at h ⊢
  · omega
  · omega

theorem fits_items (l r : Bool) (was now above : Int) (h : FitsB l r was above) : FitsB (itemsB l r was now above).1 (itemsB l r was now above).2 now above := by
  unfold FitsB at *
  unfold itemsB
  cases l <;> cases r <;> simp at h ⊢
  · by_cases h1 : was ≤ 0 ∧ 0 < now
    · rw [if_pos h1]; simp; omega
    · rw [if_neg h1]; simp; omega
  · omega
  · by_cases h1 : was ≤ 0 ∧ 0 < now
    · rw [if_pos h1]; simp; omega
    · rw [if_neg h1]
      by_cases h2 : 0 < was ∧ now ≤ 0
      · rw [if_pos h2]; simp; omega
      · rw [if_neg h2]; simp

theorem fits_start (n m : Int) : FitsB (decide (n > 0) || decide (m ≤ 0)) (decide (m > 0)) n m := by
  unfold FitsB
  simp
  omega

theorem fits_swap {l r : Bool} {n m : Int} (h : FitsB l r n m) : FitsB r l m n := ⟨h.2.1, h.1, h.2.2.symm⟩

theorem awake_true (k : Nat) : retiarylaw18_awake.f (k + 1) = some true := by
  unfold retiarylaw18_awake.f
  rw [start_eq]
  simp only [Option.bind_some]
  rw [items_eq]
  simp only [Option.bind_some]
  rw [above_eq]
  simp [itemsB]

theorem wrap_small {i : Int} (h0 : 0 ≤ i) (h : i < 1000) : wrap64 i = i := by unfold wrap64; omega

theorem loop_true (l2 : List Int) (hl : l2.length ≤ 100) (d : Nat) : ∀ (k : Nat) (n m i : Int) (a b : Bool), FitsB a b n m → 0 ≤ i → i ≤ l2.length → (l2.length : Int) - i = d → 2 * d + 3 ≤ k →
    retiarylaw18_LinkFits.l0 k n m l2 (l2.length : Int) i a b = some true := by
  induction d with
  | zero =>
    intro k n m i a b hf h0 h1 hd hk
    obtain ⟨k, rfl⟩ : ∃ j, k = j + 2 := ⟨k - 2, by omega⟩
    simp only [retiarylaw18_LinkFits.l0]
    rw [if_neg (by omega), awake_true]
    rfl
  | succ d ih =>
    intro k n m i a b hf h0 h1 hd hk
    obtain ⟨k, rfl⟩ : ∃ j, k = j + 3 := ⟨k - 3, by omega⟩
    simp only [retiarylaw18_LinkFits.l0]
    rw [if_pos (by omega), if_pos h0, if_pos (by omega)]
    by_cases hx : Int.tmod (rd l2 i) 2 = 0
    · rw [if_pos hx, items_eq]
      simp only [Option.bind_some, retiarylaw18_LinkFits.j1]
      generalize Int.tmod (wrap64 (Int.tdiv (wrap64 (rd l2 i)) 2)) 5 = q
      have hf' := fits_items a b n q m hf
      rw [ref_eq]
      simp only [Option.bind_some]
      rw [fits_eq _ _ _ _ hf']
      simp only [Option.bind_some, if_true]
      rw [wrap_small (i := i + 1) (by omega) (by omega)]
      exact ih (k + 1) _ _ _ _ _ hf' (by omega) (by omega) (by omega) (by omega)
    · rw [if_neg hx, above_eq]
      simp only [Option.bind_some, retiarylaw18_LinkFits.j1]
      generalize Int.tmod (wrap64 (Int.tdiv (wrap64 (rd l2 i)) 2)) 5 = q
      have hf' := fits_swap (fits_items b a m q n (fits_swap hf))
      rw [ref_eq]
      simp only [Option.bind_some]
      rw [fits_eq _ _ _ _ hf']
      simp only [Option.bind_some, if_true]
      rw [wrap_small (i := i + 1) (by omega) (by omega)]
      exact ih (k + 1) _ _ _ _ _ hf' (by omega) (by omega) (by omega) (by omega)

/-- For every input of the law the printed function answers true. -/
theorem LinkFits : retiarylaw18_LinkFits.Pure := by
  intro a0 a1 l2 _ _ _ _ _
  refine ⟨2 * l2.length + 3, ?_⟩
  unfold retiarylaw18_LinkFits.f
  by_cases h : (l2.length : Int) > 100
  · rw [if_pos h, awake_true]
    rfl
  · rw [if_neg h, start_eq]
    simp only [Option.bind_some]
    generalize Int.tmod (wrap64 a0) 5 = n
    generalize Int.tmod (wrap64 a1) 5 = m
    have hf := fits_start n m
    rw [ref_eq]
    simp only [Option.bind_some]
    rw [fits_eq _ _ _ _ hf]
    simp only [Option.bind_some, if_true]
    exact loop_true l2 (by omega) l2.length _ _ _ _ _ _ hf (by omega) (by omega) (by omega) (by omega)

end Go.Proofs.Ytnncomhgclffaaa.Pure
