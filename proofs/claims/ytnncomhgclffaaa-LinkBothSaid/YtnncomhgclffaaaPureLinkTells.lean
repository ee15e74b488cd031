/- What the printed function of LinkTells answers, without Go: true, for every link and every four numbers. -/
import Derived.Test.YtnncomhgclffaaaPLinkTellsx5
namespace Go.Proofs.Ytnncomhgclffaaa.PureTells
open Go.RowKit Go.Proofs.Ytnncomhgclffaaa.PLinkTells Go.Proofs.YtnncomhgclffaaaW.PrintWords Go.Proofs.YtnncomhgclffaaaW.PrintLast

def refB (b : Bool) : Int := if b = true then 1 else 0
def itemsB (l r : Bool) (was now above : Int) : Bool × Bool :=
  if r = true then (if was ≤ 0 ∧ now > 0 then (true, decide (above > 0)) else if was > 0 ∧ now ≤ 0 then (false, r) else (l, r)) else (l, r)

theorem sign (x : Int) : (x ≤ 0 ∧ ¬ x > 0) ∨ (¬ x ≤ 0 ∧ x > 0) := by omega

theorem items_eq (k : Nat) (l r : Bool) (was now above : Int) : link_Items.f (k + 1) l r was now above = some (itemsB l r was now above) := by
  cases r
  · simp [link_Items.f, itemsB]
  · unfold link_Items.f itemsB
    simp only [link_Items.j0, if_true]
    by_cases h1 : was ≤ 0 <;> by_cases h2 : now > 0 <;> by_cases h3 : was > 0 <;> by_cases h4 : now ≤ 0 <;> simp [h1, h2, h3, h4] <;> omega

theorem above_eq (k : Nat) (l r : Bool) (was now items : Int) :
    link_Above.f (k + 1) l r was now items = some ((itemsB r l was now items).2, (itemsB r l was now items).1) := by
  unfold link_Above.f; rw [items_eq]; rfl

theorem start_eq (n m : Int) : link_Start.f n m = some (decide (n > 0) || decide (m ≤ 0), decide (m > 0)) := by
  unfold link_Start.f
  by_cases h : n > 0 <;> simp [h]

theorem ref_eq (l r : Bool) : retiarylaw18_ref.f l r = some (refB l, refB r) := by
  cases l <;> cases r <;> rfl

theorem refStart_eq (n m : Int) : retiaryref18_Start.f n m = some (refB (decide (n > 0) || decide (m ≤ 0)), refB (decide (m > 0))) := by
  unfold retiaryref18_Start.f
  rcases sign n with ⟨h1, g1⟩ | ⟨h1, g1⟩ <;> rcases sign m with ⟨h2, g2⟩ | ⟨h2, g2⟩ <;> simp [h1, g1, h2, g2, refB]

theorem refItems_eq (k : Nat) (l r : Bool) (was now above : Int) : retiaryref18_Items.f (k + 1) (refB l) (refB r) was now above = some (refB (itemsB l r was now above).1, refB (itemsB l r was now above).2) := by
  unfold retiaryref18_Items.f itemsB
  simp only [retiaryref18_Items.j0]
  rcases sign was with ⟨h1, g1⟩ | ⟨h1, g1⟩ <;> rcases sign now with ⟨h2, g2⟩ | ⟨h2, g2⟩ <;> rcases sign above with ⟨h3, g3⟩ | ⟨h3, g3⟩ <;> cases l <;> cases r <;>
    simp [h1, g1, h2, g2, h3, g3, refB]

theorem refAbove_eq (k : Nat) (l r : Bool) (was now items : Int) : retiaryref18_Above.f (k + 1) (refB l) (refB r) was now items = some (refB (itemsB r l was now items).2, refB (itemsB r l was now items).1) := by
  unfold retiaryref18_Above.f itemsB
  simp only [retiaryref18_Above.j0]
  rcases sign was with ⟨h1, g1⟩ | ⟨h1, g1⟩ <;> rcases sign now with ⟨h2, g2⟩ | ⟨h2, g2⟩ <;> rcases sign items with ⟨h3, g3⟩ | ⟨h3, g3⟩ <;> cases l <;> cases r <;>
    simp [h1, g1, h2, g2, h3, g3, refB]

theorem awake_true (k : Nat) : retiarylaw18_awake.f (k + 1) = some true := by
  unfold retiarylaw18_awake.f
  rw [start_eq]
  simp only [Option.bind_some]
  rw [items_eq]
  simp only [Option.bind_some]
  rw [above_eq]
  simp [itemsB]

theorem fits_eq (l r : Bool) (n m : Int) : ∃ t, link_Fits.f l r n m = some t ∧ retiaryref18_Fits.f (refB l) (refB r) n m = some t := by
  unfold link_Fits.f retiaryref18_Fits.f
  rcases sign n with ⟨h1, g1⟩ | ⟨h1, g1⟩ <;> rcases sign m with ⟨h2, g2⟩ | ⟨h2, g2⟩ <;> cases l <;> cases r <;> simp [h1, g1, h2, g2, refB]

/-- For every input the printed function of the law answers true. -/
theorem tells (a b : Bool) (c0 c1 c2 c3 : Int) : ∃ k, retiarylaw18_LinkTells.f k a b c0 c1 c2 c3 = some true := by
  refine ⟨2, ?_⟩
  unfold retiarylaw18_LinkTells.f
  rw [start_eq]
  simp only [Option.bind_some]
  rw [ref_eq]
  simp only [Option.bind_some]
  rw [refStart_eq]
  simp only [Option.bind_some, beq_self_eq_true, Bool.not_true, Bool.or_self, Bool.false_eq_true, if_false]
  rw [items_eq]
  simp only [Option.bind_some]
  rw [ref_eq]
  simp only [Option.bind_some]
  rw [ref_eq]
  simp only [Option.bind_some]
  rw [refItems_eq]
  simp only [Option.bind_some, beq_self_eq_true, Bool.not_true, Bool.or_self, Bool.false_eq_true, if_false]
  rw [above_eq]
  simp only [Option.bind_some]
  rw [ref_eq]
  simp only [Option.bind_some]
  rw [refAbove_eq]
  simp only [Option.bind_some, beq_self_eq_true, Bool.not_true, Bool.or_self]
  obtain ⟨t, h1, h2⟩ := fits_eq a b c2 c3
  simp only [retiarylaw18_LinkTells.j0, Bool.false_eq_true, if_false]
  rw [h1]
  simp only [Option.bind_some]
  rw [ref_eq]
  simp only [Option.bind_some]
  rw [h2]
  simp only [Option.bind_some, beq_self_eq_true, if_true]
  rw [awake_true]
  rfl
end Go.Proofs.Ytnncomhgclffaaa.PureTells
