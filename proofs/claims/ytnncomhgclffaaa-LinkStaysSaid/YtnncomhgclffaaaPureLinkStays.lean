/- What the printed function of LinkStays answers, without Go: true, for every link and every four numbers. -/
import Derived.Test.YtnncomhgclffaaaPLinkStaysx3
namespace Go.Proofs.Ytnncomhgclffaaa.PureStays
open Go.RowKit Go.Proofs.Ytnncomhgclffaaa.PLinkStays Go.Proofs.YtnncomhgclffaaaW.PrintWords Go.Proofs.YtnncomhgclffaaaW.PrintLast

def itemsB (l r : Bool) (was now above : Int) : Bool × Bool :=
  if r = true then (if was ≤ 0 ∧ now > 0 then (true, decide (above > 0)) else if was > 0 ∧ now ≤ 0 then (false, r) else (l, r)) else (l, r)

theorem items_eq (k : Nat) (l r : Bool) (was now above : Int) : link_Items.f (k + 1) l r was now above = some (itemsB l r was now above) := by
  cases r
  · simp [link_Items.f, itemsB]
  · unfold link_Items.f itemsB
    simp only [link_Items.j0, if_true]
    by_cases h1 : was ≤ 0 <;> by_cases h2 : now > 0 <;> by_cases h3 : was > 0 <;> by_cases h4 : now ≤ 0 <;> simp [h1, h2, h3, h4] <;> omega

theorem above_eq (k : Nat) (l r : Bool) (was now items : Int) :
    link_Above.f (k + 1) l r was now items = some ((itemsB r l was now items).2, (itemsB r l was now items).1) := by
  unfold link_Above.f; rw [items_eq]; rfl

theorem start_eq (n m : Int) : link_Start.f n m = some (decide (n > 0) || decide (m ≤ 0), decide (m > 0)) := by
  unfold link_Start.f
  by_cases h : n > 0 <;> simp [h]

theorem awake_true (k : Nat) : retiarylaw18_awake.f (k + 1) = some true := by
  unfold retiarylaw18_awake.f
  rw [start_eq]
  simp only [Option.bind_some]
  rw [items_eq]
  simp only [Option.bind_some]
  rw [above_eq]
  simp [itemsB]

theorem items_same (l r : Bool) (was now above : Int) (h : was ≤ 0 ↔ now ≤ 0) : itemsB l r was now above = (l, r) := by
  unfold itemsB
  cases r
  · simp
  · rw [if_pos rfl, if_neg (by omega), if_neg (by omega)]

/-- For every input the printed function of the law answers true. -/
theorem stays (a b : Bool) (c0 c1 c2 c3 : Int) : ∃ k, retiarylaw18_LinkStays.f k a b c0 c1 c2 c3 = some true := by
  refine ⟨1, ?_⟩
  unfold retiarylaw18_LinkStays.f
  by_cases hc : (((mx c0 0) == 0) != ((mx c1 0) == 0)) = true
  · rw [if_pos hc, awake_true]
    rfl
  · rw [if_neg hc]
    have h : mx c0 0 ≤ 0 ↔ mx c1 0 ≤ 0 := by
      have p0 : 0 ≤ mx c0 0 := by unfold mx; omega
      have p1 : 0 ≤ mx c1 0 := by unfold mx; omega
      generalize mx c0 0 = x at *
      generalize mx c1 0 = y at *
      by_cases hx : x = 0 <;> by_cases hy : y = 0 <;> simp [hx, hy] at hc ⊢ <;> omega
    rw [items_eq, items_same _ _ _ _ _ h]
    simp only [Option.bind_some, beq_self_eq_true, Bool.and_self, if_true]
    rw [above_eq, items_same _ _ _ _ _ h]
    simp only [Option.bind_some, beq_self_eq_true, Bool.and_self, if_true]
    rw [awake_true]
    rfl
end Go.Proofs.Ytnncomhgclffaaa.PureStays
