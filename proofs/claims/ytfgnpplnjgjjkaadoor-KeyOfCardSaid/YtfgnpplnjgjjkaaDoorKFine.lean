/- The walks of layer 3 that the law KeyOf comes to: may a term be. -/
import Derived.Test.YtfgnpplnjgjjkaaDoorKRight
namespace Go.Proofs.YtfgnpplnjgjjkaaDoor.K
open Go.RowKit Go.Proofs.YtfgnpplnjgjjkaaDoorW.PrintWords

def termR (v n : Int) : Bool := if v = 1 then decide (1 ≤ n) && decide (n ≤ 32) else decide (1 ≤ n) && decide (n ≤ 4096)
set_option maxRecDepth 100000 in
theorem termRight_walk (v n : Int) (w : World) : Calls Tryd.prog 39 #[.agg #[.int .i64 v, .int .i64 n]] w fun e w' => e = .returned (.bool (termR v n)) ∧ Below w.heap.size w w' := by
  by_cases hv : v = 1
  · subst hv
    by_cases h1 : 1 ≤ n
    · by_cases h2 : n ≤ 32
      · go_enter Tryd.func39, Tryd.ntmps39
        go_wp2_with fail
        go_ret
        exact ⟨by simp [termR, h1, h2], (Below.refl _ _).alloc (Nat.le_refl _) _⟩
      · go_enter Tryd.func39, Tryd.ntmps39
        go_wp2_with fail
        go_ret
        exact ⟨by simp [termR, h1, h2], (Below.refl _ _).alloc (Nat.le_refl _) _⟩
    · have hd : decide (1 ≤ n) = false := by simp [h1]
      have hd2 : n < 1 := by omega
      go_enter Tryd.func39, Tryd.ntmps39
      go_wp2_with fail
      all_goals go_ret
      all_goals exact ⟨by simp [termR]; omega, (Below.refl _ _).alloc (Nat.le_refl _) _⟩
  · have hb : (v == 1) = false := by simp [hv]
    by_cases h1 : 1 ≤ n
    · by_cases h2 : n ≤ 4096
      · go_enter Tryd.func39, Tryd.ntmps39
        go_wp2_with fail
        go_ret
        exact ⟨by simp [termR, h1, h2, hv], (Below.refl _ _).alloc (Nat.le_refl _) _⟩
      · go_enter Tryd.func39, Tryd.ntmps39
        go_wp2_with fail
        go_ret
        exact ⟨by simp [termR, h1, h2, hv], (Below.refl _ _).alloc (Nat.le_refl _) _⟩
    · have hd : decide (1 ≤ n) = false := by simp [h1]
      have hd2 : n < 1 := by omega
      go_enter Tryd.func39, Tryd.ntmps39
      go_wp2_with fail
      all_goals go_ret
      all_goals exact ⟨by simp [termR, hv]; omega, (Below.refl _ _).alloc (Nat.le_refl _) _⟩
end Go.Proofs.YtfgnpplnjgjjkaaDoor.K
