/- The document's orders, first numbers; how many there are: what the printed forms come to. -/
import Derived.Test.YtnncomhgclffaaaORefP
import Derived.Test.YtnncomhgclffaaaOPlain
namespace Go.Proofs.Ytnncomhgclffaaa.O
open Go.Proofs.Ytnncomhgclffaaa.POrderAll

theorem count_neg (n : Int) (h : n < 0) : order_Count.f 0 n = some (0, 13) := by simp [order_Count.f, h]
theorem count_big (n : Int) (h : 6 < n) : order_Count.f 0 n = some (0, 15) := by
  rw [order_Count.f, if_neg (by omega), if_pos h]
theorem count_ok (n : Nat) (h : n ≤ 6) : order_Count.f 8 n = some ((fct n : Int), 0) := by
  obtain rfl | rfl | rfl | rfl | rfl | rfl | rfl : n = 0 ∨ n = 1 ∨ n = 2 ∨ n = 3 ∨ n = 4 ∨ n = 5 ∨ n = 6 := by omega
  all_goals decide +kernel
theorem first_ok (n : Nat) (h : n ≤ 6) : retiaryref27_First.f 8 n = some (firstL n) := by
  obtain rfl | rfl | rfl | rfl | rfl | rfl | rfl : n = 0 ∨ n = 1 ∨ n = 2 ∨ n = 3 ∨ n = 4 ∨ n = 5 ∨ n = 6 := by omega
  all_goals decide +kernel
theorem orders_ok (n : Nat) (h : n ≤ 6) : retiaryref27_Orders.f 64 [] (firstL n) = some (orders n) := by
  obtain rfl | rfl | rfl | rfl | rfl | rfl | rfl : n = 0 ∨ n = 1 ∨ n = 2 ∨ n = 3 ∨ n = 4 ∨ n = 5 ∨ n = 6 := by omega
  all_goals decide +kernel
end Go.Proofs.Ytnncomhgclffaaa.O
