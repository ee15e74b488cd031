/- All orders of some numbers: plain. -/
namespace Go.Proofs.Ytnncomhgclffaaa.O

def fct : Nat → Nat
  | 0 => 1
  | n + 1 => fct n * (n + 1)
/-- 0, 1 and so on. -/
def firstL (n : Nat) : List Int := (List.range n).map fun (i : Nat) => (i : Int)
/-- The document's orders: of those that are left, behind others. -/
def ordL : Nat → List Int → List Int → List (List Int)
  | 0, ahead, _ => [ahead]
  | m + 1, ahead, left => (List.range (m + 1)).flatMap fun i => ordL m (ahead ++ [left.getD i 0]) (left.take i ++ left.drop (i + 1))
def orders (n : Nat) : List (List Int) := ordL n [] (firstL n)

/-- From how far behind on the list falls; 0: from the beginning on. The pivot's place, and 1. -/
def piv (l : List Int) : Nat → Nat
  | 0 => 0
  | i + 1 => if l.getD i 0 > l.getD (i + 1) 0 then piv l i else i + 1
def kth (l : List Int) (x : Int) : Nat → Nat
  | 0 => 0
  | k + 1 => if l.getD (k + 1) 0 < x then kth l x k else k + 1
/-- The order behind one. -/
def nextL (l : List Int) : Option (List Int) :=
  match piv l (l.length - 1) with
  | 0 => none
  | i + 1 =>
    let k := kth l (l.getD i 0) (l.length - 1)
    let s := (l.set i (l.getD k 0)).set k (l.getD i 0)
    some (s.take (i + 1) ++ (s.drop (i + 1)).reverse)
/-- The orders from one on. -/
def iterL : Nat → List Int → List (List Int)
  | 0, _ => []
  | f + 1, l => l :: match nextL l with
    | none => []
    | some l' => iterL f l'

theorem iter_orders (n : Nat) (h : n ≤ 6) : iterL (fct n + 1) (firstL n) = orders n := by
  obtain rfl | rfl | rfl | rfl | rfl | rfl | rfl : n = 0 ∨ n = 1 ∨ n = 2 ∨ n = 3 ∨ n = 4 ∨ n = 5 ∨ n = 6 := by omega
  all_goals decide +kernel
theorem orders_len (n : Nat) (h : n ≤ 6) : (orders n).length = fct n := by
  obtain rfl | rfl | rfl | rfl | rfl | rfl | rfl : n = 0 ∨ n = 1 ∨ n = 2 ∨ n = 3 ∨ n = 4 ∨ n = 5 ∨ n = 6 := by omega
  all_goals decide +kernel
/-- Each order's successor is the next one; the last one has none. -/
theorem orders_next (n : Nat) (h : n ≤ 6) : ∀ i, i < fct n → nextL ((orders n).getD i []) = (orders n)[i + 1]? := by
  obtain rfl | rfl | rfl | rfl | rfl | rfl | rfl : n = 0 ∨ n = 1 ∨ n = 2 ∨ n = 3 ∨ n = 4 ∨ n = 5 ∨ n = 6 := by omega
  all_goals decide +kernel
theorem orders_all (n : Nat) (h : n ≤ 6) : ∀ i, i < fct n → ((orders n).getD i []).length = n ∧ ((orders n).getD i []).all (fun x => decide (0 ≤ x) && decide (x < 6)) = true := by
  obtain rfl | rfl | rfl | rfl | rfl | rfl | rfl : n = 0 ∨ n = 1 ∨ n = 2 ∨ n = 3 ∨ n = 4 ∨ n = 5 ∨ n = 6 := by omega
  all_goals decide +kernel
theorem orders_first (n : Nat) (h : n ≤ 6) : (orders n).getD 0 [] = firstL n := by
  obtain rfl | rfl | rfl | rfl | rfl | rfl | rfl : n = 0 ∨ n = 1 ∨ n = 2 ∨ n = 3 ∨ n = 4 ∨ n = 5 ∨ n = 6 := by omega
  all_goals decide +kernel
theorem fct_small (n : Nat) (h : n ≤ 6) : 1 ≤ fct n ∧ fct n ≤ 720 := by
  obtain rfl | rfl | rfl | rfl | rfl | rfl | rfl : n = 0 ∨ n = 1 ∨ n = 2 ∨ n = 3 ∨ n = 4 ∨ n = 5 ∨ n = 6 := by omega
  all_goals decide
end Go.Proofs.Ytnncomhgclffaaa.O
