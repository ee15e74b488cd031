/- The document's numerals are decimal digits. -/
import Derived.Test.YtmhpogajklihdaaDoorCPDigits
import Derived.Test.YtmhpogajklihdaaDoorCEnv
namespace Go.Proofs.YtmhpogajklihdaaDoor.C
open Go.RowKit Go.Lib Go.Proofs.YtmhpogajklihdaaDoorW.PrintWords

theorem one_digit (d : Nat) (h : d < 10) : strOfNums [(wrap64 (48 + (d : Int))) % 256] = str [UInt8.ofNat (48 + d)] := by
  have e : (wrap64 (48 + (d : Int))) % 256 = ((48 + d : Nat) : Int) := by unfold wrap64; omega
  rw [e]
  obtain rfl | rfl | rfl | rfl | rfl | rfl | rfl | rfl | rfl | rfl : d = 0 ∨ d = 1 ∨ d = 2 ∨ d = 3 ∨ d = 4 ∨ d = 5 ∨ d = 6 ∨ d = 7 ∨ d = 8 ∨ d = 9 := by omega
  all_goals rfl
theorem digits_eq : ∀ (k n : Nat), 1 ≤ k → n < 10 ^ k → n < 1000000000 → retiaryref02_Digits.f k (n : Int) = some (str (decDigits n))
  | 0, _, h, _, _ => by omega
  | k + 1, n, _, hn, hs => by
    by_cases h10 : n < 10
    · simp only [retiaryref02_Digits.f]
      rw [if_pos (by omega), one_digit n h10, decDigits_one h10]
    · have hk : 1 ≤ k := by
        rcases Nat.eq_zero_or_pos k with rfl | h
        · simp at hn; omega
        · exact h
      have ih := digits_eq k (n / 10) hk (by rw [Nat.pow_succ] at hn; omega) (by omega)
      have e1 : wrap64 (Int.tdiv (n : Int) 10) = ((n / 10 : Nat) : Int) := by
        rw [Int.tdiv_eq_ediv_of_nonneg (by omega)]; unfold wrap64; omega
      have e2 : Int.tmod (n : Int) 10 = ((n % 10 : Nat) : Int) := by
        rw [Int.tmod_eq_emod_of_nonneg (by omega)]; omega
      have hl := dd_len (n := n / 10) (by omega)
      simp only [retiaryref02_Digits.f]
      rw [if_neg (by omega), e1, ih, e2]
      simp only [Option.bind_some]
      rw [one_digit (n % 10) (by omega), if_pos (by rw [str_size, str_size]; simp; omega)]
      congr 1
      conv => rhs; rw [decDigits, dif_neg h10]
      apply ByteArray.ext
      simp [str]
theorem digits_any (n : Int) (h0 : 0 ≤ n) (h1 : n ≤ 999999999) (w : World) :
    Calls Tryd.prog 40 #[.int .i64 n] w fun e w' => e = .returned (.string (str (decDigits n.toNat))) ∧ Below w.heap.size w w' := by
  have e : ((n.toNat : Nat) : Int) = n := by omega
  refine retiaryref02_Digits.calls 10 n _ w ?_
  rw [← e]
  exact digits_eq 10 n.toNat (by omega) (by omega) (by omega)
end Go.Proofs.YtmhpogajklihdaaDoor.C
