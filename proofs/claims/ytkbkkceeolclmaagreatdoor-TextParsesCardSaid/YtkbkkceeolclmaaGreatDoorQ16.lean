/- Which words are variables' numbers. The condition of three words, as the program reads it. -/
import Derived.Test.YtkbkkceeolclmaaGreatDoorQ09
set_option linter.unusedVariables false
set_option linter.unusedSimpArgs false
namespace Go.TX
open Go.Lib
def okNum (v : List UInt8) : Bool := decide (v ≠ []) && decide (v.length ≤ 9) && decide (v.head? ≠ some 48) && v.all fun b => decide (48 ≤ b.toNat) && decide (b.toNat ≤ 57)
theorem okNum_iff (v : List UInt8) : okNum v = true ↔ v ≠ [] ∧ v.length ≤ 9 ∧ v.head? ≠ some 48 ∧ ∀ b ∈ v, 48 ≤ b.toNat ∧ b.toNat ≤ 57 := by
  unfold okNum
  simp only [Bool.and_eq_true, decide_eq_true_eq, List.all_eq_true]
  constructor
  · rintro ⟨⟨⟨a, b⟩, c⟩, d⟩
    exact ⟨a, b, c, d⟩
  · rintro ⟨a, b, c, d⟩
    exact ⟨⟨⟨a, b⟩, c⟩, d⟩
theorem decFrom_some : ∀ (l : List UInt8) (acc : Nat), (∀ b ∈ l, 48 ≤ b.toNat ∧ b.toNat ≤ 57) → ∃ m, decFrom acc l = some m
  | [], acc, _ => ⟨acc, rfl⟩
  | b :: l, acc, h => by
    have hb := h b (by simp)
    simp only [decFrom, digitVal]
    rw [if_pos hb]
    exact decFrom_some l _ (fun x hx => h x (by simp [hx]))
/-- A right one is a number from 1 on. -/
theorem num_of_ok {v : List UInt8} (h : okNum v = true) : 1 ≤ number v ∧ number v < 1000000000 ∧ atoiAll v = .ok (number v) := by
  obtain ⟨h1, h2, h3, h4⟩ := (okNum_iff v).1 h
  obtain ⟨m, hm⟩ := decFrom_some v 0 h4
  have hn : number v = (m : Int) := by
    unfold number
    rw [if_neg, hm]
    rintro (q | q | q)
    · exact h1 q
    · omega
    · exact h3 q.2
  obtain ⟨hv, hlt⟩ := number_some hn
  have hm1 : m ≠ 0 := by
    rintro rfl
    rw [hv] at h3
    exact h3 (by rw [decDigits_one (by omega)]; decide)
  refine ⟨by omega, by omega, ?_⟩
  rw [hn]
  conv => lhs; rw [hv]
  exact atoi_dd hlt
/-- No other is. -/
theorem ok_of_num {v : List UInt8} (h : 1 ≤ number v) : okNum v = true := by
  obtain ⟨m, hm⟩ : ∃ m : Nat, number v = m := ⟨(number v).toNat, by omega⟩
  obtain ⟨hv, hlt⟩ := number_some hm
  rw [okNum_iff]
  have hl := dd_len hlt
  refine ⟨by rw [hv]; exact dd_ne m, by rw [hv]; exact hl, ?_, fun b hb => dd_mem m b (hv ▸ hb)⟩
  rw [hv]
  by_cases h1 : 1 < (decDigits m).length
  · exact dd_head m h1
  · have hm10 : m < 10 := by
      apply Classical.byContradiction
      intro hge
      have e : decDigits m = decDigits (m / 10) ++ [UInt8.ofNat (48 + m % 10)] := by
        conv => lhs; rw [decDigits, dif_neg (by omega)]
      have := dd_ne (m / 10)
      rw [e, List.length_append, List.length_singleton] at h1
      exact this (List.length_eq_zero_iff.1 (by omega))
    have : m = 1 ∨ m = 2 ∨ m = 3 ∨ m = 4 ∨ m = 5 ∨ m = 6 ∨ m = 7 ∨ m = 8 ∨ m = 9 := by omega
    rcases this with rfl | rfl | rfl | rfl | rfl | rfl | rfl | rfl | rfl <;> (rw [decDigits_one (by omega)]; decide)
/-- A word's term, as the program reads it: false: it is none. -/
def termP (ns fr : List (List UInt8)) (s : List UInt8) : (Tm × Bool) × List (List UInt8) :=
  if s.head? = some 63 then (if okNum s.tail then (((true, number s.tail), true), fr) else (((false, 0), false), fr))
  else (((false, if rightName (str s) then ((findN (addN (ns ++ fr) s) s : Nat) : Int) else 0), rightName (str s)), if rightName (str s) then (if s ∈ ns ++ fr then fr else fr ++ [s]) else fr)
theorem termP_pterm (ns fr : List (List UInt8)) (s : List UInt8) : pterm (ns ++ fr) s = if (termP ns fr s).1.2 then some (ns ++ (termP ns fr s).2, (termP ns fr s).1.1) else none := by
  unfold termP
  by_cases h : s.head? = some 63
  · rw [if_pos h]
    obtain ⟨v, rfl⟩ : ∃ v, s = 63 :: v := by
      cases s with
      | nil => cases h
      | cons a t => cases h; exact ⟨t, rfl⟩
    by_cases hv : okNum v = true
    · have h1 := (num_of_ok hv).1
      simp [pterm, hv, h1]
    · have h1 : ¬ 1 ≤ number v := fun q => hv (ok_of_num q)
      simp [pterm, hv, h1]
  · rw [if_neg h]
    have hp : pterm (ns ++ fr) s = (psym (ns ++ fr) s).map fun p => (p.1, (false, p.2)) := by
      unfold pterm
      split
      · exact absurd rfl h
      · rfl
    rw [hp]
    unfold psym
    cases hr : rightName (str s) with
    | false => simp
    | true =>
      simp only [if_true, Option.map_some]
      congr 2
      unfold addN
      split <;> simp
theorem termP_len (ns fr : List (List UInt8)) (s : List UInt8) : (termP ns fr s).2.length ≤ fr.length + 1 := by
  unfold termP
  repeat' split
  all_goals simp
end Go.TX
namespace Go.TX
open Go.Lib
def dashW (x : List UInt8) : Int × List UInt8 := if x.head? = some 45 then (2, x.tail) else (1, x)
def openW (x : List UInt8) : List UInt8 := if x.head? = some 40 then x.tail else x
def shutW (z : List UInt8) : List UInt8 := if z.getLast? = some 41 then z.dropLast else z
theorem dashW_cut (x : List UInt8) : cutDash x = dashW x := by
  unfold dashW
  cases x with
  | nil => rfl
  | cons a t =>
    by_cases h : a = 45
    · subst h; rfl
    · rw [if_neg (by simpa using h)]
      unfold cutDash
      split
      · rename_i e
        cases e
        exact absurd rfl h
      · rfl
theorem openW_cut (x : List UInt8) : cutOpen x = if x.head? = some 40 then some (openW x) else none := by
  unfold openW
  cases x with
  | nil => rfl
  | cons a t =>
    by_cases h : a = 40
    · subst h; rfl
    · rw [if_neg (by simpa using h)]
      unfold cutOpen
      split
      · rename_i e
        cases e
        exact absurd rfl h
      · rfl
theorem shutW_cut (z : List UInt8) : cutShut z = if z.getLast? = some 41 then some (shutW z) else none := by
  unfold cutShut shutW
  split <;> rename_i h <;> simp [h]
theorem pthree_of {ns fr f1 f2 f3 : List (List UInt8)} {x y z : List UInt8} {a b c : Tm} {ia ib ic : Bool} (h0 : termP ns fr (openW (dashW x).2) = ((a, ia), f1)) (h1 : termP ns f1 y = ((b, ib), f2)) (h2 : termP ns f2 (shutW z) = ((c, ic), f3)) :
    pthree (ns ++ fr) x y z = if ((((decide ((dashW x).2.head? = some 40) && decide (z.getLast? = some 41)) && ia) && ib) && ic) = true then some (ns ++ f3, .mk (dashW x).1 a b c []) else none := by
  have e0 := termP_pterm ns fr (openW (dashW x).2)
  have e1 := termP_pterm ns f1 y
  have e2 := termP_pterm ns f2 (shutW z)
  rw [h0] at e0
  rw [h1] at e1
  rw [h2] at e2
  unfold pthree
  rw [dashW_cut, openW_cut, shutW_cut]
  by_cases c1 : (dashW x).2.head? = some 40
  · by_cases c2 : z.getLast? = some 41
    · rw [if_pos c1, if_pos c2, decide_eq_true c1, decide_eq_true c2]
      simp only [e0]
      cases ia with
      | false => simp
      | true =>
        simp only [if_true, e1]
        cases ib with
        | false => simp
        | true =>
          simp only [if_true, e2]
          cases ic with
          | false => simp
          | true => simp
    · rw [if_pos c1, if_neg c2, decide_eq_false c2]
      simp
  · rw [if_neg c1, decide_eq_false c1]
    simp
end Go.TX
