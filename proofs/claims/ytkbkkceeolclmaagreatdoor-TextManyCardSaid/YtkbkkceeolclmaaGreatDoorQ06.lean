/- Words between blanks, numerals, names: plain. -/
import Derived.Lib.SplitLaws
import Derived.Lib.ItoaNum
import Derived.Lib.AtoiTie
set_option linter.unusedVariables false
set_option linter.unusedSimpArgs false
namespace Go.TX
open Go.Lib
/-- What stands between blanks. -/
def words : List UInt8 → List (List UInt8)
  | [] => [[]]
  | c :: r => if c = 32 then [] :: words r else (c :: (words r).headD []) :: (words r).tail
theorem words_ne (s : List UInt8) : words s ≠ [] := by
  cases s with
  | nil => simp [words]
  | cons c r => unfold words; split <;> simp
theorem split_words : ∀ s : List UInt8, split s [32] = words s
  | [] => by
    unfold split words
    rw [show count [] [32] = 0 from by rw [count_one]; rfl]
    rfl
  | c :: r => by
    have ih := split_words r
    unfold split at ih ⊢
    by_cases h : c = 32
    · subst h
      have hix : index ((32 : UInt8) :: r) [32] = ((0 : Nat) : Int) := by rw [index]; simp [List.isPrefixOf]
      rw [count_cons_eq, Nat.add_comm, splitK, hix, if_neg (by decide)]
      simp only [words, if_true]
      rw [← ih]
      rfl
    · rw [count_cons_ne c 32 r h]
      have hp : ([32] : List UInt8).isPrefixOf (c :: r) = false := by simp [List.isPrefixOf]; exact fun e => h e.symm
      have hix : index (c :: r) [32] = if index r [32] == -1 then -1 else index r [32] + 1 := by rw [index, hp]; simp
      simp only [words, if_neg h]
      rw [← ih]
      cases hc : count r [32] with
      | zero => rfl
      | succ k =>
        by_cases hm : index r [32] = -1
        · rw [count_miss hm] at hc; omega
        · have hge := index_ge r [32]
          obtain ⟨j, hj⟩ : ∃ j : Nat, index r [32] = j := ⟨(index r [32]).toNat, by omega⟩
          have hix' : index (c :: r) [32] = ((j + 1 : Nat) : Int) := by rw [hix, if_neg (fun e => hm (beq_iff_eq.1 e)), hj]; omega
          rw [splitK, splitK, hix', hj, if_neg (by rw [beq_iff_eq]; omega), if_neg (by rw [beq_iff_eq]; omega)]
          simp
theorem words_app {a b : List UInt8} (h : (32 : UInt8) ∉ a) : words (a ++ 32 :: b) = a :: words b := by
  induction a with
  | nil => simp [words]
  | cons c a ih =>
    simp only [List.mem_cons, not_or] at h
    simp only [List.cons_append, words]
    rw [if_neg (fun e => h.1 e.symm), ih h.2]
    rfl
theorem words_one {a : List UInt8} (h : (32 : UInt8) ∉ a) : words a = [a] := by
  induction a with
  | nil => rfl
  | cons c a ih =>
    simp only [List.mem_cons, not_or] at h
    simp only [words]
    rw [if_neg (fun e => h.1 e.symm), ih h.2]
    rfl
/-- Words, with blanks between them. -/
def join : List (List UInt8) → List UInt8
  | [] => []
  | [a] => a
  | a :: b :: t => a ++ 32 :: join (b :: t)
theorem join_words : ∀ s : List UInt8, join (words s) = s
  | [] => rfl
  | c :: r => by
    have ih := join_words r
    unfold words
    obtain ⟨a, t, e⟩ : ∃ a t, words r = a :: t := by
      cases h : words r with
      | nil => exact absurd h (words_ne r)
      | cons a t => exact ⟨a, t, rfl⟩
    split
    · rename_i h
      subst h
      rw [e] at ih ⊢
      simp [join, ih]
    · rw [e] at ih ⊢
      cases t with
      | nil => simpa [join] using ih
      | cons b t => simpa [join] using ih

theorem dd_byte (d : Nat) (h : d < 10) : (UInt8.ofNat (48 + d)).toNat = 48 + d := by
  rw [UInt8.toNat_ofNat']; omega
theorem digitVal_dd (d : Nat) (h : d < 10) : digitVal (UInt8.ofNat (48 + d)) = some d := by
  unfold digitVal
  rw [dd_byte d h, if_pos ⟨by omega, by omega⟩]
  congr 1; omega
theorem decFrom_snoc : ∀ (l : List UInt8) (acc : Nat) (b : UInt8), decFrom acc (l ++ [b]) = (decFrom acc l).bind fun m => (digitVal b).map fun d => m * 10 + d
  | [], acc, b => by simp only [List.nil_append, decFrom]; cases digitVal b <;> rfl
  | a :: t, acc, b => by
    simp only [List.cons_append, decFrom]
    cases digitVal a with
    | none => rfl
    | some e => exact decFrom_snoc t _ b
theorem decFrom_dd : ∀ n : Nat, decFrom 0 (decDigits n) = some n := by
  intro n
  induction n using Nat.strongRecOn with
  | _ n ih =>
    by_cases h : n < 10
    · rw [decDigits_one h]
      simp only [decFrom, digitVal_dd n h, Nat.zero_mul, Nat.zero_add]
    · rw [decDigits, dif_neg h, decFrom_snoc, ih (n / 10) (by omega), digitVal_dd _ (by omega)]
      simp only [Option.bind_some, Option.map_some]
      congr 1; omega
theorem dd_mem : ∀ (n : Nat) (b : UInt8), b ∈ decDigits n → 48 ≤ b.toNat ∧ b.toNat ≤ 57 := by
  intro n
  induction n using Nat.strongRecOn with
  | _ n ih =>
    intro b hb
    by_cases h : n < 10
    · rw [decDigits_one h] at hb
      obtain rfl := List.mem_singleton.1 hb
      rw [dd_byte n h]; omega
    · rw [decDigits, dif_neg h] at hb
      rcases List.mem_append.1 hb with hb | hb
      · exact ih (n / 10) (by omega) b hb
      · obtain rfl := List.mem_singleton.1 hb
        rw [dd_byte _ (by omega)]; omega
theorem dd_ne (n : Nat) : decDigits n ≠ [] := by
  intro h
  have := decDigits_length n
  rw [h] at this
  have := nDigits_pos n
  simp at *
  omega
theorem dd_len {n : Nat} (h : n < 1000000000) : (decDigits n).length ≤ 9 := by
  rw [decDigits_length]
  by_cases h9 : nDigits n ≤ 9
  · exact h9
  · exfalso
    have : 10 ^ (nDigits n - 1) ≤ n ∨ nDigits n = 1 := by
      have key : ∀ n, nDigits n = 1 ∨ 10 ^ (nDigits n - 1) ≤ n := by
        intro n
        induction n using Nat.strongRecOn with
        | _ n ih =>
          by_cases h : n < 10
          · exact .inl (nDigits_small h)
          · right
            rw [nDigits_big h]
            rcases ih (n / 10) (by omega) with h1 | h1
            · rw [h1]; simp; omega
            · have hp := nDigits_pos (n / 10)
              have : nDigits (n / 10) + 1 - 1 = (nDigits (n / 10) - 1) + 1 := by omega
              rw [this, Nat.pow_succ]; omega
      exact (key n).symm
    rcases this with h1 | h1
    · have : 10 ^ 9 ≤ 10 ^ (nDigits n - 1) := Nat.pow_le_pow_right (by decide) (by omega)
      have e : (10 : Nat) ^ 9 = 1000000000 := by decide
      omega
    · omega
theorem head_app {l m : List UInt8} (h : l ≠ []) : (l ++ m).head? = l.head? := by
  cases l with
  | nil => exact absurd rfl h
  | cons a t => rfl
/-- No 0 stands ahead of a numeral of more digits. -/
theorem dd_head : ∀ (n : Nat), 1 < (decDigits n).length → (decDigits n).head? ≠ some 48 := by
  intro n
  induction n using Nat.strongRecOn with
  | _ n ih =>
    intro hl
    by_cases h : n < 10
    · rw [decDigits_one h] at hl; simp at hl
    · rw [decDigits, dif_neg h]
      have hne := dd_ne (n / 10)
      rw [head_app hne]
      by_cases h1 : 1 < (decDigits (n / 10)).length
      · exact ih (n / 10) (by omega) h1
      · have hlt : n / 10 < 10 := by
          by_cases hx : n / 10 < 10
          · exact hx
          · rw [decDigits_length, nDigits_big hx] at h1
            have := nDigits_pos (n / 10 / 10)
            omega
        rw [decDigits_one hlt]
        intro e
        have := congrArg (Option.map UInt8.toNat) e
        simp only [List.head?_cons, Option.map_some, Option.some.injEq] at this
        rw [dd_byte _ hlt] at this
        simp at this
        omega
/-- Digits with no 0 ahead are a numeral. -/
theorem dd_of_decFrom : ∀ (k : Nat) (l : List UInt8) (n : Nat), l.length = k → l ≠ [] → (1 < l.length → l.head? ≠ some 48) → decFrom 0 l = some n → l = decDigits n := by
  intro k
  induction k with
  | zero => intro l n hk hne; exact absurd (List.length_eq_zero_iff.1 hk) hne
  | succ k ih =>
    intro l n hk hne h0 hd
    obtain ⟨i, b, rfl⟩ : ∃ i b, l = i ++ [b] := ⟨l.dropLast, l.getLast hne, (List.dropLast_concat_getLast hne).symm⟩
    rw [decFrom_snoc] at hd
    cases hm : decFrom 0 i with
    | none => rw [hm] at hd; cases hd
    | some m =>
      rw [hm] at hd
      cases hv : digitVal b with
      | none => rw [hv] at hd; cases hd
      | some d =>
        rw [hv] at hd
        simp only [Option.bind_some, Option.map_some, Option.some.injEq] at hd
        obtain ⟨b1, b2, b3⟩ := digitVal_eq hv
        have hb : b = UInt8.ofNat (48 + d) := by
          apply UInt8.toNat_inj.1
          rw [dd_byte d (by omega)]; omega
        by_cases hi : i = []
        · subst hi
          simp only [decFrom, Option.some.injEq] at hm
          subst hm
          rw [show n = d from by omega, decDigits_one (by omega), hb]
          rfl
        · have hil : 0 < i.length := List.length_pos_iff.2 hi
          have hh : i.head? ≠ some 48 := by
            have := h0 (by simp; omega)
            rwa [head_app hi] at this
          have hmi := ih i m (by simp at hk; omega) hi (fun _ => hh) hm
          have hm1 : m ≠ 0 := by
            rintro rfl
            rw [hmi, decDigits_one (by omega)] at hh
            exact hh rfl
          rw [decDigits, dif_neg (by omega), show n / 10 = m by omega, show n % 10 = d by omega, ← hmi, hb]
/-- What 'Number' tells. -/
def number (l : List UInt8) : Int := if l = [] ∨ 9 < l.length ∨ (1 < l.length ∧ l.head? = some 48) then -1 else match decFrom 0 l with
  | some m => (m : Int)
  | none => -1
theorem number_some {l : List UInt8} {n : Nat} (h : number l = n) : l = decDigits n ∧ n < 1000000000 := by
  unfold number at h
  split at h
  · omega
  · rename_i hc
    rw [not_or, not_or] at hc
    cases hd : decFrom 0 l with
    | none => rw [hd] at h; simp only at h; omega
    | some m =>
      rw [hd] at h
      simp only [Int.natCast_inj] at h
      subst h
      refine ⟨dd_of_decFrom _ l m rfl hc.1 (fun a b => hc.2.2 ⟨a, b⟩) hd, ?_⟩
      have := decFrom_lt l 0 m hd
      have : 10 ^ l.length ≤ 10 ^ 9 := Nat.pow_le_pow_right (by decide) (by omega)
      have e : (10 : Nat) ^ 9 = 1000000000 := by decide
      omega
theorem atoi_dd {n : Nat} (h : n < 1000000000) : atoiAll (decDigits n) = .ok (n : Int) := by
  have hl := dd_len h
  rw [atoiAll_short _ (by omega)]
  have : atoi (decDigits n) = some (n : Int) := by
    have hd := decFrom_dd n
    have hm := dd_mem n
    cases e : decDigits n with
    | nil => exact absurd e (dd_ne n)
    | cons b r =>
      rw [e] at hd hm
      have hb := hm b (by simp)
      have h1 : ¬ b = 45 := fun e => by subst e; revert hb; decide
      have h2 : ¬ b = 43 := fun e => by subst e; revert hb; decide
      simp only [atoi, beq_iff_eq, if_neg h1, if_neg h2, decNat, List.isEmpty_cons, Bool.false_eq_true, if_false, hd, Option.map_some]
  rw [this]
  rfl
theorem itoa_dd {n : Int} (h : 0 ≤ n) : itoa n = decDigits n.toNat := by
  unfold itoa
  rw [if_neg (by omega)]
end Go.TX
namespace Go.TX
open Go.Lib
/-- A field's word in a key. -/
abbrev str (l : List UInt8) : ByteArray := ⟨l.toArray⟩
theorem str_toList (s : ByteArray) : str s.data.toList = s := by cases s; simp [str]
theorem str_size (l : List UInt8) : (str l).size = l.length := by simp [ByteArray.size]
/-- The bytes of names. -/
def okN (n : Nat) : Bool := (decide (97 ≤ n) && decide (n ≤ 122)) || (decide (65 ≤ n) && decide (n ≤ 90)) || (decide (48 ≤ n) && decide (n ≤ 57)) || decide (n = 45) || decide (n = 95)
def rightName (s : ByteArray) : Bool := decide (1 ≤ s.size) && decide (s.size ≤ 32) && s.data.toList.all fun b => okN b.toNat
theorem right_size {s : ByteArray} (h : rightName s = true) : 1 ≤ s.size ∧ s.size ≤ 32 := by
  unfold rightName at h
  simp at h
  omega
/-- The words of a string, as strings. -/
def pieces (s : ByteArray) : List ByteArray := (words s.data.toList).map str
theorem pieces_eq (s : ByteArray) : splitB (str [32]) 0 (countB s (str [32])) s = pieces s := by
  unfold pieces
  rw [← split_words]
  have := splitB_data (str [32]) 0 (countB s (str [32])) s
  unfold split
  rw [show count s.data.toList [32] = countB s (str [32]) from rfl, show ([32] : List UInt8) = (str [32]).data.toList from rfl, ← this, List.map_map]
  conv => lhs; rw [← List.map_id (splitB (str [32]) 0 (countB s (str [32])) s)]
  refine List.map_congr_left fun x _ => ?_
  exact (str_toList x).symm
theorem pieces_len (s : ByteArray) : countB s (str [32]) + 1 = (pieces s).length := by
  rw [← pieces_eq, splitB_all (str [32]) (by decide) 0 _ s rfl]
theorem join_cons (a : List UInt8) (t : List (List UInt8)) : join (a :: t) = a ++ t.flatMap fun x => 32 :: x := by
  induction t generalizing a with
  | nil => simp [join]
  | cons b t ih => simp [join, ih]
end Go.TX
