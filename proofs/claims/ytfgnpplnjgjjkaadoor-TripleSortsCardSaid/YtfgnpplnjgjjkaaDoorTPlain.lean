/- Texts of triples and keys, in plain Lean: the words between blanks, the numerals, and that what is parsed has just that text. -/
import Derived.Lib.SplitLaws
import Derived.Lib.ItoaNum
import Derived.Lib.AtoiTie
namespace Go.Proofs.YtfgnpplnjgjjkaaDoor.T
open Go.Lib

/-- What stands between blanks. -/
def words : List UInt8 → List (List UInt8)
  | [] => [[]]
  | c :: r => if c = 32 then [] :: words r else (c :: (words r).headD []) :: (words r).tail

theorem words_ne (s : List UInt8) : words s ≠ [] := by
  cases s with
  | nil => simp [words]
  | cons c r => unfold words; split <;> simp

theorem split_words : ∀ s : List UInt8, split s [32] = words s
  | [] => by
    unfold split words
    rw [show count [] [32] = 0 from by rw [count_one]; rfl]
    rfl
  | c :: r => by
    have ih := split_words r
    unfold split at ih ⊢
    by_cases h : c = 32
    · subst h
      have hix : index ((32 : UInt8) :: r) [32] = ((0 : Nat) : Int) := by rw [index]; simp [List.isPrefixOf]
      rw [count_cons_eq, Nat.add_comm, splitK, hix, if_neg (by decide)]
      simp only [words, if_true]
      rw [← ih]
      rfl
    · rw [count_cons_ne c 32 r h]
      have hp : ([32] : List UInt8).isPrefixOf (c :: r) = false := by simp [List.isPrefixOf]; exact fun e => h e.symm
      have hix : index (c :: r) [32] = if index r [32] == -1 then -1 else index r [32] + 1 := by rw [index, hp]; simp
      simp only [words, if_neg h]
      rw [← ih]
      cases hc : count r [32] with
      | zero => rfl
      | succ k =>
        by_cases hm : index r [32] = -1
        · rw [count_miss hm] at hc; omega
        · have hge := index_ge r [32]
          obtain ⟨j, hj⟩ : ∃ j : Nat, index r [32] = j := ⟨(index r [32]).toNat, by omega⟩
          have hix' : index (c :: r) [32] = ((j + 1 : Nat) : Int) := by rw [hix, if_neg (fun e => hm (beq_iff_eq.1 e)), hj]; omega
          rw [splitK, splitK, hix', hj, if_neg (by rw [beq_iff_eq]; omega), if_neg (by rw [beq_iff_eq]; omega)]
          simp

theorem words_app {a b : List UInt8} (h : (32 : UInt8) ∉ a) : words (a ++ 32 :: b) = a :: words b := by
  induction a with
  | nil => simp [words]
  | cons c a ih =>
    simp only [List.mem_cons, not_or] at h
    simp only [List.cons_append, words]
    rw [if_neg (fun e => h.1 e.symm), ih h.2]
    rfl
theorem words_one {a : List UInt8} (h : (32 : UInt8) ∉ a) : words a = [a] := by
  induction a with
  | nil => rfl
  | cons c a ih =>
    simp only [List.mem_cons, not_or] at h
    simp only [words]
    rw [if_neg (fun e => h.1 e.symm), ih h.2]
    rfl

/-- Words, with blanks between them. -/
def join : List (List UInt8) → List UInt8
  | [] => []
  | [a] => a
  | a :: b :: t => a ++ 32 :: join (b :: t)
theorem join_words : ∀ s : List UInt8, join (words s) = s
  | [] => rfl
  | c :: r => by
    have ih := join_words r
    unfold words
    obtain ⟨a, t, e⟩ : ∃ a t, words r = a :: t := by
      cases h : words r with
      | nil => exact absurd h (words_ne r)
      | cons a t => exact ⟨a, t, rfl⟩
    split
    · rename_i h
      subst h
      rw [e] at ih ⊢
      simp [join, ih]
    · rw [e] at ih ⊢
      cases t with
      | nil => simpa [join] using ih
      | cons b t => simpa [join] using ih
theorem no_blank : ∀ (s : List UInt8), ∀ a ∈ words s, (32 : UInt8) ∉ a
  | [], a, h => by simp [words] at h; subst h; simp
  | c :: r, a, h => by
    have ih := no_blank r
    unfold words at h
    split at h
    · rcases List.mem_cons.1 h with rfl | h
      · simp
      · exact ih a h
    · rename_i hc
      obtain ⟨x, t, e⟩ : ∃ x t, words r = x :: t := by
        cases h : words r with
        | nil => exact absurd h (words_ne r)
        | cons a t => exact ⟨a, t, rfl⟩
      rw [e] at h ih
      rcases List.mem_cons.1 h with rfl | h
      · have := ih x (by simp)
        simp
        exact ⟨fun e => hc e.symm, this⟩
      · exact ih a (by simp at h; simp [h])

/-! ### Numerals -/

theorem dd_byte (d : Nat) (h : d < 10) : (UInt8.ofNat (48 + d)).toNat = 48 + d := by
  rw [UInt8.toNat_ofNat']; omega
theorem digitVal_dd (d : Nat) (h : d < 10) : digitVal (UInt8.ofNat (48 + d)) = some d := by
  unfold digitVal
  rw [dd_byte d h, if_pos ⟨by omega, by omega⟩]
  congr 1; omega
theorem decFrom_snoc : ∀ (l : List UInt8) (acc : Nat) (b : UInt8), decFrom acc (l ++ [b]) = (decFrom acc l).bind fun m => (digitVal b).map fun d => m * 10 + d
  | [], acc, b => by simp only [List.nil_append, decFrom]; cases digitVal b <;> rfl
  | a :: t, acc, b => by
    simp only [List.cons_append, decFrom]
    cases digitVal a with
    | none => rfl
    | some e => exact decFrom_snoc t _ b
theorem decFrom_dd : ∀ n : Nat, decFrom 0 (decDigits n) = some n := by
  intro n
  induction n using Nat.strongRecOn with
  | _ n ih =>
    by_cases h : n < 10
    · rw [decDigits_one h]
      simp only [decFrom, digitVal_dd n h, Nat.zero_mul, Nat.zero_add]
    · rw [decDigits, dif_neg h, decFrom_snoc, ih (n / 10) (by omega), digitVal_dd _ (by omega)]
      simp only [Option.bind_some, Option.map_some]
      congr 1; omega
theorem dd_mem : ∀ (n : Nat) (b : UInt8), b ∈ decDigits n → 48 ≤ b.toNat ∧ b.toNat ≤ 57 := by
  intro n
  induction n using Nat.strongRecOn with
  | _ n ih =>
    intro b hb
    by_cases h : n < 10
    · rw [decDigits_one h] at hb
      obtain rfl := List.mem_singleton.1 hb
      rw [dd_byte n h]; omega
    · rw [decDigits, dif_neg h] at hb
      rcases List.mem_append.1 hb with hb | hb
      · exact ih (n / 10) (by omega) b hb
      · obtain rfl := List.mem_singleton.1 hb
        rw [dd_byte _ (by omega)]; omega
theorem dd_ne (n : Nat) : decDigits n ≠ [] := by
  intro h
  have := decDigits_length n
  rw [h] at this
  have := nDigits_pos n
  simp at *
  omega
theorem dd_blank (n : Nat) : (32 : UInt8) ∉ decDigits n := fun h => by
  have := (dd_mem n 32 h).1
  revert this; decide
theorem dd_star (n : Nat) : decDigits n ≠ [42] := fun h => by
  have := (dd_mem n 42 (by simp [h])).1
  revert this; decide
theorem dd_len {n : Nat} (h : n < 1000000000) : (decDigits n).length ≤ 9 := by
  rw [decDigits_length]
  by_cases h9 : nDigits n ≤ 9
  · exact h9
  · exfalso
    have : 10 ^ (nDigits n - 1) ≤ n ∨ nDigits n = 1 := by
      have key : ∀ n, nDigits n = 1 ∨ 10 ^ (nDigits n - 1) ≤ n := by
        intro n
        induction n using Nat.strongRecOn with
        | _ n ih =>
          by_cases h : n < 10
          · exact .inl (nDigits_small h)
          · right
            rw [nDigits_big h]
            rcases ih (n / 10) (by omega) with h1 | h1
            · rw [h1]; simp; omega
            · have hp := nDigits_pos (n / 10)
              have : nDigits (n / 10) + 1 - 1 = (nDigits (n / 10) - 1) + 1 := by omega
              rw [this, Nat.pow_succ]; omega
      exact (key n).symm
    rcases this with h1 | h1
    · have : 10 ^ 9 ≤ 10 ^ (nDigits n - 1) := Nat.pow_le_pow_right (by decide) (by omega)
      have e : (10 : Nat) ^ 9 = 1000000000 := by decide
      omega
    · omega
theorem head_app {l m : List UInt8} (h : l ≠ []) : (l ++ m).head? = l.head? := by
  cases l with
  | nil => exact absurd rfl h
  | cons a t => rfl
/-- No 0 stands ahead of a numeral of more digits. -/
theorem dd_head : ∀ (n : Nat), 1 < (decDigits n).length → (decDigits n).head? ≠ some 48 := by
  intro n
  induction n using Nat.strongRecOn with
  | _ n ih =>
    intro hl
    by_cases h : n < 10
    · rw [decDigits_one h] at hl; simp at hl
    · rw [decDigits, dif_neg h]
      have hne := dd_ne (n / 10)
      rw [head_app hne]
      by_cases h1 : 1 < (decDigits (n / 10)).length
      · exact ih (n / 10) (by omega) h1
      · have hlt : n / 10 < 10 := by
          by_cases hx : n / 10 < 10
          · exact hx
          · rw [decDigits_length, nDigits_big hx] at h1
            have := nDigits_pos (n / 10 / 10)
            omega
        rw [decDigits_one hlt]
        intro e
        have := congrArg (Option.map UInt8.toNat) e
        simp only [List.head?_cons, Option.map_some, Option.some.injEq] at this
        rw [dd_byte _ hlt] at this
        simp at this
        omega
/-- Digits with no 0 ahead are a numeral. -/
theorem dd_of_decFrom : ∀ (k : Nat) (l : List UInt8) (n : Nat), l.length = k → l ≠ [] → (1 < l.length → l.head? ≠ some 48) → decFrom 0 l = some n → l = decDigits n := by
  intro k
  induction k with
  | zero => intro l n hk hne; exact absurd (List.length_eq_zero_iff.1 hk) hne
  | succ k ih =>
    intro l n hk hne h0 hd
    obtain ⟨i, b, rfl⟩ : ∃ i b, l = i ++ [b] := ⟨l.dropLast, l.getLast hne, (List.dropLast_concat_getLast hne).symm⟩
    rw [decFrom_snoc] at hd
    cases hm : decFrom 0 i with
    | none => rw [hm] at hd; cases hd
    | some m =>
      rw [hm] at hd
      cases hv : digitVal b with
      | none => rw [hv] at hd; cases hd
      | some d =>
        rw [hv] at hd
        simp only [Option.bind_some, Option.map_some, Option.some.injEq] at hd
        obtain ⟨b1, b2, b3⟩ := digitVal_eq hv
        have hb : b = UInt8.ofNat (48 + d) := by
          apply UInt8.toNat_inj.1
          rw [dd_byte d (by omega)]; omega
        by_cases hi : i = []
        · subst hi
          simp only [decFrom, Option.some.injEq] at hm
          subst hm
          rw [show n = d from by omega, decDigits_one (by omega), hb]
          rfl
        · have hil : 0 < i.length := List.length_pos_iff.2 hi
          have hh : i.head? ≠ some 48 := by
            have := h0 (by simp; omega)
            rwa [head_app hi] at this
          have hmi := ih i m (by simp at hk; omega) hi (fun _ => hh) hm
          have hm1 : m ≠ 0 := by
            rintro rfl
            rw [hmi, decDigits_one (by omega)] at hh
            exact hh rfl
          rw [decDigits, dif_neg (by omega), show n / 10 = m by omega, show n % 10 = d by omega, ← hmi, hb]

/-- What 'Number' tells. -/
def number (l : List UInt8) : Int := if l = [] ∨ 9 < l.length ∨ (1 < l.length ∧ l.head? = some 48) then -1 else match decFrom 0 l with
  | some m => (m : Int)
  | none => -1
theorem number_dd {n : Nat} (h : n < 1000000000) : number (decDigits n) = n := by
  unfold number
  rw [if_neg, decFrom_dd]
  rintro (h1 | h1 | h1)
  · exact dd_ne n h1
  · have := dd_len h; omega
  · exact dd_head n h1.1 h1.2
theorem number_some {l : List UInt8} {n : Nat} (h : number l = n) : l = decDigits n ∧ n < 1000000000 := by
  unfold number at h
  split at h
  · omega
  · rename_i hc
    rw [not_or, not_or] at hc
    cases hd : decFrom 0 l with
    | none => rw [hd] at h; simp only at h; omega
    | some m =>
      rw [hd] at h
      simp only [Int.natCast_inj] at h
      subst h
      refine ⟨dd_of_decFrom _ l m rfl hc.1 (fun a b => hc.2.2 ⟨a, b⟩) hd, ?_⟩
      have := decFrom_lt l 0 m hd
      have : 10 ^ l.length ≤ 10 ^ 9 := Nat.pow_le_pow_right (by decide) (by omega)
      have e : (10 : Nat) ^ 9 = 1000000000 := by decide
      omega
theorem number_ge (l : List UInt8) : -1 ≤ number l ∧ number l < 1000000000 := by
  by_cases h : 0 ≤ number l
  · obtain ⟨n, hn⟩ : ∃ n : Nat, number l = n := ⟨(number l).toNat, by omega⟩
    have := (number_some hn).2
    omega
  · have h' := h
    unfold number at h ⊢
    split
    · omega
    · rename_i hc
      rw [if_neg hc] at h
      split
      · rename_i m hm
        rw [hm] at h; simp only at h; omega
      · omega
theorem atoi_dd {n : Nat} (h : n < 1000000000) : atoiAll (decDigits n) = .ok (n : Int) := by
  have hl := dd_len h
  rw [atoiAll_short _ (by omega)]
  have : atoi (decDigits n) = some (n : Int) := by
    have hd := decFrom_dd n
    have hm := dd_mem n
    cases e : decDigits n with
    | nil => exact absurd e (dd_ne n)
    | cons b r =>
      rw [e] at hd hm
      have hb := hm b (by simp)
      have h1 : ¬ b = 45 := fun e => by subst e; revert hb; decide
      have h2 : ¬ b = 43 := fun e => by subst e; revert hb; decide
      simp only [atoi, beq_iff_eq, if_neg h1, if_neg h2, decNat, List.isEmpty_cons, Bool.false_eq_true, if_false, hd, Option.map_some]
  rw [this]
  rfl
theorem itoa_dd {n : Int} (h : 0 ≤ n) : itoa n = decDigits n.toNat := by
  unfold itoa
  rw [if_neg (by omega)]
end Go.Proofs.YtfgnpplnjgjjkaaDoor.T
namespace Go.Proofs.YtfgnpplnjgjjkaaDoor.T
open Go.Lib
/-- The text of three numbers. -/
def text3 (a b c : Nat) : List UInt8 := decDigits a ++ 32 :: (decDigits b ++ 32 :: decDigits c)
theorem words_text3 (a b c : Nat) : words (text3 a b c) = [decDigits a, decDigits b, decDigits c] := by
  unfold text3
  rw [words_app (dd_blank a), words_app (dd_blank b), words_one (dd_blank c)]
theorem text_words {s a b c : List UInt8} (h : words s = [a, b, c]) : s = a ++ 32 :: (b ++ 32 :: c) := by
  have := join_words s
  rw [h] at this
  exact this.symm
/-- A field's word in a key. -/
def kword (n : Nat) : List UInt8 := if n = 0 then [42] else decDigits n
theorem kword_blank (n : Nat) : (32 : UInt8) ∉ kword n := by
  unfold kword
  split
  · decide
  · exact dd_blank n
theorem kword_star {n : Nat} (h : kword n = [42]) : n = 0 := by
  unfold kword at h
  split at h
  · assumption
  · exact absurd h (dd_star n)
def ktext3 (a b c : Nat) : List UInt8 := kword a ++ 32 :: (kword b ++ 32 :: kword c)
theorem words_ktext3 (a b c : Nat) : words (ktext3 a b c) = [kword a, kword b, kword c] := by
  unfold ktext3
  rw [words_app (kword_blank a), words_app (kword_blank b), words_one (kword_blank c)]
end Go.Proofs.YtfgnpplnjgjjkaaDoor.T
