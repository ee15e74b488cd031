/- Texts of triples and keys, in plain Lean: the words between blanks, the numerals, and that what is parsed has just that text. Texts of matches: plain. -/
import Derived.Lib.SplitLaws
import Derived.Lib.ItoaNum
import Derived.Lib.AtoiTie
import Derived.Test.YtmhpogajklihdaaDoorCPlain
namespace Go.Proofs.YtmhpogajklihdaaDoor.C
open Go.Lib

/-- What stands between blanks. -/
def words : List UInt8 → List (List UInt8)
  | [] => [[]]
  | c :: r => if c = 32 then [] :: words r else (c :: (words r).headD []) :: (words r).tail

theorem words_ne (s : List UInt8) : words s ≠ [] := by
  cases s with
  | nil => simp [words]
  | cons c r => unfold words; split <;> simp

theorem split_words : ∀ s : List UInt8, split s [32] = words s
  | [] => by
    unfold split words
    rw [show count [] [32] = 0 from by rw [count_one]; rfl]
    rfl
  | c :: r => by
    have ih := split_words r
    unfold split at ih ⊢
    by_cases h : c = 32
    · subst h
      have hix : index ((32 : UInt8) :: r) [32] = ((0 : Nat) : Int) := by rw [index]; simp [List.isPrefixOf]
      rw [count_cons_eq, Nat.add_comm, splitK, hix, if_neg (by decide)]
      simp only [words, if_true]
      rw [← ih]
      rfl
    · rw [count_cons_ne c 32 r h]
      have hp : ([32] : List UInt8).isPrefixOf (c :: r) = false := by simp [List.isPrefixOf]; exact fun e => h e.symm
      have hix : index (c :: r) [32] = if index r [32] == -1 then -1 else index r [32] + 1 := by rw [index, hp]; simp
      simp only [words, if_neg h]
      rw [← ih]
      cases hc : count r [32] with
      | zero => rfl
      | succ k =>
        by_cases hm : index r [32] = -1
        · rw [count_miss hm] at hc; omega
        · have hge := index_ge r [32]
          obtain ⟨j, hj⟩ : ∃ j : Nat, index r [32] = j := ⟨(index r [32]).toNat, by omega⟩
          have hix' : index (c :: r) [32] = ((j + 1 : Nat) : Int) := by rw [hix, if_neg (fun e => hm (beq_iff_eq.1 e)), hj]; omega
          rw [splitK, splitK, hix', hj, if_neg (by rw [beq_iff_eq]; omega), if_neg (by rw [beq_iff_eq]; omega)]
          simp

theorem words_app {a b : List UInt8} (h : (32 : UInt8) ∉ a) : words (a ++ 32 :: b) = a :: words b := by
  induction a with
  | nil => simp [words]
  | cons c a ih =>
    simp only [List.mem_cons, not_or] at h
    simp only [List.cons_append, words]
    rw [if_neg (fun e => h.1 e.symm), ih h.2]
    rfl
theorem words_one {a : List UInt8} (h : (32 : UInt8) ∉ a) : words a = [a] := by
  induction a with
  | nil => rfl
  | cons c a ih =>
    simp only [List.mem_cons, not_or] at h
    simp only [words]
    rw [if_neg (fun e => h.1 e.symm), ih h.2]
    rfl

/-- Words, with blanks between them. -/
def join : List (List UInt8) → List UInt8
  | [] => []
  | [a] => a
  | a :: b :: t => a ++ 32 :: join (b :: t)
theorem join_words : ∀ s : List UInt8, join (words s) = s
  | [] => rfl
  | c :: r => by
    have ih := join_words r
    unfold words
    obtain ⟨a, t, e⟩ : ∃ a t, words r = a :: t := by
      cases h : words r with
      | nil => exact absurd h (words_ne r)
      | cons a t => exact ⟨a, t, rfl⟩
    split
    · rename_i h
      subst h
      rw [e] at ih ⊢
      simp [join, ih]
    · rw [e] at ih ⊢
      cases t with
      | nil => simpa [join] using ih
      | cons b t => simpa [join] using ih
theorem no_blank : ∀ (s : List UInt8), ∀ a ∈ words s, (32 : UInt8) ∉ a
  | [], a, h => by simp [words] at h; subst h; simp
  | c :: r, a, h => by
    have ih := no_blank r
    unfold words at h
    split at h
    · rcases List.mem_cons.1 h with rfl | h
      · simp
      · exact ih a h
    · rename_i hc
      obtain ⟨x, t, e⟩ : ∃ x t, words r = x :: t := by
        cases h : words r with
        | nil => exact absurd h (words_ne r)
        | cons a t => exact ⟨a, t, rfl⟩
      rw [e] at h ih
      rcases List.mem_cons.1 h with rfl | h
      · have := ih x (by simp)
        simp
        exact ⟨fun e => hc e.symm, this⟩
      · exact ih a (by simp at h; simp [h])

/-! ### Numerals -/

theorem dd_byte (d : Nat) (h : d < 10) : (UInt8.ofNat (48 + d)).toNat = 48 + d := by
  rw [UInt8.toNat_ofNat']; omega
theorem digitVal_dd (d : Nat) (h : d < 10) : digitVal (UInt8.ofNat (48 + d)) = some d := by
  unfold digitVal
  rw [dd_byte d h, if_pos ⟨by omega, by omega⟩]
  congr 1; omega
theorem decFrom_snoc : ∀ (l : List UInt8) (acc : Nat) (b : UInt8), decFrom acc (l ++ [b]) = (decFrom acc l).bind fun m => (digitVal b).map fun d => m * 10 + d
  | [], acc, b => by simp only [List.nil_append, decFrom]; cases digitVal b <;> rfl
  | a :: t, acc, b => by
    simp only [List.cons_append, decFrom]
    cases digitVal a with
    | none => rfl
    | some e => exact decFrom_snoc t _ b
theorem decFrom_dd : ∀ n : Nat, decFrom 0 (decDigits n) = some n := by
  intro n
  induction n using Nat.strongRecOn with
  | _ n ih =>
    by_cases h : n < 10
    · rw [decDigits_one h]
      simp only [decFrom, digitVal_dd n h, Nat.zero_mul, Nat.zero_add]
    · rw [decDigits, dif_neg h, decFrom_snoc, ih (n / 10) (by omega), digitVal_dd _ (by omega)]
      simp only [Option.bind_some, Option.map_some]
      congr 1; omega
theorem dd_mem : ∀ (n : Nat) (b : UInt8), b ∈ decDigits n → 48 ≤ b.toNat ∧ b.toNat ≤ 57 := by
  intro n
  induction n using Nat.strongRecOn with
  | _ n ih =>
    intro b hb
    by_cases h : n < 10
    · rw [decDigits_one h] at hb
      obtain rfl := List.mem_singleton.1 hb
      rw [dd_byte n h]; omega
    · rw [decDigits, dif_neg h] at hb
      rcases List.mem_append.1 hb with hb | hb
      · exact ih (n / 10) (by omega) b hb
      · obtain rfl := List.mem_singleton.1 hb
        rw [dd_byte _ (by omega)]; omega
theorem dd_ne (n : Nat) : decDigits n ≠ [] := by
  intro h
  have := decDigits_length n
  rw [h] at this
  have := nDigits_pos n
  simp at *
  omega
theorem dd_blank (n : Nat) : (32 : UInt8) ∉ decDigits n := fun h => by
  have := (dd_mem n 32 h).1
  revert this; decide
theorem dd_star (n : Nat) : decDigits n ≠ [42] := fun h => by
  have := (dd_mem n 42 (by simp [h])).1
  revert this; decide
theorem dd_len {n : Nat} (h : n < 1000000000) : (decDigits n).length ≤ 9 := by
  rw [decDigits_length]
  by_cases h9 : nDigits n ≤ 9
  · exact h9
  · exfalso
    have : 10 ^ (nDigits n - 1) ≤ n ∨ nDigits n = 1 := by
      have key : ∀ n, nDigits n = 1 ∨ 10 ^ (nDigits n - 1) ≤ n := by
        intro n
        induction n using Nat.strongRecOn with
        | _ n ih =>
          by_cases h : n < 10
          · exact .inl (nDigits_small h)
          · right
            rw [nDigits_big h]
            rcases ih (n / 10) (by omega) with h1 | h1
            · rw [h1]; simp; omega
            · have hp := nDigits_pos (n / 10)
              have : nDigits (n / 10) + 1 - 1 = (nDigits (n / 10) - 1) + 1 := by omega
              rw [this, Nat.pow_succ]; omega
      exact (key n).symm
    rcases this with h1 | h1
    · have : 10 ^ 9 ≤ 10 ^ (nDigits n - 1) := Nat.pow_le_pow_right (by decide) (by omega)
      have e : (10 : Nat) ^ 9 = 1000000000 := by decide
      omega
    · omega
theorem head_app {l m : List UInt8} (h : l ≠ []) : (l ++ m).head? = l.head? := by
  cases l with
  | nil => exact absurd rfl h
  | cons a t => rfl
/-- No 0 stands ahead of a numeral of more digits. -/
theorem dd_head : ∀ (n : Nat), 1 < (decDigits n).length → (decDigits n).head? ≠ some 48 := by
  intro n
  induction n using Nat.strongRecOn with
  | _ n ih =>
    intro hl
    by_cases h : n < 10
    · rw [decDigits_one h] at hl; simp at hl
    · rw [decDigits, dif_neg h]
      have hne := dd_ne (n / 10)
      rw [head_app hne]
      by_cases h1 : 1 < (decDigits (n / 10)).length
      · exact ih (n / 10) (by omega) h1
      · have hlt : n / 10 < 10 := by
          by_cases hx : n / 10 < 10
          · exact hx
          · rw [decDigits_length, nDigits_big hx] at h1
            have := nDigits_pos (n / 10 / 10)
            omega
        rw [decDigits_one hlt]
        intro e
        have := congrArg (Option.map UInt8.toNat) e
        simp only [List.head?_cons, Option.map_some, Option.some.injEq] at this
        rw [dd_byte _ hlt] at this
        simp at this
        omega
/-- Digits with no 0 ahead are a numeral. -/
theorem dd_of_decFrom : ∀ (k : Nat) (l : List UInt8) (n : Nat), l.length = k → l ≠ [] → (1 < l.length → l.head? ≠ some 48) → decFrom 0 l = some n → l = decDigits n := by
  intro k
  induction k with
  | zero => intro l n hk hne; exact absurd (List.length_eq_zero_iff.1 hk) hne
  | succ k ih =>
    intro l n hk hne h0 hd
    obtain ⟨i, b, rfl⟩ : ∃ i b, l = i ++ [b] := ⟨l.dropLast, l.getLast hne, (List.dropLast_concat_getLast hne).symm⟩
    rw [decFrom_snoc] at hd
    cases hm : decFrom 0 i with
    | none => rw [hm] at hd; cases hd
    | some m =>
      rw [hm] at hd
      cases hv : digitVal b with
      | none => rw [hv] at hd; cases hd
      | some d =>
        rw [hv] at hd
        simp only [Option.bind_some, Option.map_some, Option.some.injEq] at hd
        obtain ⟨b1, b2, b3⟩ := digitVal_eq hv
        have hb : b = UInt8.ofNat (48 + d) := by
          apply UInt8.toNat_inj.1
          rw [dd_byte d (by omega)]; omega
        by_cases hi : i = []
        · subst hi
          simp only [decFrom, Option.some.injEq] at hm
          subst hm
          rw [show n = d from by omega, decDigits_one (by omega), hb]
          rfl
        · have hil : 0 < i.length := List.length_pos_iff.2 hi
          have hh : i.head? ≠ some 48 := by
            have := h0 (by simp; omega)
            rwa [head_app hi] at this
          have hmi := ih i m (by simp at hk; omega) hi (fun _ => hh) hm
          have hm1 : m ≠ 0 := by
            rintro rfl
            rw [hmi, decDigits_one (by omega)] at hh
            exact hh rfl
          rw [decDigits, dif_neg (by omega), show n / 10 = m by omega, show n % 10 = d by omega, ← hmi, hb]

/-- What 'Number' tells. -/
def number (l : List UInt8) : Int := if l = [] ∨ 9 < l.length ∨ (1 < l.length ∧ l.head? = some 48) then -1 else match decFrom 0 l with
  | some m => (m : Int)
  | none => -1
theorem number_dd {n : Nat} (h : n < 1000000000) : number (decDigits n) = n := by
  unfold number
  rw [if_neg, decFrom_dd]
  rintro (h1 | h1 | h1)
  · exact dd_ne n h1
  · have := dd_len h; omega
  · exact dd_head n h1.1 h1.2
theorem number_some {l : List UInt8} {n : Nat} (h : number l = n) : l = decDigits n ∧ n < 1000000000 := by
  unfold number at h
  split at h
  · omega
  · rename_i hc
    rw [not_or, not_or] at hc
    cases hd : decFrom 0 l with
    | none => rw [hd] at h; simp only at h; omega
    | some m =>
      rw [hd] at h
      simp only [Int.natCast_inj] at h
      subst h
      refine ⟨dd_of_decFrom _ l m rfl hc.1 (fun a b => hc.2.2 ⟨a, b⟩) hd, ?_⟩
      have := decFrom_lt l 0 m hd
      have : 10 ^ l.length ≤ 10 ^ 9 := Nat.pow_le_pow_right (by decide) (by omega)
      have e : (10 : Nat) ^ 9 = 1000000000 := by decide
      omega
theorem number_ge (l : List UInt8) : -1 ≤ number l ∧ number l < 1000000000 := by
  by_cases h : 0 ≤ number l
  · obtain ⟨n, hn⟩ : ∃ n : Nat, number l = n := ⟨(number l).toNat, by omega⟩
    have := (number_some hn).2
    omega
  · have h' := h
    unfold number at h ⊢
    split
    · omega
    · rename_i hc
      rw [if_neg hc] at h
      split
      · rename_i m hm
        rw [hm] at h; simp only at h; omega
      · omega
theorem atoi_dd {n : Nat} (h : n < 1000000000) : atoiAll (decDigits n) = .ok (n : Int) := by
  have hl := dd_len h
  rw [atoiAll_short _ (by omega)]
  have : atoi (decDigits n) = some (n : Int) := by
    have hd := decFrom_dd n
    have hm := dd_mem n
    cases e : decDigits n with
    | nil => exact absurd e (dd_ne n)
    | cons b r =>
      rw [e] at hd hm
      have hb := hm b (by simp)
      have h1 : ¬ b = 45 := fun e => by subst e; revert hb; decide
      have h2 : ¬ b = 43 := fun e => by subst e; revert hb; decide
      simp only [atoi, beq_iff_eq, if_neg h1, if_neg h2, decNat, List.isEmpty_cons, Bool.false_eq_true, if_false, hd, Option.map_some]
  rw [this]
  rfl
theorem itoa_dd {n : Int} (h : 0 ≤ n) : itoa n = decDigits n.toNat := by
  unfold itoa
  rw [if_neg (by omega)]
end Go.Proofs.YtmhpogajklihdaaDoor.C
namespace Go.Proofs.YtmhpogajklihdaaDoor.C
open Go.Lib
/-- The text of three numbers. -/
def text3 (a b c : Nat) : List UInt8 := decDigits a ++ 32 :: (decDigits b ++ 32 :: decDigits c)
theorem words_text3 (a b c : Nat) : words (text3 a b c) = [decDigits a, decDigits b, decDigits c] := by
  unfold text3
  rw [words_app (dd_blank a), words_app (dd_blank b), words_one (dd_blank c)]
theorem text_words {s a b c : List UInt8} (h : words s = [a, b, c]) : s = a ++ 32 :: (b ++ 32 :: c) := by
  have := join_words s
  rw [h] at this
  exact this.symm
/-- A field's word in a key. -/
def kword (n : Nat) : List UInt8 := if n = 0 then [42] else decDigits n
theorem kword_blank (n : Nat) : (32 : UInt8) ∉ kword n := by
  unfold kword
  split
  · decide
  · exact dd_blank n
theorem kword_star {n : Nat} (h : kword n = [42]) : n = 0 := by
  unfold kword at h
  split at h
  · assumption
  · exact absurd h (dd_star n)
def ktext3 (a b c : Nat) : List UInt8 := kword a ++ 32 :: (kword b ++ 32 :: kword c)
theorem words_ktext3 (a b c : Nat) : words (ktext3 a b c) = [kword a, kword b, kword c] := by
  unfold ktext3
  rw [words_app (kword_blank a), words_app (kword_blank b), words_one (kword_blank c)]
end Go.Proofs.YtmhpogajklihdaaDoor.C
namespace Go.Proofs.YtmhpogajklihdaaDoor.C
open Go.Lib

/-- A string out of bytes. -/
abbrev str (l : List UInt8) : ByteArray := ⟨l.toArray⟩
theorem str_toList (s : ByteArray) : str s.data.toList = s := by cases s; simp [str]
theorem str_size (l : List UInt8) : (str l).size = l.length := by simp [ByteArray.size]
theorem str_inj {a b : List UInt8} (h : str a = str b) : a = b := by
  have := congrArg (fun s : ByteArray => s.data.toList) h
  simpa [str] using this

/-- The bytes of names. -/
def okN (n : Nat) : Bool := (decide (97 ≤ n) && decide (n ≤ 122)) || (decide (65 ≤ n) && decide (n ≤ 90)) || (decide (48 ≤ n) && decide (n ≤ 57)) || decide (n = 45) || decide (n = 95)
def rightName (s : ByteArray) : Bool := decide (1 ≤ s.size) && decide (s.size ≤ 32) && s.data.toList.all fun b => okN b.toNat
def okId (n : Int) : Bool := decide (1 ≤ n) && decide (n ≤ 999999999)
def tailT (ids : List Int) : List UInt8 := ids.flatMap fun n => 32 :: decDigits n.toNat
def textB (m : M) : ByteArray := str (m.1.data.toList ++ tailT m.2)
/-- A match's text, and the error's number. -/
def textM (m : M) : ByteArray × Int := if rightName m.1 then (if m.2.all okId then (textB m, 0) else (⟨#[]⟩, 13)) else (⟨#[]⟩, 1)

theorem right_size {s : ByteArray} (h : rightName s = true) : 1 ≤ s.size ∧ s.size ≤ 32 := by
  unfold rightName at h
  simp at h
  omega
theorem right_blank {s : ByteArray} (h : rightName s = true) : (32 : UInt8) ∉ s.data.toList := fun hm => by
  unfold rightName at h
  rw [Bool.and_eq_true, List.all_eq_true] at h
  have := h.2 _ hm
  revert this; decide
theorem tailT_snoc (ids : List Int) (n : Int) : tailT (ids ++ [n]) = tailT ids ++ 32 :: decDigits n.toNat := by simp [tailT]
theorem tailT_len (ids : List Int) (h : ids.all okId = true) : (tailT ids).length ≤ 10 * ids.length := by
  induction ids with
  | nil => simp [tailT]
  | cons n ids ih =>
    rw [List.all_cons, Bool.and_eq_true] at h
    have h1 := ih h.2
    have h2 := h.1
    unfold okId at h2
    simp at h2
    have h3 := dd_len (n := n.toNat) (by omega)
    have e : tailT (n :: ids) = (32 :: decDigits n.toNat) ++ tailT ids := rfl
    rw [e, List.length_append, List.length_cons, List.length_cons]
    omega
theorem words_text (a : List UInt8) (ids : List Int) (h : (32 : UInt8) ∉ a) : words (a ++ tailT ids) = a :: ids.map fun n => decDigits n.toNat := by
  induction ids generalizing a with
  | nil => rw [show tailT [] = [] from rfl, List.append_nil]; exact words_one h
  | cons n ids ih =>
    have e : tailT (n :: ids) = 32 :: (decDigits n.toNat ++ tailT ids) := rfl
    rw [e, words_app h, ih _ (dd_blank _)]
    rfl
theorem words_of {m : M} {s : ByteArray} (h : textM m = (s, 0)) : rightName m.1 = true ∧ m.2.all okId = true ∧ words s.data.toList = m.1.data.toList :: m.2.map (fun n => decDigits n.toNat) ∧ s = textB m := by
  unfold textM at h
  split at h
  · rename_i hr
    split at h
    · rename_i ho
      have e := congrArg Prod.fst h
      simp only at e
      refine ⟨hr, ho, ?_, e.symm⟩
      rw [← e]
      exact words_text _ _ (right_blank hr)
    · exact absurd (congrArg Prod.snd h) (show ¬ ((13 : Int) = 0) by decide)
  · exact absurd (congrArg Prod.snd h) (show ¬ ((1 : Int) = 0) by decide)
theorem text_of {m : M} (hr : rightName m.1 = true) (ho : m.2.all okId = true) : textM m = (textB m, 0) := by
  unfold textM
  rw [hr, ho]
  rfl
theorem dd_inj {a b : Nat} (h : decDigits a = decDigits b) : a = b := by
  have := decFrom_dd a
  rw [h, decFrom_dd] at this
  exact (Option.some.inj this).symm
theorem okId_pos {n : Int} (h : okId n = true) : 1 ≤ n ∧ n ≤ 999999999 := by
  unfold okId at h
  simpa using h
theorem text_inj {m m' : M} {s : ByteArray} (h : textM m = (s, 0)) (h' : textM m' = (s, 0)) : m = m' := by
  obtain ⟨_, o, w, _⟩ := words_of h
  obtain ⟨_, o', w', _⟩ := words_of h'
  rw [w] at w'
  obtain ⟨e1, e2⟩ := List.cons.inj w'
  refine Prod.ext ?_ ?_
  · rw [← str_toList m.1, e1, str_toList]
  · rw [List.all_eq_true] at o o'
    have key : ∀ (a b : List Int), (∀ n ∈ a, okId n = true) → (∀ n ∈ b, okId n = true) → a.map (fun n => decDigits n.toNat) = b.map (fun n => decDigits n.toNat) → a = b := by
      intro a
      induction a with
      | nil => intro b _ _ h; cases b with
        | nil => rfl
        | cons _ _ => simp at h
      | cons x a ih =>
        intro b h1 h2 h
        cases b with
        | nil => simp at h
        | cons y b =>
          simp only [List.map_cons, List.cons.injEq] at h
          have k1 := okId_pos (h1 x (by simp))
          have k2 := okId_pos (h2 y (by simp))
          have := dd_inj h.1
          rw [show x = y by omega, ih b (fun n hn => h1 n (by simp [hn])) (fun n hn => h2 n (by simp [hn])) h.2]
    exact key _ _ o o' e2
/-- The words of a string, as strings. -/
def pieces (s : ByteArray) : List ByteArray := (words s.data.toList).map str
theorem pieces_eq (s : ByteArray) : splitB (str [32]) 0 (countB s (str [32])) s = pieces s := by
  unfold pieces
  rw [← split_words]
  have := splitB_data (str [32]) 0 (countB s (str [32])) s
  unfold split
  rw [show count s.data.toList [32] = countB s (str [32]) from rfl, show ([32] : List UInt8) = (str [32]).data.toList from rfl, ← this, List.map_map]
  conv => lhs; rw [← List.map_id (splitB (str [32]) 0 (countB s (str [32])) s)]
  refine List.map_congr_left fun x _ => ?_
  exact (str_toList x).symm
theorem pieces_len (s : ByteArray) : countB s (str [32]) + 1 = (pieces s).length := by
  rw [← pieces_eq, splitB_all (str [32]) (by decide) 0 _ s rfl]
theorem pieces_of {m : M} {s : ByteArray} (h : textM m = (s, 0)) : pieces s = m.1 :: m.2.map (fun n => str (decDigits n.toNat)) := by
  unfold pieces
  rw [(words_of h).2.2.1]
  simp [str_toList]
theorem pieces_cons (s : ByteArray) : ∃ r t, pieces s = r :: t := by
  unfold pieces
  obtain ⟨a, t, e⟩ : ∃ a t, words s.data.toList = a :: t := by
    cases h : words s.data.toList with
    | nil => exact absurd h (words_ne _)
    | cons a t => exact ⟨a, t, rfl⟩
  rw [e]
  exact ⟨_, _, rfl⟩
theorem join_cons (a : List UInt8) (t : List (List UInt8)) : join (a :: t) = a ++ t.flatMap fun x => 32 :: x := by
  induction t generalizing a with
  | nil => simp [join]
  | cons b t ih => simp [join, ih]
/-- What the words are read as. -/
def wv (x : ByteArray) : Int := match atoiAll x.data.toList with
  | .ok v => v
  | _ => 0
theorem wv_ok {x : ByteArray} {v : Int} (h : atoiAll x.data.toList = .ok v) : wv x = v := by simp [wv, h]
theorem wv_dd {n : Int} (h : okId n = true) : atoiAll (str (decDigits n.toNat)).data.toList = .ok n := by
  have k := okId_pos h
  have := atoi_dd (n := n.toNat) (by omega)
  rw [show ((n.toNat : Nat) : Int) = n by omega] at this
  simpa using this

/-- What a text is parsed as, if it is: of words that all are numbers. -/
theorem parse_yes {m : M} {s r : ByteArray} {t : List ByteArray} (h : textM m = (s, 0)) (hp : pieces s = r :: t) : (∀ x ∈ t, ∃ v, atoiAll x.data.toList = .ok v) ∧ (r, t.map wv) = m := by
  rw [pieces_of h] at hp
  obtain ⟨e1, e2⟩ := List.cons.inj hp
  have o := (words_of h).2.1
  rw [List.all_eq_true] at o
  constructor
  · intro x hx
    rw [← e2] at hx
    obtain ⟨n, hn, rfl⟩ := List.mem_map.1 hx
    exact ⟨n, wv_dd (o n hn)⟩
  · rw [← e1, ← e2, List.map_map]
    refine Prod.ext rfl ?_
    show List.map _ m.2 = m.2
    conv => rhs; rw [← List.map_id m.2]
    refine List.map_congr_left fun n hn => ?_
    exact wv_ok (wv_dd (o n hn))
/-- What the document's numbers are. -/
theorem rparse_yes {m : M} {s r : ByteArray} {t : List ByteArray} (h : textM m = (s, 0)) (hp : pieces s = r :: t) : (∀ x ∈ t, 1 ≤ number x.data.toList) ∧ (r, t.map fun x => number x.data.toList) = m ∧ rightName r = true := by
  have hr := (words_of h).1
  rw [pieces_of h] at hp
  obtain ⟨e1, e2⟩ := List.cons.inj hp
  have o := (words_of h).2.1
  rw [List.all_eq_true] at o
  have key : ∀ n ∈ m.2, number (str (decDigits n.toNat)).data.toList = n := fun n hn => by
    have k := okId_pos (o n hn)
    have := number_dd (n := n.toNat) (by omega)
    rw [show ((n.toNat : Nat) : Int) = n by omega] at this
    simpa using this
  refine ⟨?_, ?_, by rw [← e1]; exact hr⟩
  · intro x hx
    rw [← e2] at hx
    obtain ⟨n, hn, rfl⟩ := List.mem_map.1 hx
    rw [key n hn]
    exact (okId_pos (o n hn)).1
  · rw [← e1, ← e2, List.map_map]
    refine Prod.ext rfl ?_
    show List.map _ m.2 = m.2
    conv => rhs; rw [← List.map_id m.2]
    exact List.map_congr_left fun n hn => key n hn
theorem rparse_of {s r : ByteArray} {t : List ByteArray} (hp : pieces s = r :: t) (ht : ∀ x ∈ t, 1 ≤ number x.data.toList) (hr : rightName r = true) : textM (r, t.map fun x => number x.data.toList) = (s, 0) := by
  have ho : (t.map fun x => number x.data.toList).all okId = true := by
    rw [List.all_eq_true]
    intro n hn
    obtain ⟨x, hx, rfl⟩ := List.mem_map.1 hn
    have h1 := ht x hx
    have h2 := (number_ge x.data.toList).2
    unfold okId
    simp
    omega
  rw [text_of hr ho]
  have e : textB (r, t.map fun x => number x.data.toList) = s := by
    unfold textB
    have hj := join_words s.data.toList
    obtain ⟨a, u, hw⟩ : ∃ a u, words s.data.toList = a :: u := by
      cases h : words s.data.toList with
      | nil => exact absurd h (words_ne _)
      | cons a t => exact ⟨a, t, rfl⟩
    have hp2 := hp
    unfold pieces at hp2
    rw [hw, List.map_cons] at hp2
    obtain ⟨e1, e2⟩ := List.cons.inj hp2
    rw [hw, join_cons] at hj
    rw [← str_toList s, ← hj]
    subst e1 e2
    show str ((str a).data.toList ++ tailT ((u.map str).map fun x => number x.data.toList)) = _
    congr 2
    unfold tailT
    rw [List.map_map, List.flatMap_map]
    have hx : ∀ x ∈ u, decDigits ((number x).toNat) = x := fun x hx => by
      have h1 := ht (str x) (List.mem_map_of_mem hx)
      simp only at h1
      exact (number_some (l := x) (n := (number x).toNat) (by omega)).1.symm
    clear hj hw hp2 hp ht ho
    induction u with
    | nil => rfl
    | cons x u ih =>
      rw [List.flatMap_cons, List.flatMap_cons, ih (fun y hy => hx y (by simp [hy]))]
      congr 1
      simp [hx x (by simp)]
  rw [e]
end Go.Proofs.YtmhpogajklihdaaDoor.C
