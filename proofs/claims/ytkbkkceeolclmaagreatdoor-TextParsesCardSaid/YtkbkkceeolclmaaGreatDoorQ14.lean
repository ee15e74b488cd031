/- What the document's small functions answer, in plain words. -/
import Derived.Test.YtkbkkceeolclmaaGreatDoorQ06
import Derived.Test.YtkbkkceeolclmaaGreatDoorQ13
set_option linter.unusedVariables false
set_option linter.unusedSimpArgs false
namespace Go.Proofs.YtkbkkceeolclmaaGreatDoor.X
open Go.RowKit Go.TX Go.Lib Go.Proofs.YtkbkkceeolclmaaGreatDoorW.PrintWords Go.Proofs.YtkbkkceeolclmaaGreatDoor.PD
theorem bt_nat (s : ByteArray) (i : Nat) (h : i < s.data.toList.length) : bt s (i : Int) = (s.data.toList[i].toNat : Int) := by
  unfold bt
  rw [dif_pos (by simpa using h)]
  rfl
theorem extract_str (s : ByteArray) (a b : Nat) : s.extract a b = str ((s.data.toList.drop a).take (b - a)) := by
  apply ByteArray.ext
  apply Array.ext'
  simp
theorem words_loop (s : ByteArray) (hs : s.size ≤ 1000) : ∀ (d x5 x4 : Nat) (acc : List ByteArray) (k : Nat), s.size - x5 = d → x5 ≤ s.size → x4 ≤ x5 → acc.length ≤ x5 → (∀ j, x4 ≤ j → j < x5 → s.data.toList[j]? ≠ some 32) → d + 2 ≤ k →
    retiaryref02_Words.l0 k s acc (x4 : Int) (x5 : Int) = some (acc ++ (words (s.data.toList.drop x4)).map str)
  | 0, x5, x4, acc, k, hd, h5, h45, hacc, hno, hk => by
    obtain ⟨k, rfl⟩ : ∃ m, k = m + 2 := ⟨k - 2, by omega⟩
    have e5 : x5 = s.size := by omega
    have hsz : s.data.toList.length = s.size := rfl
    have hw : wrap64 ((x5 : Int) + 1) = ((x5 + 1 : Nat) : Int) := by unfold wrap64; omega
    have h32 : (32 : UInt8) ∉ s.data.toList.drop x4 := fun hm => by
      obtain ⟨j, hj⟩ := List.mem_iff_getElem?.1 hm
      rw [List.getElem?_drop] at hj
      have := (List.getElem?_eq_some_iff.1 hj).1
      exact hno (x4 + j) (by omega) (by omega) hj
    simp only [retiaryref02_Words.l0]
    rw [if_pos (by omega), if_pos (by omega), if_pos (by omega), if_pos (by omega), if_pos (by omega), hw, if_neg (by omega)]
    simp only [Int.toNat_natCast]
    rw [words_one h32, extract_str, List.take_of_length_le (by rw [List.length_drop]; omega)]
    rfl
  | d + 1, x5, x4, acc, k, hd, h5, h45, hacc, hno, hk => by
    obtain ⟨k, rfl⟩ : ∃ m, k = m + 1 := ⟨k - 1, by omega⟩
    have hsz : s.data.toList.length = s.size := rfl
    have hlt : x5 < s.data.toList.length := by omega
    have hw : wrap64 ((x5 : Int) + 1) = ((x5 + 1 : Nat) : Int) := by unfold wrap64; omega
    have hb := bt_nat s x5 hlt
    simp only [retiaryref02_Words.l0]
    rw [if_pos (by omega), if_neg (by omega), if_pos (by omega), if_pos (by omega), hb, hw]
    by_cases h : s.data.toList[x5] = 32
    · rw [if_pos (by rw [h]; rfl), if_pos (by omega), if_pos (by omega), if_pos (by omega)]
      rw [words_loop s hs d (x5 + 1) (x5 + 1) _ k (by omega) (by omega) (by omega) (by simp; omega) (fun j h1 h2 => by omega) (by omega)]
      simp only [Int.toNat_natCast]
      have hsplit : s.data.toList.drop x4 = (s.data.toList.drop x4).take (x5 - x4) ++ 32 :: s.data.toList.drop (x5 + 1) := by
        conv => lhs; rw [← List.take_append_drop (x5 - x4) (s.data.toList.drop x4)]
        rw [List.drop_drop, show x4 + (x5 - x4) = x5 by omega, List.drop_eq_getElem_cons hlt, h]
      have h32 : (32 : UInt8) ∉ (s.data.toList.drop x4).take (x5 - x4) := fun hm => by
        obtain ⟨j, hj⟩ := List.mem_iff_getElem?.1 hm
        rw [List.getElem?_take] at hj
        split at hj
        · rename_i hjl
          rw [List.getElem?_drop] at hj
          exact hno (x4 + j) (by omega) (by omega) hj
        · cases hj
      rw [extract_str]
      conv => rhs; rw [hsplit, words_app h32]
      simp
    · rw [if_neg (fun e => h (by apply UInt8.toNat_inj.1; rw [show (32 : UInt8).toNat = 32 from rfl]; omega))]
      refine words_loop s hs d (x5 + 1) x4 acc k (by omega) (by omega) (by omega) (by omega) (fun j h1 h2 => ?_) (by omega)
      by_cases e : j = x5
      · subst e
        rw [List.getElem?_eq_getElem hlt]
        exact fun e => h (Option.some.inj e)
      · exact hno j h1 (by omega)
theorem refWords (s : ByteArray) (hs : s.size ≤ 1000) : retiaryref02_Words.f (s.size + 2) s = some (pieces s) := by
  have := words_loop s hs s.size 0 0 [] (s.size + 2) (by omega) (by omega) (by omega) (by simp) (fun j h1 h2 => by omega) (by omega)
  unfold retiaryref02_Words.f pieces
  simpa using this
theorem num_step (acc b : Nat) (ha : acc < 1000000000) (h1 : 48 ≤ b) (h2 : b ≤ 57) : wrap64 (wrap64 ((acc : Int) * 10) + ((b : Int) - 48) % 256) = ((acc * 10 + (b - 48) : Nat) : Int) := by
  have e1 : ((b : Int) - 48) % 256 = ((b - 48 : Nat) : Int) := by omega
  have e2 : wrap64 ((acc : Int) * 10) = ((acc * 10 : Nat) : Int) := by unfold wrap64; omega
  rw [e1, e2]
  unfold wrap64
  omega
theorem number_loop (s : ByteArray) (hs : s.size ≤ 9) (d : Nat) : ∀ (i : Nat) (acc : Nat) (k : Nat), s.size - i = d → i ≤ s.size → acc < 10 ^ i → d + 1 ≤ k →
    retiaryref02_Number.l0 k s (acc : Int) (i : Int) = some (match decFrom acc (s.data.toList.drop i) with | some m => (m : Int) | none => -1) := by
  have hsz : s.data.toList.length = s.size := rfl
  induction d with
  | zero =>
    intro i acc k hd hi hacc hk
    obtain ⟨k, rfl⟩ : ∃ m, k = m + 1 := ⟨k - 1, by omega⟩
    simp only [retiaryref02_Number.l0]
    rw [if_neg (by omega), List.drop_of_length_le (by omega)]
    rfl
  | succ d ih =>
    intro i acc k hd hi hacc hk
    obtain ⟨k, rfl⟩ : ∃ m, k = m + 1 := ⟨k - 1, by omega⟩
    have hlt : i < s.data.toList.length := by omega
    have hb := bt_nat s i hlt
    have ha : acc < 1000000000 := by
      have hp : 10 ^ i ≤ 10 ^ 9 := Nat.pow_le_pow_right (by omega) (by omega)
      exact Nat.lt_of_lt_of_le hacc hp
    have hw : wrap64 ((i : Int) + 1) = ((i + 1 : Nat) : Int) := by unfold wrap64; omega
    have hacc2 : ∀ x, x < 10 → acc * 10 + x < 10 ^ (i + 1) := fun x hx => by rw [Nat.pow_succ]; omega
    clear hacc
    simp only [retiaryref02_Number.l0]
    rw [if_pos (by omega), if_pos (by omega), hb, List.drop_eq_getElem_cons hlt, hw]
    generalize s.data.toList[i] = b
    simp only [decFrom, digitVal]
    by_cases h1 : 48 ≤ b.toNat
    · by_cases h2 : b.toNat ≤ 57
      · rw [if_neg (by omega), if_neg (by omega), if_pos ⟨h1, h2⟩, num_step acc b.toNat ha h1 h2]
        exact ih (i + 1) _ k (by omega) (by omega) (hacc2 _ (by omega)) (by omega)
      · rw [if_neg (by omega), if_pos (by omega), if_neg (by omega)]
    · rw [if_pos (by omega), if_neg (by omega)]
theorem refNumber (s : ByteArray) : retiaryref02_Number.f 20 s = some (number s.data.toList) := by
  have hsz : s.data.toList.length = s.size := rfl
  unfold retiaryref02_Number.f number
  have hj : ∀ b, retiaryref02_Number.j0 20 s b = if b = true then some (-1) else retiaryref02_Number.l0 19 s 0 0 := fun b => by simp only [retiaryref02_Number.j0]
  rw [ByteArray.toList_eq]
  by_cases h0 : s.data.toList = []
  · rw [if_pos h0, if_pos (.inl h0), hj, if_pos rfl]
  · rw [if_neg h0]
    by_cases h9 : 9 < s.size
    · rw [if_pos (by omega), if_pos (.inr (.inl (by omega))), hj, if_pos rfl]
    · rw [if_neg (by omega)]
      have hl := number_loop s (by omega) s.size 0 0 19 (by omega) (by omega) (by decide) (by omega)
      rw [show ((0 : Nat) : Int) = 0 from rfl, List.drop_zero] at hl
      by_cases h1 : 1 < s.size
      · rw [if_pos (by omega), if_pos (by omega), hj]
        have hb := bt_nat s 0 (by omega)
        rw [show ((0 : Nat) : Int) = 0 from rfl] at hb
        have hh : s.data.toList.head? = some s.data.toList[0] := by
          rw [List.head?_eq_getElem?, List.getElem?_eq_getElem (by omega)]
        rw [hb, hh]
        by_cases h48 : s.data.toList[0] = 48
        · rw [if_pos (by rw [h48]; rfl), if_pos (.inr (.inr ⟨by omega, by rw [h48]⟩))]
        · have hne : ¬ ((s.data.toList[0].toNat : Int) == 48) = true := fun e => h48 (by
            have := beq_iff_eq.1 e
            apply UInt8.toNat_inj.1
            rw [show (48 : UInt8).toNat = 48 from rfl]
            omega)
          rw [if_neg hne, if_neg, hl]
          · rfl
          · rintro (h | h | h)
            · exact h0 h
            · omega
            · exact h48 (Option.some.inj h.2)
      · rw [if_neg (by omega), hj, if_neg (by simp), if_neg, hl]
        · rfl
        · rintro (h | h | h)
          · exact h0 h
          · omega
          · omega
theorem refNumber_any (s : ByteArray) (w : World) : Calls Tryz.prog 84 #[.string s] w fun e w' => e = .returned (.int .i64 (number s.data.toList)) ∧ Below w.heap.size w w' := by
  refine (retiaryref02_Number.calls 20 s _ w (refNumber s)).mono ?_
  rintro e w' ⟨rfl, h⟩
  exact ⟨rfl, h.below⟩
def WordsPost (s : ByteArray) (w : World) (e : Ending) (w' : World) : Prop :=
  ∃ v, e = .returned v ∧ Kd.R Kd.string 9 w' w.heap.size (fun _ => True) v (pieces s) ∧ Below w.heap.size w w'
theorem refWords_any (s : ByteArray) (hs : s.size ≤ 1000) (w : World) : Calls Tryz.prog 40 #[.string s] w (WordsPost s w) :=
  retiaryref02_Words.calls _ s _ w (refWords s hs)
theorem idx_first : ∀ (ns : List (List UInt8)) (i : Nat) (s : List UInt8), ns[i]? = some s → (∀ j, j < i → ns[j]? ≠ some s) → ns.idxOf s = i
  | [], i, s, h, _ => by simp at h
  | x :: ns, 0, s, h, _ => by
    simp at h
    subst h
    simp
  | x :: ns, i + 1, s, h, hno => by
    have hx : x ≠ s := fun e => hno 0 (by omega) (by simp [e])
    rw [List.idxOf_cons]
    have : (x == s) = false := by simpa using hx
    rw [this]
    simp only [cond_false]
    rw [idx_first ns i s (by simpa using h) (fun j hj => by simpa using hno (j + 1) (by omega))]
theorem find_loop (ns : List (List UInt8)) (hl : ns.length ≤ 1000000) (s : List UInt8) : ∀ (d i k : Nat), ns.length - i = d → i ≤ ns.length → (∀ j, j < i → ns[j]? ≠ some s) → d + 1 ≤ k →
    retiaryref01_Find.l0 k (str s) (ns.map str) (ns.length : Int) (i : Int) = some (findN ns s : Int)
  | 0, i, k, hd, hi, hno, hk => by
    obtain ⟨k, rfl⟩ : ∃ m, k = m + 1 := ⟨k - 1, by omega⟩
    simp only [retiaryref01_Find.l0]
    have hm : s ∉ ns := fun hm => by
      obtain ⟨j, hj⟩ := List.mem_iff_getElem?.1 hm
      have := (List.getElem?_eq_some_iff.1 hj).1
      exact hno j (by omega) hj
    rw [if_neg (by omega), findN, if_neg hm]
    rfl
  | d + 1, i, k, hd, hi, hno, hk => by
    obtain ⟨k, rfl⟩ : ∃ m, k = m + 1 := ⟨k - 1, by omega⟩
    have hlt : i < ns.length := by omega
    have hw : wrap64 ((i : Int) + 1) = ((i + 1 : Nat) : Int) := by unfold wrap64; omega
    have hr : rdOf ByteArray.empty (ns.map str) (i : Int) = str ns[i] := by simp [rdOf, hlt]
    simp only [retiaryref01_Find.l0]
    rw [if_pos (by omega), if_pos (by omega), if_pos (by rw [List.length_map]; omega), hr, hw, ByteArray.toList_eq, ByteArray.toList_eq]
    by_cases h : ns[i] = s
    · have e : ns[i]? = some s := by rw [List.getElem?_eq_getElem hlt, h]
      have hm : s ∈ ns := List.mem_of_getElem? e
      rw [if_pos (by simpa using h), findN, if_pos hm, idx_first ns i s e hno]
    · rw [if_neg (by simpa using h)]
      exact find_loop ns hl s d (i + 1) k (by omega) (by omega) (fun j hj => by
        by_cases e : j = i
        · subst e
          rw [List.getElem?_eq_getElem hlt]
          exact fun e => h (Option.some.inj e)
        · exact hno j (by omega)) (by omega)
theorem refFind (ns : List (List UInt8)) (hl : ns.length ≤ 1000000) (s : List UInt8) (k : Nat) (hk : ns.length + 1 ≤ k) : retiaryref01_Find.f k (ns.map str) (str s) = some (findN ns s : Int) := by
  unfold retiaryref01_Find.f
  rw [List.length_map]
  exact find_loop ns hl s ns.length 0 k (by omega) (by omega) (fun j h => by omega) hk
/-- A row of names of the document's. -/
def DN (n : Nat) (P : Nat → Prop) (w : World) (v : Value) (ns : List (List UInt8)) : Prop := Kd.R Kd.string 9 w n P v (ns.map str)
theorem DN.below {n : Nat} {P : Nat → Prop} {w W : World} {v : Value} {ns : List (List UInt8)} (h : DN n P w v ns) (hb : Below w.heap.size w W) : DN n P W v ns := Kd.R_below h hb
theorem DN.mono {n : Nat} {P Q : Nat → Prop} {w : World} {v : Value} {ns : List (List UInt8)} (h : DN n P w v ns) (hp : ∀ b, P b → Q b) : DN n Q w v ns := Kd.R_mono h hp
theorem DN.step {n : Nat} {P : Nat → Prop} {w W : World} {v : Value} {ns : List (List UInt8)} (h : DN n P w v ns) (hb : ∀ b, P b → b < w.heap.size → W.heap[b]? = w.heap[b]?) : DN n P W v ns := Kd.R_step h hb
theorem DN.reads {n : Nat} {P : Nat → Prop} {w : World} {v : Value} {ns : List (List UInt8)} (h : DN n P w v ns) : ∃ A c, v = .slice A ns.length c ∧ ns.length ≤ c ∧ Kd.C Kd.string w A ns.length (ns.map str) := by
  obtain ⟨A, c, h1, h2, h3⟩ := Kd.R_reads h
  rw [List.length_map] at h1 h2 h3
  exact ⟨A, c, h1, h2, h3⟩
theorem right_loop (s : ByteArray) (hs : s.size ≤ 100000) : ∀ (d i k : Nat), s.size - i = d → i ≤ s.size → d + 1 ≤ k → (∀ j (_ : j < s.size), j < i → okN s[j].toNat = true) →
    retiaryref01_Right.l0 k s (i : Int) = some (s.data.toList.all fun b => okN b.toNat)
  | 0, i, k, hd, hi, hk, hall => by
    obtain ⟨k, rfl⟩ : ∃ m, k = m + 1 := ⟨k - 1, by omega⟩
    simp only [retiaryref01_Right.l0]
    rw [if_neg (by omega), all_at (fun j hj => hall j hj (by omega))]
  | d + 1, i, k, hd, hi, hk, hall => by
    obtain ⟨k, rfl⟩ : ∃ m, k = m + 1 := ⟨k - 1, by omega⟩
    have hsz : s.data.toList.length = s.size := rfl
    have hlt : i < s.data.toList.length := by omega
    have hw : wrap64 ((i : Int) + 1) = ((i + 1 : Nat) : Int) := by unfold wrap64; omega
    have hb := bt_nat s i hlt
    have ih := fun h => right_loop s hs d (i + 1) k (by omega) (by omega) (by omega) h
    simp only [retiaryref01_Right.l0]
    rw [if_pos (by omega), if_pos (by omega), hb, hw]
    by_cases hok : okN s.data.toList[i].toNat = true
    · have ih := ih (fun j hj hl => by
        by_cases e : j = i
        · subst e; exact hok
        · exact hall j hj (by omega))
      rw [ih]
      unfold okN at hok
      simp only [Bool.or_eq_true, Bool.and_eq_true, decide_eq_true_eq] at hok
      generalize s.data.toList[i].toNat = n at hok
      repeat' split
      all_goals first | rfl | (exfalso; omega)
    · have hf : (s.data.toList.all fun b => okN b.toNat) = false := by
        rw [List.all_eq_false]
        exact ⟨s.data.toList[i], List.getElem_mem hlt, hok⟩
      rw [hf]
      unfold okN at hok
      simp only [Bool.or_eq_true, Bool.and_eq_true, decide_eq_true_eq] at hok
      generalize retiaryref01_Right.l0 k s _ = x
      generalize s.data.toList[i].toNat = n at hok
      repeat' split
      all_goals first | rfl | (exfalso; omega)
theorem refRight (s : List UInt8) (hs : s.length ≤ 100000) (k : Nat) (hk : s.length + 2 ≤ k) : retiaryref01_Right.f k (str s) = some (rightName (str s)) := by
  obtain ⟨k, rfl⟩ : ∃ m, k = m + 1 := ⟨k - 1, by omega⟩
  have hsz := str_size s
  have hl := right_loop (str s) (by omega) (str s).size 0 k (by omega) (by omega) (by omega) (fun j _ h => by omega)
  rw [show ((0 : Nat) : Int) = 0 from rfl] at hl
  unfold retiaryref01_Right.f rightName
  by_cases h1 : (str s).size < 1
  · rw [if_pos (by omega), decide_eq_false (show ¬ 1 ≤ (str s).size by omega)]
    simp [retiaryref01_Right.j0]
  · rw [if_neg (by omega), decide_eq_true (show 1 ≤ (str s).size by omega)]
    by_cases h2 : (str s).size > 32
    · rw [decide_eq_true (show ((str s).size : Int) > 32 by omega), decide_eq_false (show ¬ (str s).size ≤ 32 by omega)]
      simp [retiaryref01_Right.j0]
    · rw [decide_eq_false (show ¬ ((str s).size : Int) > 32 by omega), decide_eq_true (show (str s).size ≤ 32 by omega)]
      simp only [retiaryref01_Right.j0]
      rw [if_neg (by simp), hl]
      simp
theorem refIntern (ns : List (List UInt8)) (hl : ns.length ≤ 1000000) (s : List UInt8) (hs : s.length ≤ 100000) : ∃ r2 r3, retiaryref01_Intern.f (ns.length + s.length + 2) (ns.map str) (str s) = some ((internN ns s).map str, r2, r3) := by
  unfold retiaryref01_Intern.f
  rw [refRight s hs _ (by omega), refFind ns hl s _ (by omega)]
  simp only [Option.bind_some]
  by_cases hr : rightName (str s) = true
  · rw [if_pos hr]
    by_cases hm : s ∈ ns
    · have : 0 < findN ns s := by unfold findN; rw [if_pos hm]; omega
      have e : internN ns s = ns := by
        unfold internN
        split
        · exact addN_old hm
        · rfl
      rw [if_pos (by omega), e]
      exact ⟨_, _, rfl⟩
    · have h0 : findN ns s = 0 := by unfold findN; rw [if_neg hm]
      rw [h0, if_neg (by decide)]
      by_cases hf : ns.length < 4096
      · have e : internN ns s = ns ++ [s] := by unfold internN addN; rw [if_pos ⟨hr, hf⟩, if_neg hm]
        rw [e, if_neg (by simp; omega), if_pos (by simp; omega)]
        simp only [List.nil_append]
        rw [if_pos (by simp; omega)]
        exact ⟨((ns.length : Int) + 1), 0, by simp⟩
      · have e : internN ns s = ns := by unfold internN; rw [if_neg (fun h => hf h.2)]
        rw [e, if_pos (by simp; omega)]
        exact ⟨_, _, rfl⟩
  · have e : internN ns s = ns := by unfold internN; rw [if_neg (fun h => hr h.1)]
    rw [if_neg hr, e]
    exact ⟨_, _, rfl⟩
/-- The document's Intern. -/
theorem rintern_walk {n : Nat} {P : Nat → Prop} {w0 w : World} {v : Value} {ns : List (List UInt8)} (hw : n = w0.heap.size) (hB : Below w0.heap.size w0 w) (h : DN n P w v ns) (hl : ns.length ≤ 1000000) (s : List UInt8) (hs : s.length ≤ 100000) :
    Calls Tryz.prog 26 #[v, .string (str s)] w fun e W => ∃ u r2 r3, e = .returned (.tuple #[u, .int .i64 r2, .int .i64 r3]) ∧ DN n (New w P) W u (internN ns s) ∧ Below n w0 W ∧ Kept w W P := by
  subst hw
  obtain ⟨r2, r3, hf⟩ := refIntern ns hl s hs
  refine (retiaryref01_Intern.calls _ P v (ns.map str) (str s) _ r2 r3 w0 w hB h hf).mono ?_
  rintro e W ⟨u, h1, h2, h3, h4⟩
  exact ⟨u, r2, r3, h1, h2, h3, h4⟩
end Go.Proofs.YtkbkkceeolclmaaGreatDoor.X
