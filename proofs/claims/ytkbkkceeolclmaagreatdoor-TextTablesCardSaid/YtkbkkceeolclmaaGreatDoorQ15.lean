/- What the document's small functions answer, in plain words. -/
import Derived.Test.YtkbkkceeolclmaaGreatDoorQ06
import Derived.Test.YtkbkkceeolclmaaGreatDoorQ14
set_option linter.unusedVariables false
set_option linter.unusedSimpArgs false
namespace Go.Proofs.YtkbkkceeolclmaaGreatDoor.X
open Go.RowKit Go.TX Go.Lib Go.Proofs.YtkbkkceeolclmaaGreatDoorW.PrintWords Go.Proofs.YtkbkkceeolclmaaGreatDoor.PD
theorem bt_nat (s : ByteArray) (i : Nat) (h : i < s.data.toList.length) : bt s (i : Int) = (s.data.toList[i].toNat : Int) := by
  unfold bt
  rw [dif_pos (by simpa using h)]
  rfl
theorem one_digit (d : Nat) (h : d < 10) : strOfNums [(wrap64 (48 + (d : Int))) % 256] = str [UInt8.ofNat (48 + d)] := by
  have e : (wrap64 (48 + (d : Int))) % 256 = ((48 + d : Nat) : Int) := by unfold wrap64; omega
  rw [e]
  obtain rfl | rfl | rfl | rfl | rfl | rfl | rfl | rfl | rfl | rfl : d = 0 ∨ d = 1 ∨ d = 2 ∨ d = 3 ∨ d = 4 ∨ d = 5 ∨ d = 6 ∨ d = 7 ∨ d = 8 ∨ d = 9 := by omega
  all_goals rfl
theorem digits_eq : ∀ (k n : Nat), 1 ≤ k → n < 10 ^ k → n < 1000000000 → retiaryref02_Digits.f k (n : Int) = some (str (decDigits n))
  | 0, _, h, _, _ => by omega
  | k + 1, n, _, hn, hs => by
    by_cases h10 : n < 10
    · simp only [retiaryref02_Digits.f]
      rw [if_pos (by omega), one_digit n h10, decDigits_one h10]
    · have hk : 1 ≤ k := by
        rcases Nat.eq_zero_or_pos k with rfl | h
        · simp at hn; omega
        · exact h
      have ih := digits_eq k (n / 10) hk (by rw [Nat.pow_succ] at hn; omega) (by omega)
      have e1 : wrap64 (Int.tdiv (n : Int) 10) = ((n / 10 : Nat) : Int) := by
        rw [Int.tdiv_eq_ediv_of_nonneg (by omega)]; unfold wrap64; omega
      have e2 : Int.tmod (n : Int) 10 = ((n % 10 : Nat) : Int) := by
        rw [Int.tmod_eq_emod_of_nonneg (by omega)]; omega
      have hl := dd_len (n := n / 10) (by omega)
      simp only [retiaryref02_Digits.f]
      rw [if_neg (by omega), e1, ih, e2]
      simp only [Option.bind_some]
      rw [one_digit (n % 10) (by omega), if_pos (by rw [str_size, str_size]; simp; omega)]
      congr 1
      conv => rhs; rw [decDigits, dif_neg h10]
      apply ByteArray.ext
      simp [str]
theorem idx_first : ∀ (ns : List (List UInt8)) (i : Nat) (s : List UInt8), ns[i]? = some s → (∀ j, j < i → ns[j]? ≠ some s) → ns.idxOf s = i
  | [], i, s, h, _ => by simp at h
  | x :: ns, 0, s, h, _ => by
    simp at h
    subst h
    simp
  | x :: ns, i + 1, s, h, hno => by
    have hx : x ≠ s := fun e => hno 0 (by omega) (by simp [e])
    rw [List.idxOf_cons]
    have : (x == s) = false := by simpa using hx
    rw [this]
    simp only [cond_false]
    rw [idx_first ns i s (by simpa using h) (fun j hj => by simpa using hno (j + 1) (by omega))]
theorem find_loop (ns : List (List UInt8)) (hl : ns.length ≤ 1000000) (s : List UInt8) : ∀ (d i k : Nat), ns.length - i = d → i ≤ ns.length → (∀ j, j < i → ns[j]? ≠ some s) → d + 1 ≤ k →
    retiaryref01_Find.l0 k (str s) (ns.map str) (ns.length : Int) (i : Int) = some (findN ns s : Int)
  | 0, i, k, hd, hi, hno, hk => by
    obtain ⟨k, rfl⟩ : ∃ m, k = m + 1 := ⟨k - 1, by omega⟩
    simp only [retiaryref01_Find.l0]
    have hm : s ∉ ns := fun hm => by
      obtain ⟨j, hj⟩ := List.mem_iff_getElem?.1 hm
      have := (List.getElem?_eq_some_iff.1 hj).1
      exact hno j (by omega) hj
    rw [if_neg (by omega), findN, if_neg hm]
    rfl
  | d + 1, i, k, hd, hi, hno, hk => by
    obtain ⟨k, rfl⟩ : ∃ m, k = m + 1 := ⟨k - 1, by omega⟩
    have hlt : i < ns.length := by omega
    have hw : wrap64 ((i : Int) + 1) = ((i + 1 : Nat) : Int) := by unfold wrap64; omega
    have hr : rdOf ByteArray.empty (ns.map str) (i : Int) = str ns[i] := by simp [rdOf, hlt]
    simp only [retiaryref01_Find.l0]
    rw [if_pos (by omega), if_pos (by omega), if_pos (by rw [List.length_map]; omega), hr, hw, ByteArray.toList_eq, ByteArray.toList_eq]
    by_cases h : ns[i] = s
    · have e : ns[i]? = some s := by rw [List.getElem?_eq_getElem hlt, h]
      have hm : s ∈ ns := List.mem_of_getElem? e
      rw [if_pos (by simpa using h), findN, if_pos hm, idx_first ns i s e hno]
    · rw [if_neg (by simpa using h)]
      exact find_loop ns hl s d (i + 1) k (by omega) (by omega) (fun j hj => by
        by_cases e : j = i
        · subst e
          rw [List.getElem?_eq_getElem hlt]
          exact fun e => h (Option.some.inj e)
        · exact hno j (by omega)) (by omega)
theorem refFind (ns : List (List UInt8)) (hl : ns.length ≤ 1000000) (s : List UInt8) (k : Nat) (hk : ns.length + 1 ≤ k) : retiaryref01_Find.f k (ns.map str) (str s) = some (findN ns s : Int) := by
  unfold retiaryref01_Find.f
  rw [List.length_map]
  exact find_loop ns hl s ns.length 0 k (by omega) (by omega) (fun j h => by omega) hk
/-- A row of names of the document's. -/
def DN (n : Nat) (P : Nat → Prop) (w : World) (v : Value) (ns : List (List UInt8)) : Prop := Kd.R Kd.string 9 w n P v (ns.map str)
theorem DN.below {n : Nat} {P : Nat → Prop} {w W : World} {v : Value} {ns : List (List UInt8)} (h : DN n P w v ns) (hb : Below w.heap.size w W) : DN n P W v ns := Kd.R_below h hb
theorem DN.mono {n : Nat} {P Q : Nat → Prop} {w : World} {v : Value} {ns : List (List UInt8)} (h : DN n P w v ns) (hp : ∀ b, P b → Q b) : DN n Q w v ns := Kd.R_mono h hp
theorem DN.step {n : Nat} {P : Nat → Prop} {w W : World} {v : Value} {ns : List (List UInt8)} (h : DN n P w v ns) (hb : ∀ b, P b → b < w.heap.size → W.heap[b]? = w.heap[b]?) : DN n P W v ns := Kd.R_step h hb
theorem DN.reads {n : Nat} {P : Nat → Prop} {w : World} {v : Value} {ns : List (List UInt8)} (h : DN n P w v ns) : ∃ A c, v = .slice A ns.length c ∧ ns.length ≤ c ∧ Kd.C Kd.string w A ns.length (ns.map str) := by
  obtain ⟨A, c, h1, h2, h3⟩ := Kd.R_reads h
  rw [List.length_map] at h1 h2 h3
  exact ⟨A, c, h1, h2, h3⟩
theorem right_loop (s : ByteArray) (hs : s.size ≤ 100000) : ∀ (d i k : Nat), s.size - i = d → i ≤ s.size → d + 1 ≤ k → (∀ j (_ : j < s.size), j < i → okN s[j].toNat = true) →
    retiaryref01_Right.l0 k s (i : Int) = some (s.data.toList.all fun b => okN b.toNat)
  | 0, i, k, hd, hi, hk, hall => by
    obtain ⟨k, rfl⟩ : ∃ m, k = m + 1 := ⟨k - 1, by omega⟩
    simp only [retiaryref01_Right.l0]
    rw [if_neg (by omega), all_at (fun j hj => hall j hj (by omega))]
  | d + 1, i, k, hd, hi, hk, hall => by
    obtain ⟨k, rfl⟩ : ∃ m, k = m + 1 := ⟨k - 1, by omega⟩
    have hsz : s.data.toList.length = s.size := rfl
    have hlt : i < s.data.toList.length := by omega
    have hw : wrap64 ((i : Int) + 1) = ((i + 1 : Nat) : Int) := by unfold wrap64; omega
    have hb := bt_nat s i hlt
    have ih := fun h => right_loop s hs d (i + 1) k (by omega) (by omega) (by omega) h
    simp only [retiaryref01_Right.l0]
    rw [if_pos (by omega), if_pos (by omega), hb, hw]
    by_cases hok : okN s.data.toList[i].toNat = true
    · have ih := ih (fun j hj hl => by
        by_cases e : j = i
        · subst e; exact hok
        · exact hall j hj (by omega))
      rw [ih]
      unfold okN at hok
      simp only [Bool.or_eq_true, Bool.and_eq_true, decide_eq_true_eq] at hok
      generalize s.data.toList[i].toNat = n at hok
      repeat' split
      all_goals first | rfl | (exfalso; omega)
    · have hf : (s.data.toList.all fun b => okN b.toNat) = false := by
        rw [List.all_eq_false]
        exact ⟨s.data.toList[i], List.getElem_mem hlt, hok⟩
      rw [hf]
      unfold okN at hok
      simp only [Bool.or_eq_true, Bool.and_eq_true, decide_eq_true_eq] at hok
      generalize retiaryref01_Right.l0 k s _ = x
      generalize s.data.toList[i].toNat = n at hok
      repeat' split
      all_goals first | rfl | (exfalso; omega)
theorem refRight (s : List UInt8) (hs : s.length ≤ 100000) (k : Nat) (hk : s.length + 2 ≤ k) : retiaryref01_Right.f k (str s) = some (rightName (str s)) := by
  obtain ⟨k, rfl⟩ : ∃ m, k = m + 1 := ⟨k - 1, by omega⟩
  have hsz := str_size s
  have hl := right_loop (str s) (by omega) (str s).size 0 k (by omega) (by omega) (by omega) (fun j _ h => by omega)
  rw [show ((0 : Nat) : Int) = 0 from rfl] at hl
  unfold retiaryref01_Right.f rightName
  by_cases h1 : (str s).size < 1
  · rw [if_pos (by omega), decide_eq_false (show ¬ 1 ≤ (str s).size by omega)]
    simp [retiaryref01_Right.j0]
  · rw [if_neg (by omega), decide_eq_true (show 1 ≤ (str s).size by omega)]
    by_cases h2 : (str s).size > 32
    · rw [decide_eq_true (show ((str s).size : Int) > 32 by omega), decide_eq_false (show ¬ (str s).size ≤ 32 by omega)]
      simp [retiaryref01_Right.j0]
    · rw [decide_eq_false (show ¬ ((str s).size : Int) > 32 by omega), decide_eq_true (show (str s).size ≤ 32 by omega)]
      simp only [retiaryref01_Right.j0]
      rw [if_neg (by simp), hl]
      simp
theorem refIntern (ns : List (List UInt8)) (hl : ns.length ≤ 1000000) (s : List UInt8) (hs : s.length ≤ 100000) : ∃ r2 r3, retiaryref01_Intern.f (ns.length + s.length + 2) (ns.map str) (str s) = some ((internN ns s).map str, r2, r3) := by
  unfold retiaryref01_Intern.f
  rw [refRight s hs _ (by omega), refFind ns hl s _ (by omega)]
  simp only [Option.bind_some]
  by_cases hr : rightName (str s) = true
  · rw [if_pos hr]
    by_cases hm : s ∈ ns
    · have : 0 < findN ns s := by unfold findN; rw [if_pos hm]; omega
      have e : internN ns s = ns := by
        unfold internN
        split
        · exact addN_old hm
        · rfl
      rw [if_pos (by omega), e]
      exact ⟨_, _, rfl⟩
    · have h0 : findN ns s = 0 := by unfold findN; rw [if_neg hm]
      rw [h0, if_neg (by decide)]
      by_cases hf : ns.length < 4096
      · have e : internN ns s = ns ++ [s] := by unfold internN addN; rw [if_pos ⟨hr, hf⟩, if_neg hm]
        rw [e, if_neg (by simp; omega), if_pos (by simp; omega)]
        simp only [List.nil_append]
        rw [if_pos (by simp; omega)]
        exact ⟨((ns.length : Int) + 1), 0, by simp⟩
      · have e : internN ns s = ns := by unfold internN; rw [if_neg (fun h => hf h.2)]
        rw [e, if_pos (by simp; omega)]
        exact ⟨_, _, rfl⟩
  · have e : internN ns s = ns := by unfold internN; rw [if_neg (fun h => hr h.1)]
    rw [if_neg hr, e]
    exact ⟨_, _, rfl⟩
/-- The document's Intern. -/
theorem rintern_walk {n : Nat} {P : Nat → Prop} {w0 w : World} {v : Value} {ns : List (List UInt8)} (hw : n = w0.heap.size) (hB : Below w0.heap.size w0 w) (h : DN n P w v ns) (hl : ns.length ≤ 1000000) (s : List UInt8) (hs : s.length ≤ 100000) :
    Calls Tryz.prog 26 #[v, .string (str s)] w fun e W => ∃ u r2 r3, e = .returned (.tuple #[u, .int .i64 r2, .int .i64 r3]) ∧ DN n (New w P) W u (internN ns s) ∧ Below n w0 W ∧ Kept w W P := by
  subst hw
  obtain ⟨r2, r3, hf⟩ := refIntern ns hl s hs
  refine (retiaryref01_Intern.calls _ P v (ns.map str) (str s) _ r2 r3 w0 w hB h hf).mono ?_
  rintro e W ⟨u, h1, h2, h3, h4⟩
  exact ⟨u, r2, r3, h1, h2, h3, h4⟩
/-- The document's word of a term. -/
theorem refTerm (t : Tm) (ns : List (List UInt8)) (hl : ns.length ≤ 1000000) (h0 : t.1 = true → 0 ≤ t.2 ∧ t.2 ≤ 999999999) : retiaryref29_Term.f 10 (if t.1 then 1 else 0) t.2 (ns.map str) = some (str ((tword ns t).getD []), (tword ns t).isSome) := by
  obtain ⟨b, n⟩ := t
  unfold retiaryref29_Term.f tword
  cases b with
  | true =>
    obtain ⟨h1, h2⟩ := h0 rfl
    have e : ((n.toNat : Nat) : Int) = n := by simp at h1; omega
    have hd : retiaryref02_Digits.f 10 n = some (str (decDigits n.toNat)) := by
      have := digits_eq 10 n.toNat (by omega) (by simp at h2; omega) (by simp at h2; omega)
      rwa [e] at this
    have hdl := dd_len (n := n.toNat) (by simp at h2; omega)
    simp only [if_true]
    rw [hd]
    simp only [Option.bind_some]
    rw [if_pos (by rw [str_size]; omega)]
    simp
    apply ByteArray.ext
    simp [str]
  | false =>
    simp only [Bool.false_eq_true, if_false]
    rw [if_neg (by decide)]
    by_cases c1 : n < 1
    · rw [if_pos c1, if_neg (by omega)]
      rfl
    · rw [if_neg c1]
      by_cases c2 : n > ns.length
      · rw [if_pos (by rw [List.length_map]; exact c2), if_neg (by omega)]
        rfl
      · have hw : wrap64 (n - 1) = n - 1 := by unfold wrap64; omega
        rw [if_neg (by rw [List.length_map]; exact c2), hw, if_pos (by omega), if_pos (by rw [List.length_map]; omega), if_pos (by omega)]
        have hq : (n - 1).toNat < ns.length := by omega
        simp [rdOf]
        omega
theorem rterm_walk (t : Tm) (ns : List (List UInt8)) (hl : ns.length ≤ 1000000) (h0 : t.1 = true → 0 ≤ t.2 ∧ t.2 ≤ 999999999) (A : Option Addr) (c : Nat) (w : World) (hr : Kd.C Kd.string w A ns.length (ns.map str)) (hc : ns.length ≤ c) :
    Calls Tryz.prog 58 #[.agg #[evR t.1, .int .i64 t.2], .slice A ns.length c] w fun e W => e = .returned (.tuple #[.string (str ((tword ns t).getD [])), .bool (tword ns t).isSome]) ∧ Below w.heap.size w W := by
  have h := retiaryref29_Term.calls 10 (if t.1 then 1 else 0) t.2 A c (ns.map str) _ _ w (by rw [List.length_map]; exact hr) (by rw [List.length_map]; exact hc) (refTerm t ns hl h0)
  rw [List.length_map] at h
  exact h
end Go.Proofs.YtkbkkceeolclmaaGreatDoor.X
