/- The texts of conditions, joined, are their words joined. How much is read of a text. Which words are variables' numbers. The condition of three words, as the program reads it. -/
import Derived.Test.YtkbkkceeolclmaaGreatDoorQ08
set_option linter.unusedVariables false
set_option linter.unusedSimpArgs false
namespace Go.TX
open Go.Lib
mutual
/-- A group has conditions in it. -/
def fullC : Cd → Prop
  | .mk k _ _ _ subs => (k = 3 → subs ≠ []) ∧ fullL subs
def fullL : List Cd → Prop
  | [] => True
  | x :: l => fullC x ∧ fullL l
end
mutual
theorem full_of_chk : ∀ (d : Int) (x : Cd), cchk d x = 0 → fullC x
  | d, .mk k a b c subs, h => by
    unfold cchk at h
    unfold fullC
    split at h
    · omega
    split at h
    · omega
    split at h
    · split at h
      · split at h
        · rename_i hs
          rw [show subs = [] by simpa using hs]
          exact ⟨fun e => by omega, trivial⟩
        · omega
      · omega
    · split at h
      · split at h
        · omega
        · rename_i hs
          exact ⟨fun _ e => hs (by rw [e]; rfl), fullL_of_chk (d + 1) subs h⟩
      · omega
theorem fullL_of_chk : ∀ (d : Int) (l : List Cd), cchkL d l = 0 → fullL l
  | _, [], _ => trivial
  | d, x :: l, h => by
    unfold cchkL at h
    split at h
    · rename_i h1; exact absurd h h1
    · rename_i h1
      exact ⟨full_of_chk d x (by simpa using h1), fullL_of_chk d l h⟩
end

/-- The words behind one another, a blank ahead of each. -/
def tail (l : List (List UInt8)) : List UInt8 := l.flatMap fun x => 32 :: x
theorem tail_app (a b : List (List UInt8)) : tail (a ++ b) = tail a ++ tail b := by simp [tail]
theorem tail_one (a : List UInt8) : tail [a] = 32 :: a := by simp [tail]
theorem tail_join {l : List (List UInt8)} (h : l ≠ []) : tail l = 32 :: join l := by
  cases l with
  | nil => exact absurd rfl h
  | cons a t => rw [join_cons]; simp [tail]
theorem cwords_ne (ns : List (List UInt8)) : ∀ (x : Cd) (ws), cwords ns x = some ws → ws ≠ []
  | .mk k a b c subs, ws, h => by
    unfold cwords at h
    split at h
    · obtain ⟨l, _, rfl⟩ := Option.map_eq_some_iff.1 h
      simp
    · split at h
      · cases h; simp
      · cases h
/-- The texts, one by one. -/
def ctexts (ns : List (List UInt8)) : List Cd → Option (List (List UInt8))
  | [] => some []
  | x :: l => match cwords ns x, ctexts ns l with
    | some a, some b => some (join a :: b)
    | _, _ => none
theorem ctexts_len {ns : List (List UInt8)} : ∀ {l : List Cd} {ts}, ctexts ns l = some ts → ts.length = l.length
  | [], ts, h => by cases h; rfl
  | x :: l, ts, h => by
    unfold ctexts at h
    split at h
    · rename_i a b _ h2
      cases h
      rw [List.length_cons, ctexts_len h2, List.length_cons]
    · cases h
theorem ctexts_snoc {ns : List (List UInt8)} {x : Cd} {a : List (List UInt8)} (hx : cwords ns x = some a) : ∀ {l : List Cd} {ts}, ctexts ns l = some ts → ctexts ns (l ++ [x]) = some (ts ++ [join a])
  | [], ts, h => by
    cases h
    simp [ctexts, hx]
  | y :: l, ts, h => by
    unfold ctexts at h
    split at h
    · rename_i u v h1 h2
      cases h
      have := ctexts_snoc hx h2
      simp [ctexts, h1, this]
    · cases h
theorem cwordsL_none {ns : List (List UInt8)} : ∀ {l : List Cd} {j : Nat} (hj : j < l.length), cwords ns l[j] = none → cwordsL ns l = none
  | x :: l, 0, _, h => by
    have h' : cwords ns x = none := h
    simp [cwordsL, h']
  | x :: l, j + 1, hj, h => by
    have := cwordsL_none (l := l) (by simpa using hj) (by simpa using h)
    simp only [cwordsL, this]
    split <;> simp_all
theorem ctexts_words {ns : List (List UInt8)} : ∀ {l : List Cd} {ts}, ctexts ns l = some ts → ∃ ws, cwordsL ns l = some ws ∧ tail ts = tail ws
  | [], ts, h => by
    cases h
    exact ⟨[], rfl, rfl⟩
  | x :: l, ts, h => by
    unfold ctexts at h
    split at h
    · rename_i a b h1 h2
      cases h
      obtain ⟨ws, h3, h4⟩ := ctexts_words h2
      refine ⟨a ++ ws, by simp [cwordsL, h1, h3], ?_⟩
      rw [tail_app, ← h4, tail_join (cwords_ne ns x a h1)]
      simp [tail]
    · cases h
theorem ctexts_join {ns : List (List UInt8)} {l : List Cd} {ts ws} (h : ctexts ns l = some ts) (hw : cwordsL ns l = some ws) (hl : l ≠ []) : join ts = join ws := by
  obtain ⟨ws', h1, h2⟩ := ctexts_words h
  rw [hw] at h1
  cases h1
  have hts : ts ≠ [] := fun e => by
    have := ctexts_len h
    rw [e] at this
    exact hl (List.length_eq_zero_iff.1 this.symm)
  have hws : ws ≠ [] := fun e => by
    rw [e, tail_join hts] at h2
    simp [tail] at h2
  rw [tail_join hts, tail_join hws] at h2
  exact (List.cons.inj h2).2
theorem cwords_three {ns : List (List UInt8)} {a b c : Tm} {subs : List Cd} {ws} (h : cwordsL ns subs = some ws) : cwords ns (.mk 3 a b c subs) = some ([45, 123] :: (ws ++ [[125]])) := by
  simp [cwords, h]
theorem join_group {ws : List (List UInt8)} : join ([45, 123] :: (ws ++ [[125]])) = [45, 123] ++ tail ws ++ [32, 125] := by
  rw [join_cons]
  simp [tail]
/-- How long texts are. -/
theorem tword_len {ns : List (List UInt8)} (hN : ∀ s ∈ ns, s.length ≤ 32) {t : Tm} (h0 : t.1 = true → t.2 < 1000000000) {w : List UInt8} (h : tword ns t = some w) : w.length ≤ 32 := by
  unfold tword at h
  split at h
  · rename_i ht
    cases h
    have := dd_len (n := t.2.toNat) (by have := h0 ht; omega)
    simp
    omega
  · split at h
    · exact hN w (List.mem_of_getElem? h)
    · cases h
theorem tm_small {t : Tm} (h : tmRight t = true) : 1 ≤ t.2 ∧ t.2 ≤ 4096 := by
  unfold tmRight at h
  simp only [Bool.and_eq_true, decide_eq_true_eq] at h
  split at h <;> omega
mutual
theorem cwords_len {ns : List (List UInt8)} (hN : ∀ s ∈ ns, s.length ≤ 32) : ∀ (x : Cd) (ws), goodC x → cwords ns x = some ws → (tail ws).length ≤ 110 * csize x
  | .mk k a b c subs, ws, hg, h => by
    unfold cwords at h
    unfold goodC at hg
    split at h
    · rename_i hk
      obtain ⟨l, h1, rfl⟩ := Option.map_eq_some_iff.1 h
      have := cwordsL_len hN subs l (hg.elim (fun q => absurd hk (by omega)) (fun q => q.2.2.2.2)) h1
      simp only [csize]
      rw [show [45, 123] :: (l ++ [[125]]) = [[45, 123]] ++ l ++ [[125]] by simp, tail_app, tail_app]
      simp [tail_one]
      omega
    · split at h
      · rename_i x y z h1 h2 h3
        cases h
        rcases hg with hg | hg
        · have l1 := tword_len hN (fun _ => by have := tm_small hg.2.1; omega) h1
          have l2 := tword_len hN (fun _ => by have := tm_small hg.2.2.1; omega) h2
          have l3 := tword_len hN (fun _ => by have := tm_small hg.2.2.2.1; omega) h3
          simp only [csize]
          simp [tail]
          split <;> simp <;> omega
        · omega
      · cases h
theorem cwordsL_len {ns : List (List UInt8)} (hN : ∀ s ∈ ns, s.length ≤ 32) : ∀ (l : List Cd) (ws), goodL l → cwordsL ns l = some ws → (tail ws).length ≤ 110 * csizeL l
  | [], ws, _, h => by
    unfold cwordsL at h
    cases h
    simp [tail]
  | x :: l, ws, hg, h => by
    unfold cwordsL at h
    split at h
    · rename_i a b h1 h2
      cases h
      have l1 := cwords_len hN x a hg.1 h1
      have l2 := cwordsL_len hN l b hg.2 h2
      rw [tail_app, List.length_append]
      simp only [csizeL]
      omega
    · cases h
end
end Go.TX
namespace Go.TX
theorem words_tail (s : List UInt8) : tail (words s) = 32 :: s := by
  rw [tail_join (words_ne s), join_words]
theorem tail_len_ge : ∀ (l : List (List UInt8)), l.length ≤ (tail l).length ∧ ∀ x ∈ l, x.length + 1 ≤ (tail l).length
  | [] => by simp
  | a :: l => by
    have ih := tail_len_ge l
    have e : tail (a :: l) = 32 :: a ++ tail l := by simp [tail]
    rw [e]
    simp only [List.length_append, List.length_cons]
    refine ⟨by omega, fun x hx => ?_⟩
    rcases List.mem_cons.1 hx with rfl | hx
    · omega
    · have := ih.2 x hx
      omega
theorem words_bound (s : List UInt8) : (words s).length ≤ s.length + 1 ∧ ∀ x ∈ words s, x.length ≤ s.length := by
  have h := tail_len_ge (words s)
  rw [words_tail, List.length_cons] at h
  exact ⟨h.1, fun x hx => by have := h.2 x hx; omega⟩
theorem pthree_size {ns n1 : List (List UInt8)} {x y z : List UInt8} {c : Cd} (h : pthree ns x y z = some (n1, c)) : csize c = 1 := by
  unfold pthree at h
  split at h
  · split at h
    · split at h
      · split at h
        · cases h
          simp [csize, csizeL]
        · cases h
      · cases h
    · cases h
  · cases h
theorem pconds_size : ∀ (n : Nat) (inner : Bool) (l : List (List UInt8)) (ns n1 : List (List UInt8)) (out : List Cd) (r : List (List UInt8)), pconds n inner l ns = some (n1, out, r) → csizeL out + r.length ≤ l.length
  | 0, _, _, _, _, _, _, h => by simp [pconds] at h
  | n + 1, inner, [], ns, n1, out, r, h => by
    unfold pconds at h
    split at h
    · cases h
    · cases h
      simp [csizeL]
  | n + 1, inner, w :: l, ns, n1, out, r, h => by
    unfold pconds at h
    split at h
    · split at h
      · cases h
        simp [csizeL]
      · cases h
    · split at h
      · split at h
        · rename_i m1 subs r1 h1
          split at h
          · rename_i m2 out2 r2 h2
            cases h
            have a := pconds_size n true l ns m1 subs r1 h1
            have b := pconds_size n inner r1 m1 n1 out2 r h2
            simp only [csizeL, csize, List.length_cons]
            omega
          · cases h
        · cases h
      · split at h
        · rename_i y z r1
          split at h
          · rename_i m1 c h1
            split at h
            · rename_i m2 out2 r2 h2
              cases h
              have a := pthree_size h1
              have b := pconds_size n inner r1 m1 n1 out2 r h2
              simp only [csizeL, List.length_cons]
              omega
            · cases h
          · cases h
        · cases h
end Go.TX
namespace Go.TX
open Go.Lib
def okNum (v : List UInt8) : Bool := decide (v ≠ []) && decide (v.length ≤ 9) && decide (v.head? ≠ some 48) && v.all fun b => decide (48 ≤ b.toNat) && decide (b.toNat ≤ 57)
theorem okNum_iff (v : List UInt8) : okNum v = true ↔ v ≠ [] ∧ v.length ≤ 9 ∧ v.head? ≠ some 48 ∧ ∀ b ∈ v, 48 ≤ b.toNat ∧ b.toNat ≤ 57 := by
  unfold okNum
  simp only [Bool.and_eq_true, decide_eq_true_eq, List.all_eq_true]
  constructor
  · rintro ⟨⟨⟨a, b⟩, c⟩, d⟩
    exact ⟨a, b, c, d⟩
  · rintro ⟨a, b, c, d⟩
    exact ⟨⟨⟨a, b⟩, c⟩, d⟩
theorem decFrom_some : ∀ (l : List UInt8) (acc : Nat), (∀ b ∈ l, 48 ≤ b.toNat ∧ b.toNat ≤ 57) → ∃ m, decFrom acc l = some m
  | [], acc, _ => ⟨acc, rfl⟩
  | b :: l, acc, h => by
    have hb := h b (by simp)
    simp only [decFrom, digitVal]
    rw [if_pos hb]
    exact decFrom_some l _ (fun x hx => h x (by simp [hx]))
/-- A right one is a number from 1 on. -/
theorem num_of_ok {v : List UInt8} (h : okNum v = true) : 1 ≤ number v ∧ number v < 1000000000 ∧ atoiAll v = .ok (number v) := by
  obtain ⟨h1, h2, h3, h4⟩ := (okNum_iff v).1 h
  obtain ⟨m, hm⟩ := decFrom_some v 0 h4
  have hn : number v = (m : Int) := by
    unfold number
    rw [if_neg, hm]
    rintro (q | q | q)
    · exact h1 q
    · omega
    · exact h3 q.2
  obtain ⟨hv, hlt⟩ := number_some hn
  have hm1 : m ≠ 0 := by
    rintro rfl
    rw [hv] at h3
    exact h3 (by rw [decDigits_one (by omega)]; decide)
  refine ⟨by omega, by omega, ?_⟩
  rw [hn]
  conv => lhs; rw [hv]
  exact atoi_dd hlt
/-- No other is. -/
theorem ok_of_num {v : List UInt8} (h : 1 ≤ number v) : okNum v = true := by
  obtain ⟨m, hm⟩ : ∃ m : Nat, number v = m := ⟨(number v).toNat, by omega⟩
  obtain ⟨hv, hlt⟩ := number_some hm
  rw [okNum_iff]
  have hl := dd_len hlt
  refine ⟨by rw [hv]; exact dd_ne m, by rw [hv]; exact hl, ?_, fun b hb => dd_mem m b (hv ▸ hb)⟩
  rw [hv]
  by_cases h1 : 1 < (decDigits m).length
  · exact dd_head m h1
  · have hm10 : m < 10 := by
      apply Classical.byContradiction
      intro hge
      have e : decDigits m = decDigits (m / 10) ++ [UInt8.ofNat (48 + m % 10)] := by
        conv => lhs; rw [decDigits, dif_neg (by omega)]
      have := dd_ne (m / 10)
      rw [e, List.length_append, List.length_singleton] at h1
      exact this (List.length_eq_zero_iff.1 (by omega))
    have : m = 1 ∨ m = 2 ∨ m = 3 ∨ m = 4 ∨ m = 5 ∨ m = 6 ∨ m = 7 ∨ m = 8 ∨ m = 9 := by omega
    rcases this with rfl | rfl | rfl | rfl | rfl | rfl | rfl | rfl | rfl <;> (rw [decDigits_one (by omega)]; decide)
/-- A word's term, as the program reads it: false: it is none. -/
def termP (ns fr : List (List UInt8)) (s : List UInt8) : (Tm × Bool) × List (List UInt8) :=
  if s.head? = some 63 then (if okNum s.tail then (((true, number s.tail), true), fr) else (((false, 0), false), fr))
  else (((false, if rightName (str s) then ((findN (addN (ns ++ fr) s) s : Nat) : Int) else 0), rightName (str s)), if rightName (str s) then (if s ∈ ns ++ fr then fr else fr ++ [s]) else fr)
theorem termP_pterm (ns fr : List (List UInt8)) (s : List UInt8) : pterm (ns ++ fr) s = if (termP ns fr s).1.2 then some (ns ++ (termP ns fr s).2, (termP ns fr s).1.1) else none := by
  unfold termP
  by_cases h : s.head? = some 63
  · rw [if_pos h]
    obtain ⟨v, rfl⟩ : ∃ v, s = 63 :: v := by
      cases s with
      | nil => cases h
      | cons a t => cases h; exact ⟨t, rfl⟩
    by_cases hv : okNum v = true
    · have h1 := (num_of_ok hv).1
      simp [pterm, hv, h1]
    · have h1 : ¬ 1 ≤ number v := fun q => hv (ok_of_num q)
      simp [pterm, hv, h1]
  · rw [if_neg h]
    have hp : pterm (ns ++ fr) s = (psym (ns ++ fr) s).map fun p => (p.1, (false, p.2)) := by
      unfold pterm
      split
      · exact absurd rfl h
      · rfl
    rw [hp]
    unfold psym
    cases hr : rightName (str s) with
    | false => simp
    | true =>
      simp only [if_true, Option.map_some]
      congr 2
      unfold addN
      split <;> simp
theorem termP_len (ns fr : List (List UInt8)) (s : List UInt8) : (termP ns fr s).2.length ≤ fr.length + 1 := by
  unfold termP
  repeat' split
  all_goals simp
end Go.TX
namespace Go.TX
open Go.Lib
def dashW (x : List UInt8) : Int × List UInt8 := if x.head? = some 45 then (2, x.tail) else (1, x)
def openW (x : List UInt8) : List UInt8 := if x.head? = some 40 then x.tail else x
def shutW (z : List UInt8) : List UInt8 := if z.getLast? = some 41 then z.dropLast else z
theorem dashW_cut (x : List UInt8) : cutDash x = dashW x := by
  unfold dashW
  cases x with
  | nil => rfl
  | cons a t =>
    by_cases h : a = 45
    · subst h; rfl
    · rw [if_neg (by simpa using h)]
      unfold cutDash
      split
      · rename_i e
        cases e
        exact absurd rfl h
      · rfl
theorem openW_cut (x : List UInt8) : cutOpen x = if x.head? = some 40 then some (openW x) else none := by
  unfold openW
  cases x with
  | nil => rfl
  | cons a t =>
    by_cases h : a = 40
    · subst h; rfl
    · rw [if_neg (by simpa using h)]
      unfold cutOpen
      split
      · rename_i e
        cases e
        exact absurd rfl h
      · rfl
theorem shutW_cut (z : List UInt8) : cutShut z = if z.getLast? = some 41 then some (shutW z) else none := by
  unfold cutShut shutW
  split <;> rename_i h <;> simp [h]
theorem pthree_of {ns fr f1 f2 f3 : List (List UInt8)} {x y z : List UInt8} {a b c : Tm} {ia ib ic : Bool} (h0 : termP ns fr (openW (dashW x).2) = ((a, ia), f1)) (h1 : termP ns f1 y = ((b, ib), f2)) (h2 : termP ns f2 (shutW z) = ((c, ic), f3)) :
    pthree (ns ++ fr) x y z = if ((((decide ((dashW x).2.head? = some 40) && decide (z.getLast? = some 41)) && ia) && ib) && ic) = true then some (ns ++ f3, .mk (dashW x).1 a b c []) else none := by
  have e0 := termP_pterm ns fr (openW (dashW x).2)
  have e1 := termP_pterm ns f1 y
  have e2 := termP_pterm ns f2 (shutW z)
  rw [h0] at e0
  rw [h1] at e1
  rw [h2] at e2
  unfold pthree
  rw [dashW_cut, openW_cut, shutW_cut]
  by_cases c1 : (dashW x).2.head? = some 40
  · by_cases c2 : z.getLast? = some 41
    · rw [if_pos c1, if_pos c2, decide_eq_true c1, decide_eq_true c2]
      simp only [e0]
      cases ia with
      | false => simp
      | true =>
        simp only [if_true, e1]
        cases ib with
        | false => simp
        | true =>
          simp only [if_true, e2]
          cases ic with
          | false => simp
          | true => simp
    · rw [if_pos c1, if_neg c2, decide_eq_false c2]
      simp
  · rw [if_neg c1, decide_eq_false c1]
    simp
end Go.TX
