/- A text that was written with one table, read with another one, plain. -/
import Derived.Test.YtkbkkceeolclmaaGreatDoorQ10
set_option linter.unusedVariables false
set_option linter.unusedSimpArgs false
namespace Go.TX
open Go.Lib
/-- Terms that differ in their symbols alone. -/
def simT (t u : Tm) : Prop := t = u ∨ (t.1 = false ∧ u.1 = false ∧ 1 ≤ t.2 ∧ 1 ≤ u.2)
mutual
def simC : Cd → Cd → Prop
  | .mk k a b c s, .mk k' a' b' c' s' => k = k' ∧ simT a a' ∧ simT b b' ∧ simT c c' ∧ simL s s'
def simL : List Cd → List Cd → Prop
  | [], [] => True
  | x :: l, y :: m => simC x y ∧ simL l m
  | _, _ => False
end
theorem findN_pos (ms : List (List UInt8)) (w : List UInt8) : (1 : Int) ≤ (findN (addN ms w) w : Int) := by
  unfold findN
  rw [if_pos (addN_mem ms w)]
  omega
theorem pterm_any {ns n1 : List (List UInt8)} {w : List UInt8} {t : Tm} (h : pterm ns w = some (n1, t)) (ms : List (List UInt8)) : ∃ m1 u, pterm ms w = some (m1, u) ∧ simT t u ∧ m1.length ≤ ms.length + 1 := by
  unfold pterm at h ⊢
  split at h
  · split at h
    · rename_i h1
      cases h
      exact ⟨ms, _, by simp only [h1, if_true], .inl rfl, by omega⟩
    · cases h
  · rename_i hne
    unfold psym at h ⊢
    cases hr : rightName (str w) with
    | false => rw [hr] at h; simp at h
    | true =>
      rw [hr] at h
      simp only [if_true, Option.map_some, Option.some.injEq, Prod.mk.injEq] at h
      obtain ⟨rfl, rfl⟩ := h
      refine ⟨addN ms w, (false, (findN (addN ms w) w : Int)), ?_, .inr ⟨rfl, rfl, findN_pos ns w, findN_pos ms w⟩, addN_len ms w⟩
      simp only [if_true, Option.map_some]
theorem pthree_any {ns n1 : List (List UInt8)} {x y z : List UInt8} {c : Cd} (h : pthree ns x y z = some (n1, c)) (ms : List (List UInt8)) : ∃ m1 d, pthree ms x y z = some (m1, d) ∧ simC c d ∧ m1.length ≤ ms.length + 3 := by
  unfold pthree at h ⊢
  cases ho : cutOpen (cutDash x).2 with
  | none => rw [ho] at h; cases h
  | some u =>
  cases hs : cutShut z with
  | none => rw [ho, hs] at h; cases h
  | some v =>
  rw [ho, hs] at h
  simp only at h ⊢
  cases h1 : pterm ns u with
  | none => rw [h1] at h; cases h
  | some p1 =>
  obtain ⟨m1, a⟩ := p1
  rw [h1] at h
  simp only at h
  cases h2 : pterm m1 y with
  | none => rw [h2] at h; cases h
  | some p2 =>
  obtain ⟨m2, b⟩ := p2
  rw [h2] at h
  simp only at h
  cases h3 : pterm m2 v with
  | none => rw [h3] at h; cases h
  | some p3 =>
  obtain ⟨m3, d⟩ := p3
  rw [h3] at h
  simp only [Option.some.injEq, Prod.mk.injEq] at h
  obtain ⟨rfl, rfl⟩ := h
  obtain ⟨k1, a', e1, s1, l1⟩ := pterm_any h1 ms
  obtain ⟨k2, b', e2, s2, l2⟩ := pterm_any h2 k1
  obtain ⟨k3, d', e3, s3, l3⟩ := pterm_any h3 k2
  refine ⟨k3, .mk (cutDash x).1 a' b' d' [], ?_, ⟨rfl, s1, s2, s3, trivial⟩, by omega⟩
  simp only [e1, e2, e3]
theorem pconds_any : ∀ (n : Nat) (inner : Bool) (l : List (List UInt8)) (ns n1 : List (List UInt8)) (out : List Cd) (r : List (List UInt8)), pconds n inner l ns = some (n1, out, r) → ∀ ms, ∃ m1 out', pconds n inner l ms = some (m1, out', r) ∧ simL out out' ∧ m1.length ≤ ms.length + 3 * csizeL out
  | 0, _, _, _, _, _, _, h, _ => by simp [pconds] at h
  | n + 1, inner, [], ns, n1, out, r, h, ms => by
    unfold pconds at h ⊢
    split at h
    · cases h
    · cases h
      rename_i hi
      exact ⟨ms, [], by rw [if_neg hi], trivial, by omega⟩
  | n + 1, inner, w :: l, ns, n1, out, r, h, ms => by
    unfold pconds at h ⊢
    split at h
    · rename_i hw
      rw [if_pos hw]
      split at h
      · cases h
        rename_i hi
        exact ⟨ms, [], by rw [if_pos hi], trivial, by omega⟩
      · cases h
    rename_i hw
    rw [if_neg hw]
    split at h
    · rename_i hw2
      rw [if_pos hw2]
      cases h1 : pconds n true l ns with
      | none => rw [h1] at h; cases h
      | some p =>
        obtain ⟨m1, subs, r1⟩ := p
        rw [h1] at h
        simp only at h
        cases h2 : pconds n inner r1 m1 with
        | none => rw [h2] at h; cases h
        | some q =>
          obtain ⟨m2, out2, r2⟩ := q
          rw [h2] at h
          simp only [Option.some.injEq, Prod.mk.injEq] at h
          obtain ⟨rfl, rfl, rfl⟩ := h
          obtain ⟨k1, s1, e1, t1, l1⟩ := pconds_any n true l ns m1 subs r1 h1 ms
          obtain ⟨k2, s2, e2, t2, l2⟩ := pconds_any n inner r1 m1 m2 out2 r2 h2 k1
          refine ⟨k2, .mk 3 (false, 0) (false, 0) (false, 0) s1 :: s2, ?_, ⟨⟨rfl, .inl rfl, .inl rfl, .inl rfl, t1⟩, t2⟩, ?_⟩
          · simp only [e1, e2]
          · simp only [csizeL, csize]
            omega
    · rename_i hw2
      rw [if_neg hw2]
      match l, h with
      | [], h => cases h
      | [y], h => cases h
      | y :: z :: t, h =>
        simp only at h ⊢
        cases h1 : pthree ns w y z with
        | none => rw [h1] at h; cases h
        | some p =>
          obtain ⟨m1, c⟩ := p
          rw [h1] at h
          simp only at h
          cases h2 : pconds n inner t m1 with
          | none => rw [h2] at h; cases h
          | some q =>
            obtain ⟨m2, out2, r2⟩ := q
            rw [h2] at h
            simp only [Option.some.injEq, Prod.mk.injEq] at h
            obtain ⟨rfl, rfl, rfl⟩ := h
            obtain ⟨k1, d, e1, t1, l1⟩ := pthree_any h1 ms
            obtain ⟨k2, s2, e2, t2, l2⟩ := pconds_any n inner t m1 m2 out2 r2 h2 k1
            refine ⟨k2, d :: s2, ?_, ⟨t1, t2⟩, ?_⟩
            · simp only [e1, e2]
            · have : 1 ≤ csize c := by cases c; simp only [csize]; omega
              simp only [csizeL]
              omega
theorem simT_right {t u : Tm} (h : simT t u) : tmRight (cutT t) = tmRight (cutT u) := by
  rcases h with rfl | ⟨h1, h2, h3, h4⟩
  · rfl
  · obtain ⟨a, n⟩ := t
    obtain ⟨b, m⟩ := u
    simp only at h1 h2 h3 h4
    subst h1 h2
    have e : ∀ k : Int, 1 ≤ k → tmRight (cutT (false, k)) = true := fun k hk => by
      unfold tmRight cutT
      simp only [Bool.false_eq_true, if_false, Bool.and_eq_true, decide_eq_true_eq]
      split <;> omega
    rw [e n h3, e m h4]
theorem simT_zero {t u : Tm} (h : simT t u) : cutT t = (false, 0) ↔ cutT u = (false, 0) := by
  rcases h with rfl | ⟨h1, h2, h3, h4⟩
  · exact Iff.rfl
  · obtain ⟨a, n⟩ := t
    obtain ⟨b, m⟩ := u
    simp only at h1 h2 h3 h4
    subst h1 h2
    have e : ∀ k : Int, 1 ≤ k → cutT (false, k) ≠ (false, 0) := fun k hk he => by
      unfold cutT at he
      simp only [Bool.false_eq_true, if_false, Prod.mk.injEq, true_and] at he
      split at he <;> omega
    exact iff_of_false (e n h3) (e m h4)
theorem simT_var {t u : Tm} (h : simT t u) (v : Int) : cutT t = (true, v) ↔ cutT u = (true, v) := by
  rcases h with rfl | ⟨h1, h2, h3, h4⟩
  · exact Iff.rfl
  · have e : ∀ s : Tm, s.1 = false → cutT s ≠ (true, v) := fun s hs he => by
      unfold cutT at he
      rw [if_neg (by rw [hs]; simp)] at he
      have := congrArg Prod.fst he
      simp only [hs] at this
      cases this
    exact iff_of_false (e t h1) (e u h2)
theorem own_sim {a b c a' b' c' : Tm} (ha : simT a a') (hb : simT b b') (hc : simT c c') (v : Int) : own v (cutT a) (cutT b) (cutT c) = own v (cutT a') (cutT b') (cutT c') := by
  unfold own
  rw [decide_eq_decide.2 (simT_var ha v), decide_eq_decide.2 (simT_var hb v), decide_eq_decide.2 (simT_var hc v)]
theorem held_empty : ∀ {l m : List Cd}, simL l m → (heldL l).isEmpty = (heldL m).isEmpty
  | [], [], _ => rfl
  | _ :: _, _ :: _, _ => rfl
  | [], _ :: _, h => by cases h
  | _ :: _, [], h => by cases h
mutual
theorem cchk_sim : ∀ (d : Int) (x y : Cd), simC x y → cchk d (heldC x) = cchk d (heldC y)
  | d, .mk k a b c s, .mk k' a' b' c' s', h => by
    unfold simC at h
    obtain ⟨rfl, ha, hb, hc, hs⟩ := h
    unfold heldC cchk
    rw [simT_right ha, simT_right hb, simT_right hc, held_empty hs, cchkL_sim (d + 1) s s' hs]
    simp only [simT_zero ha, simT_zero hb, simT_zero hc]
theorem cchkL_sim : ∀ (d : Int) (l m : List Cd), simL l m → cchkL d (heldL l) = cchkL d (heldL m)
  | _, [], [], _ => rfl
  | d, x :: l, y :: m, h => by
    unfold heldL cchkL
    rw [cchk_sim d x y h.1, cchkL_sim d l m h.2]
  | _, [], _ :: _, h => by cases h
  | _, _ :: _, [], h => by cases h
end
mutual
theorem csize_sim : ∀ (x y : Cd), simC x y → csize (heldC x) = csize (heldC y)
  | .mk k a b c s, .mk k' a' b' c' s', h => by
    unfold simC at h
    unfold heldC csize
    rw [csizeL_sim s s' h.2.2.2.2]
theorem csizeL_sim : ∀ (l m : List Cd), simL l m → csizeL (heldL l) = csizeL (heldL m)
  | [], [], _ => rfl
  | x :: l, y :: m, h => by
    unfold heldL csizeL
    rw [csize_sim x y h.1, csizeL_sim l m h.2]
  | [], _ :: _, h => by cases h
  | _ :: _, [], h => by cases h
end
mutual
theorem has_sim (v : Int) : ∀ (x y : Cd), simC x y → has v (heldC x) = has v (heldC y)
  | .mk k a b c s, .mk k' a' b' c' s', h => by
    unfold simC at h
    obtain ⟨rfl, ha, hb, hc, hs⟩ := h
    unfold heldC has
    rw [own_sim ha hb hc, hasL_sim v s s' hs]
theorem hasL_sim (v : Int) : ∀ (l m : List Cd), simL l m → hasL v (heldL l) = hasL v (heldL m)
  | [], [], _ => rfl
  | x :: l, y :: m, h => by
    unfold heldL hasL
    rw [has_sim v x y h.1, hasL_sim v l m h.2]
  | [], _ :: _, h => by cases h
  | _ :: _, [], h => by cases h
end
theorem kind_sim : ∀ (x y : Cd), simC x y → (heldC x).kind = (heldC y).kind
  | .mk k a b c s, .mk k' a' b' c' s', h => by
    unfold simC at h
    unfold heldC Cd.kind
    exact h.1
mutual
theorem outC_sim (v : Int) : ∀ (x y : Cd), simC x y → outC v (heldC x) = outC v (heldC y)
  | .mk k a b c s, .mk k' a' b' c' s', h => by
    unfold simC at h
    unfold heldC outC
    exact outR_sim v s s' h.2.2.2.2
theorem outR_sim (v : Int) : ∀ (l m : List Cd), simL l m → outR v (heldL l) = outR v (heldL m)
  | [], [], _ => rfl
  | x :: l, y :: m, h => by
    unfold heldL outR
    rw [has_sim v x y h.1, hasL_sim v l m h.2, kind_sim x y h.1, outC_sim v x y h.1, outR_sim v l m h.2]
  | [], _ :: _, h => by cases h
  | _ :: _, [], h => by cases h
end
/-- What is wrong with a rule does not hang on its symbols' numbers. -/
theorem rchk_sim (nm : List UInt8) {l m : List Cd} (h : simL l m) : rchk nm (heldL l) = rchk nm (heldL m) := by
  unfold rchk
  rw [held_empty h, cchkL_sim 1 l m h, csizeL_sim l m h]
  simp only [outR_sim _ l m h]
/-- **A rule's text, read with another table.** -/
theorem rparse_other {ns : List (List UInt8)} (hN : Names ns) {nm : List UInt8} {l : List Cd} (h : (rtext ns nm l).2 = 0) (hl : heldL l = l) {ms : List (List UInt8)} (hM : ms.length ≤ 4000) :
    ∃ l' m1, rparse ms (rtext ns nm l).1 = ((nm, l'), m1, 0) ∧ m1.length ≤ ms.length + 48 := by
  unfold rtext at h ⊢
  split at h
  · rename_i h1; exact absurd h h1
  rename_i h0
  rw [if_neg h0]
  simp only [ne_eq, Decidable.not_not] at h0
  obtain ⟨g1, g2, g3, g4⟩ := good_of_rchk h0
  cases hw : cwordsL ns l with
  | none => rw [hw] at h; cases h
  | some ws =>
    simp only
    have hb : ∀ x ∈ nm :: ws, (32 : UInt8) ∉ x := fun x hx => by
      rcases List.mem_cons.1 hx with rfl | hx
      · have := right_blank g1
        simpa using this
      · exact cwordsL_blank hN l ws hw x hx
    obtain ⟨m1, l', e1, hs, hm⟩ := pconds_any _ _ _ _ _ _ _ (pconds_of hN hw g3 (Nat.lt_succ_self _)) ms
    refine ⟨l', m1, ?_, by omega⟩
    unfold rparse
    rw [words_join ws nm hb]
    simp only
    rw [e1]
    simp only
    have hr : rchk nm (heldL l') = 0 := by rw [← rchk_sim nm hs, hl, h0]
    rw [if_neg (by rw [g1]; simp), if_neg (by rw [hr]; simp), if_neg (by omega)]
/-- And written again, and read again. -/
theorem tables_plain {ns : List (List UInt8)} (hN : Names ns) {nm : List UInt8} {l : List Cd} (h : (rtext ns nm l).2 = 0) (hl : heldL l = l) {ms : List (List UInt8)} (hM : ms.length ≤ 4000) (hNM : Names ms) :
    ∃ l' m1, rparse ms (rtext ns nm l).1 = ((nm, l'), m1, 0) ∧ m1.length ≤ ms.length + 48 ∧ Names m1 ∧ rtext m1 nm l' = ((rtext ns nm l).1, 0) ∧ rparse m1 (rtext ns nm l).1 = ((nm, l'), m1, 0) := by
  obtain ⟨l', m1, h1, h2⟩ := rparse_other hN h hl hM
  obtain ⟨a1, a2, a3, a4, a5⟩ := rtext_rparse _ _ _ h1
  refine ⟨l', m1, h1, h2, a2 hNM, a1, ?_⟩
  have := rparse_rtext (a2 hNM) a5 (nm := nm) (l := l') (by rw [a1]) a4
  rw [a1] at this
  exact this
end Go.TX
