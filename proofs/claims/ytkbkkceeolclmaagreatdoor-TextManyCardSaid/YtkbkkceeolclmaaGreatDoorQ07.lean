/- Rules as plain data: what is wrong with one; where a variable stands, by ways and by scopes: both tell the same. -/
set_option linter.unusedVariables false
set_option linter.unusedSimpArgs false
namespace Go.TX
abbrev Tm := Bool × Int
inductive Cd where
  | mk (k : Int) (a b c : Tm) (subs : List Cd)
def Cd.kind : Cd → Int | .mk k _ _ _ _ => k
def Cd.subs : Cd → List Cd | .mk _ _ _ _ l => l
/-- May a term be? -/
def tmRight (t : Tm) : Bool := decide (1 ≤ t.2) && decide (t.2 ≤ if t.1 then 32 else 4096)
mutual
/-- What is wrong with a condition at a depth. -/
def cchk : Int → Cd → Int
  | d, .mk k a b c subs =>
    if 3 < d then 5 else if k < 1 ∨ 3 < k then 3
    else if k < 3 then (if tmRight a && tmRight b && tmRight c then (if subs.isEmpty then 0 else 4) else 4)
    else if a = (false, 0) ∧ b = (false, 0) ∧ c = (false, 0) then (if subs.isEmpty then 2 else cchkL (d + 1) subs) else 4
def cchkL : Int → List Cd → Int
  | _, [] => 0
  | d, x :: l => if cchk d x ≠ 0 then cchk d x else cchkL d l
end

mutual
def csize : Cd → Nat
  | .mk _ _ _ _ subs => 1 + csizeL subs
def csizeL : List Cd → Nat
  | [] => 0
  | x :: l => csize x + csizeL l
end

def own (v : Int) (a b c : Tm) : Bool := decide (a = (true, v)) || decide (b = (true, v)) || decide (c = (true, v))
mutual
/-- Does a variable stand in it? -/
def has (v : Int) : Cd → Bool
  | .mk k a b c subs => (decide (k < 3) && own v a b c) || hasL v subs
def hasL (v : Int) : List Cd → Bool
  | [] => false
  | x :: l => has v x || hasL v l
end

mutual
/-- By scopes. -/
def outC (v : Int) : Cd → Int
  | .mk _ _ _ _ subs => outR v subs
def outR (v : Int) : List Cd → Int
  | [] => 0
  | x :: l => if has v x then (if x.kind = 1 then 2 else if hasL v l then 1 else if x.kind = 3 ∧ outC v x = 1 then 1 else 0) else outR v l
end

mutual
/-- By ways. -/
def waysC (v : Int) : Cd → List Nat → List (List Nat)
  | .mk k a b c subs, pre => if k = 3 then ways v subs 0 pre else if own v a b c then [pre] else []
def ways (v : Int) : List Cd → Nat → List Nat → List (List Nat)
  | [], _, _ => []
  | x :: l, i, pre => waysC v x (pre ++ [i]) ++ ways v l (i + 1) pre
end

mutual
/-- Kinds are kinds; only an Ncc has others in it. -/
def fineC : Cd → Prop
  | .mk k _ _ _ subs => (k = 1 ∨ k = 2) ∧ subs = [] ∨ k = 3 ∧ fineL subs
def fineL : List Cd → Prop
  | [] => True
  | x :: l => fineC x ∧ fineL l
end

mutual
theorem fine_of_chk : ∀ (d : Int) (x : Cd), cchk d x = 0 → fineC x
  | d, .mk k a b c subs, h => by
    unfold cchk at h
    unfold fineC
    split at h
    · omega
    split at h
    · omega
    split at h
    · left
      refine ⟨by omega, ?_⟩
      split at h
      · split at h
        · rename_i hs; simpa using hs
        · omega
      · omega
    · right
      refine ⟨by omega, ?_⟩
      split at h
      · split at h
        · omega
        · exact fineL_of_chk (d + 1) subs h
      · omega
theorem fineL_of_chk : ∀ (d : Int) (l : List Cd), cchkL d l = 0 → fineL l
  | _, [], _ => trivial
  | d, x :: l, h => by
    unfold cchkL at h
    split at h
    · rename_i h1; exact absurd h h1
    · rename_i h1
      exact ⟨fine_of_chk d x (by simpa using h1), fineL_of_chk d l h⟩
end

mutual
theorem waysC_nil (v : Int) : ∀ (x : Cd) (pre : List Nat), fineC x → (waysC v x pre = [] ↔ has v x = false)
  | .mk k a b c subs, pre, h => by
    unfold waysC has
    rcases h with ⟨h1, h2⟩ | ⟨h1, h2⟩
    · have h3 : k ≠ 3 := by omega
      have h4 : k < 3 := by omega
      subst h2
      rw [if_neg h3]
      cases hw : own v a b c <;> simp [h4, hasL]
    · subst h1
      rw [if_pos rfl, ways_nil v subs 0 pre h2]
      simp
theorem ways_nil (v : Int) : ∀ (l : List Cd) (i : Nat) (pre : List Nat), fineL l → (ways v l i pre = [] ↔ hasL v l = false)
  | [], _, _, _ => by simp [ways, hasL]
  | x :: l, i, pre, h => by
    unfold ways hasL
    rw [List.append_eq_nil_iff, waysC_nil v x _ h.1, ways_nil v l _ _ h.2]
    cases has v x <;> simp
end

mutual
theorem waysC_pre (v : Int) : ∀ (x : Cd) (pre w : List Nat), w ∈ waysC v x pre → pre <+: w
  | .mk k a b c subs, pre, w, h => by
    unfold waysC at h
    split at h
    · obtain ⟨j, r, _, rfl⟩ := ways_pre v subs 0 pre w h
      exact ⟨j :: r, rfl⟩
    · split at h
      · rw [List.mem_singleton.1 h]; exact List.prefix_refl _
      · cases h
theorem ways_pre (v : Int) : ∀ (l : List Cd) (i : Nat) (pre w : List Nat), w ∈ ways v l i pre → ∃ j r, i ≤ j ∧ w = pre ++ j :: r
  | [], _, _, _, h => by cases h
  | x :: l, i, pre, w, h => by
    unfold ways at h
    rcases List.mem_append.1 h with h | h
    · obtain ⟨t, ht⟩ := waysC_pre v x _ w h
      exact ⟨i, t, Nat.le_refl _, by rw [← ht]; simp⟩
    · obtain ⟨j, r, h1, h2⟩ := ways_pre v l (i + 1) pre w h
      exact ⟨j, r, by omega, h2⟩
end

/-- The condition at the end of a way. -/
def atC : Cd → List Nat → Option Cd
  | x, [] => some x
  | .mk _ _ _ _ subs, i :: r => (subs[i]?).bind fun y => atC y r
def atL (l : List Cd) : List Nat → Option Cd
  | [] => none
  | i :: r => (l[i]?).bind fun y => atC y r
mutual
theorem waysC_at (v : Int) : ∀ (x : Cd) (pre w : List Nat), w ∈ waysC v x pre → ∃ r y, w = pre ++ r ∧ atC x r = some y
  | .mk k a b c subs, pre, w, h => by
    unfold waysC at h
    split at h
    · obtain ⟨j, r, y, h1, h2, h3⟩ := ways_at v subs 0 pre w h
      refine ⟨j :: r, y, h2, ?_⟩
      unfold atC
      simpa using h3
    · split at h
      · exact ⟨[], _, by rw [List.mem_singleton.1 h]; simp, rfl⟩
      · cases h
theorem ways_at (v : Int) : ∀ (l : List Cd) (i : Nat) (pre w : List Nat), w ∈ ways v l i pre → ∃ j r y, i ≤ j ∧ w = pre ++ j :: r ∧ (l[j - i]?).bind (fun y => atC y r) = some y
  | [], _, _, _, h => by cases h
  | x :: l, i, pre, w, h => by
    unfold ways at h
    rcases List.mem_append.1 h with h | h
    · obtain ⟨r, y, h1, h2⟩ := waysC_at v x _ w h
      exact ⟨i, r, y, Nat.le_refl _, by rw [h1]; simp, by simpa using h2⟩
    · obtain ⟨j, r, y, h1, h2, h3⟩ := ways_at v l (i + 1) pre w h
      refine ⟨j, r, y, by omega, h2, ?_⟩
      have e : j - i = (j - (i + 1)) + 1 := by omega
      rw [e, List.getElem?_cons_succ]
      exact h3
end

/-- The scope of the first of the ways: of a Pos what it stands in, else itself. -/
def scopeOf (k : Int) (w : List Nat) : List Nat := if k = 1 then w.dropLast else w
mutual
/-- The kind of the condition where a variable first stands. -/
def kindC (v : Int) : Cd → Int
  | .mk k _ _ _ subs => if k = 3 then kindL v subs else k
def kindL (v : Int) : List Cd → Int
  | [] => 0
  | x :: l => if has v x then kindC v x else kindL v l
end

/-- All ways begin with the scope of the first one. -/
def okW (k : Int) (ws : List (List Nat)) : Prop := ∀ w0, ws.head? = some w0 → ∀ w ∈ ws, scopeOf k w0 <+: w
theorem not_prefix {pre s : List Nat} {i j : Nat} {r : List Nat} (h : pre ++ [i] <+: s) (hij : i < j) : ¬ s <+: pre ++ j :: r := by
  intro h2
  obtain ⟨t, ht⟩ := List.IsPrefix.trans h h2
  simp at ht
  omega
mutual
theorem okC (v : Int) : ∀ (x : Cd) (pre : List Nat), fineC x → has v x = true → (okW (kindC v x) (waysC v x pre) ↔ ¬ (x.kind = 3 ∧ outC v x = 1)) ∧
    (∀ w0, (waysC v x pre).head? = some w0 → x.kind ≠ 1 → pre <+: scopeOf (kindC v x) w0)
  | .mk k a b c subs, pre, h, hh => by
    unfold waysC kindC outC Cd.kind
    rcases h with ⟨h1, h2⟩ | ⟨h1, h2⟩
    · have h3 : k ≠ 3 := by omega
      subst h2
      simp only [h3, if_false, false_and, not_false_eq_true, iff_true]
      constructor
      · intro w0 hw w hm
        split at hm
        · rw [if_pos (by assumption)] at hw
          cases hw
          rw [List.mem_singleton.1 hm]
          unfold scopeOf
          split
          · exact List.dropLast_prefix _
          · exact List.prefix_refl _
        · cases hm
      · intro w0 hw hk
        split at hw
        · cases hw
          unfold scopeOf
          rw [if_neg hk]
          exact List.prefix_refl _
        · cases hw
    · subst h1
      have hs : hasL v subs = true := by
        unfold has at hh
        simpa using hh
      simp only [if_true, true_and]
      obtain ⟨h3, h4⟩ := okL v subs 0 pre h2 hs
      exact ⟨h3, fun w0 hw _ => h4 w0 hw⟩
theorem okL (v : Int) : ∀ (l : List Cd) (i : Nat) (pre : List Nat), fineL l → hasL v l = true → (okW (kindL v l) (ways v l i pre) ↔ outR v l ≠ 1) ∧
    (∀ w0, (ways v l i pre).head? = some w0 → pre <+: scopeOf (kindL v l) w0)
  | [], _, _, _, h => by cases h
  | x :: l, i, pre, hf, h => by
    unfold ways kindL outR
    by_cases hx : has v x = true
    · have hne : waysC v x (pre ++ [i]) ≠ [] := fun e => by
        rw [waysC_nil v x _ hf.1, hx] at e
        cases e
      obtain ⟨w0, t, hw⟩ := List.exists_cons_of_ne_nil hne
      rw [if_pos hx, if_pos hx]
      obtain ⟨k1, k2⟩ := okC v x (pre ++ [i]) hf.1 hx
      by_cases hk : x.kind = 1
      · rw [if_pos hk]
        obtain ⟨k, a, b, c, subs⟩ := x
        simp only [Cd.kind] at hk
        subst hk
        have hkc : kindC v (.mk 1 a b c subs) = 1 := by unfold kindC; simp
        have hww : waysC v (.mk 1 a b c subs) (pre ++ [i]) = [pre ++ [i]] := by
          unfold waysC at hne ⊢
          rw [if_neg (by omega)] at hne ⊢
          split
          · rfl
          · rename_i hq; rw [if_neg hq] at hne; exact absurd rfl hne
        rw [hkc, hww]
        constructor
        · constructor
          · intro _; omega
          · intro _ w1 h1 w hm
            simp at h1
            subst h1
            unfold scopeOf
            simp only [if_true, List.dropLast_concat]
            rcases List.mem_append.1 hm with hm | hm
            · rw [List.mem_singleton.1 hm]; exact List.prefix_append _ _
            · obtain ⟨j, r, _, rfl⟩ := ways_pre v l _ _ w hm
              exact List.prefix_append _ _
        · intro w1 h1
          simp at h1
          subst h1
          unfold scopeOf
          simp
      · rw [if_neg hk]
        rw [hw] at k1 k2 ⊢
        have k2' := k2 w0 rfl hk
        constructor
        · by_cases hl : hasL v l = true
          · rw [if_pos hl]
            simp only [ne_eq, not_true_eq_false, iff_false]
            intro hok
            have hne2 : ways v l (i + 1) pre ≠ [] := fun e => by
              rw [ways_nil v l _ _ hf.2, hl] at e
              cases e
            obtain ⟨w2, t2, hw2⟩ := List.exists_cons_of_ne_nil hne2
            have hp := hok w0 rfl w2 (by rw [hw2]; simp)
            obtain ⟨j, r, hj, rfl⟩ := ways_pre v l (i + 1) pre w2 (by rw [hw2]; simp)
            exact not_prefix k2' (by omega) hp
          · rw [if_neg hl]
            have he : ways v l (i + 1) pre = [] := (ways_nil v l _ _ hf.2).2 (by simpa using hl)
            rw [he, List.append_nil, k1]
            by_cases hq : x.kind = 3 ∧ outC v x = 1
            · rw [if_pos hq]; simp [hq]
            · rw [if_neg hq]; simp [hq]
        · intro w1 h1
          simp at h1
          subst h1
          obtain ⟨t', ht'⟩ := k2'
          exact ⟨[i] ++ t', by rw [← ht']; simp⟩
    · have hx' : has v x = false := by simpa using hx
      have he : waysC v x (pre ++ [i]) = [] := (waysC_nil v x _ hf.1).2 hx'
      rw [if_neg hx, if_neg hx, he, List.nil_append]
      unfold hasL at h
      rw [hx', Bool.false_or] at h
      exact okL v l (i + 1) pre hf.2 h
end

mutual
/-- The condition at the end of the first way is of that kind. -/
theorem headC (v : Int) : ∀ (x : Cd) (pre w0 : List Nat), fineC x → (waysC v x pre).head? = some w0 → ∃ r y, w0 = pre ++ r ∧ atC x r = some y ∧ y.kind = kindC v x
  | .mk k a b c subs, pre, w0, hf, h => by
    unfold waysC at h
    unfold kindC
    split at h
    · rename_i hk
      rw [if_pos hk]
      rcases hf with ⟨h1, _⟩ | ⟨_, h2⟩
      · omega
      · obtain ⟨j, r, y, _, h3, h4, h5⟩ := headL v subs 0 pre w0 h2 h
        refine ⟨j :: r, y, h3, ?_, h5⟩
        unfold atC
        simpa using h4
    · rename_i hk
      rw [if_neg hk]
      split at h
      · cases h
        exact ⟨[], _, by simp, rfl, rfl⟩
      · cases h
theorem headL (v : Int) : ∀ (l : List Cd) (i : Nat) (pre w0 : List Nat), fineL l → (ways v l i pre).head? = some w0 → ∃ j r y, i ≤ j ∧ w0 = pre ++ j :: r ∧ (l[j - i]?).bind (fun y => atC y r) = some y ∧ y.kind = kindL v l
  | [], _, _, _, _, h => by cases h
  | x :: l, i, pre, w0, hf, h => by
    unfold ways at h
    unfold kindL
    by_cases hx : has v x = true
    · rw [if_pos hx]
      have hne : waysC v x (pre ++ [i]) ≠ [] := fun e => by
        rw [waysC_nil v x _ hf.1, hx] at e
        cases e
      obtain ⟨w1, t, hw⟩ := List.exists_cons_of_ne_nil hne
      rw [hw] at h
      simp at h
      subst h
      obtain ⟨r, y, h1, h2, h3⟩ := headC v x (pre ++ [i]) w1 hf.1 (by rw [hw]; rfl)
      exact ⟨i, r, y, Nat.le_refl _, by rw [h1]; simp, by simpa using h2, h3⟩
    · have hx' : has v x = false := by simpa using hx
      have he : waysC v x (pre ++ [i]) = [] := (waysC_nil v x _ hf.1).2 hx'
      rw [he, List.nil_append] at h
      rw [if_neg hx]
      obtain ⟨j, r, y, h1, h2, h3, h4⟩ := headL v l (i + 1) pre w0 hf.2 h
      refine ⟨j, r, y, by omega, h2, ?_, h4⟩
      have e : j - i = (j - (i + 1)) + 1 := by omega
      rw [e, List.getElem?_cons_succ]
      exact h3
end

/-- As the program tells it. -/
def inPlace (l : List Cd) (ws : List (List Nat)) : Bool :=
  match ws with
  | [] => true
  | w0 :: _ => ws.all fun w => (scopeOf (((atL l w0).map Cd.kind).getD 0) w0).isPrefixOf w
theorem inPlace_eq (v : Int) (l : List Cd) (h : fineL l) : inPlace l (ways v l 0 []) = decide (outR v l ≠ 1) := by
  by_cases hl : hasL v l = true
  · have hne : ways v l 0 [] ≠ [] := fun e => by
      rw [ways_nil v l _ _ h, hl] at e
      cases e
    obtain ⟨w0, t, hw⟩ := List.exists_cons_of_ne_nil hne
    obtain ⟨j, r, y, _, h1, h2, h3⟩ := headL v l 0 [] w0 h (by rw [hw]; rfl)
    have hk : ((atL l w0).map Cd.kind).getD 0 = kindL v l := by
      rw [h1, List.nil_append]
      rw [Nat.sub_zero] at h2
      have e : atL l (j :: r) = some y := h2
      rw [e]
      exact h3
    have hok := (okL v l 0 [] h hl).1
    rw [hw] at hok ⊢
    unfold inPlace
    simp only [hk]
    rw [Bool.eq_iff_iff, decide_eq_true_iff, ← hok, List.all_eq_true]
    unfold okW
    constructor
    · intro q w1 h1 w hm
      simp at h1
      subst h1
      exact List.isPrefixOf_iff_prefix.1 (q w hm)
    · intro q w hm
      exact List.isPrefixOf_iff_prefix.2 (q w0 rfl w hm)
  · have hl' : hasL v l = false := by simpa using hl
    rw [(ways_nil v l 0 [] h).2 hl']
    have : outR v l = 0 := by
      clear hl h
      induction l with
      | nil => rfl
      | cons x l ih =>
        unfold hasL at hl'
        rw [Bool.or_eq_false_iff] at hl'
        unfold outR
        rw [if_neg (by rw [hl'.1]; simp), ih hl'.2]
    simp [inPlace, this]
end Go.TX
