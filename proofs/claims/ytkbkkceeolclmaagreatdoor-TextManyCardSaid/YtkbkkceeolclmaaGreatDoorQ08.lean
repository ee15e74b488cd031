/- Rules as texts: what is written, what is read, plain. Rules as plain data: what is wrong with one; how a text is read whole. The triple of a text, plain. -/
import Derived.Test.YtkbkkceeolclmaaGreatDoorQ06
import Derived.Test.YtkbkkceeolclmaaGreatDoorQ07
set_option linter.unusedVariables false
set_option linter.unusedSimpArgs false
namespace Go.TX
open Go.Lib
/-- The list is known by its names: a name's number, from 1 on; 0: none. -/
def findN (ns : List (List UInt8)) (s : List UInt8) : Nat := if s ∈ ns then ns.idxOf s + 1 else 0
def addN (ns : List (List UInt8)) (s : List UInt8) : List (List UInt8) := if s ∈ ns then ns else ns ++ [s]
/-- A term's word. -/
def tword (ns : List (List UInt8)) (t : Tm) : Option (List UInt8) :=
  if t.1 then some (63 :: decDigits t.2.toNat) else if 1 ≤ t.2 ∧ t.2 ≤ ns.length then ns[(t.2 - 1).toNat]? else none
mutual
/-- A condition's words. -/
def cwords (ns : List (List UInt8)) : Cd → Option (List (List UInt8))
  | .mk k a b c subs =>
    if k = 3 then (cwordsL ns subs).map fun l => [45, 123] :: (l ++ [[125]])
    else match tword ns a, tword ns b, tword ns c with
      | some x, some y, some z => some [(if k = 2 then [45] else []) ++ 40 :: x, y, z ++ [41]]
      | _, _, _ => none
def cwordsL (ns : List (List UInt8)) : List Cd → Option (List (List UInt8))
  | [] => some []
  | x :: l => match cwords ns x, cwordsL ns l with
    | some a, some b => some (a ++ b)
    | _, _ => none
end

/-- A name's symbol. -/
def psym (ns : List (List UInt8)) (s : List UInt8) : Option (List (List UInt8) × Int) :=
  if rightName (str s) then some (addN ns s, (findN (addN ns s) s : Int)) else none
/-- A word's term. -/
def pterm (ns : List (List UInt8)) : List UInt8 → Option (List (List UInt8) × Tm)
  | 63 :: v => if 1 ≤ number v then some (ns, (true, number v)) else none
  | w => (psym ns w).map fun p => (p.1, (false, p.2))
def cutDash : List UInt8 → Int × List UInt8
  | 45 :: w => (2, w)
  | w => (1, w)
def cutOpen : List UInt8 → Option (List UInt8)
  | 40 :: w => some w
  | _ => none
def cutShut (w : List UInt8) : Option (List UInt8) := if w.getLast? = some 41 then some w.dropLast else none
/-- Three words' condition. -/
def pthree (ns : List (List UInt8)) (x y z : List UInt8) : Option (List (List UInt8) × Cd) :=
  match cutOpen (cutDash x).2, cutShut z with
  | some u, some v =>
    match pterm ns u with
    | some (n1, a) => match pterm n1 y with
      | some (n2, b) => match pterm n2 v with
        | some (n3, c) => some (n3, .mk (cutDash x).1 a b c [])
        | none => none
      | none => none
    | none => none
  | _, _ => none
/-- The conditions of words, up to a shutting word, or to the end. -/
def pconds : Nat → Bool → List (List UInt8) → List (List UInt8) → Option (List (List UInt8) × List Cd × List (List UInt8))
  | 0, _, _, _ => none
  | _ + 1, inner, [], ns => if inner then none else some (ns, [], [])
  | n + 1, inner, w :: l, ns =>
    if w = [125] then (if inner then some (ns, [], l) else none)
    else if w = [45, 123] then
      match pconds n true l ns with
      | some (n1, subs, r) => match pconds n inner r n1 with
        | some (n2, out, r2) => some (n2, .mk 3 (false, 0) (false, 0) (false, 0) subs :: out, r2)
        | none => none
      | none => none
    else match l with
      | y :: z :: r => match pthree ns w y z with
        | some (n1, c) => match pconds n inner r n1 with
          | some (n2, out, r2) => some (n2, c :: out, r2)
          | none => none
        | none => none
      | _ => none

/-- Names that are right, each once. -/
def Names (ns : List (List UInt8)) : Prop := ns.Nodup ∧ ∀ s ∈ ns, rightName (str s) = true
theorem Names.add {ns : List (List UInt8)} {s : List UInt8} (h : Names ns) (hs : rightName (str s) = true) : Names (addN ns s) := by
  unfold addN
  split
  · exact h
  · rename_i hm
    refine ⟨?_, fun x hx => ?_⟩
    · rw [List.nodup_append]
      exact ⟨h.1, by simp, fun a ha b hb => by simp at hb; subst hb; rintro rfl; exact hm ha⟩
    · rcases List.mem_append.1 hx with hx | hx
      · exact h.2 x hx
      · rw [List.mem_singleton.1 hx]; exact hs
theorem addN_prefix (ns : List (List UInt8)) (s : List UInt8) : ns <+: addN ns s := by
  unfold addN
  split
  · exact List.prefix_refl _
  · exact List.prefix_append _ _
theorem addN_mem (ns : List (List UInt8)) (s : List UInt8) : s ∈ addN ns s := by
  unfold addN
  split
  · assumption
  · simp
theorem addN_len (ns : List (List UInt8)) (s : List UInt8) : (addN ns s).length ≤ ns.length + 1 := by
  unfold addN
  split <;> simp
theorem tword_mono {ns ms : List (List UInt8)} (h : ns <+: ms) {t : Tm} {w : List UInt8} (ht : tword ns t = some w) : tword ms t = some w := by
  obtain ⟨r, rfl⟩ := h
  unfold tword at ht ⊢
  split at ht
  · rename_i hb; rw [if_pos hb]; exact ht
  · rename_i hb
    rw [if_neg hb]
    split at ht
    · rename_i hr
      rw [if_pos ⟨hr.1, by simp; omega⟩]
      rw [List.getElem?_append_left (by omega)]
      exact ht
    · cases ht
mutual
theorem cwords_mono {ns ms : List (List UInt8)} (h : ns <+: ms) : ∀ (x : Cd) (l), cwords ns x = some l → cwords ms x = some l
  | .mk k a b c subs, l, hx => by
    unfold cwords at hx ⊢
    split at hx
    · rename_i hk
      rw [if_pos hk]
      cases h1 : cwordsL ns subs with
      | none => rw [h1] at hx; cases hx
      | some p => rw [h1] at hx; rw [cwordsL_mono h subs p h1]; exact hx
    · rename_i hk
      rw [if_neg hk]
      cases ha : tword ns a with
      | none => rw [ha] at hx; cases hx
      | some x => cases hb : tword ns b with
        | none => rw [ha, hb] at hx; cases hx
        | some y => cases hc : tword ns c with
          | none => rw [ha, hb, hc] at hx; cases hx
          | some z =>
            rw [ha, hb, hc] at hx
            rw [tword_mono h ha, tword_mono h hb, tword_mono h hc]
            exact hx
theorem cwordsL_mono {ns ms : List (List UInt8)} (h : ns <+: ms) : ∀ (x : List Cd) (l), cwordsL ns x = some l → cwordsL ms x = some l
  | [], l, hx => hx
  | y :: t, l, hx => by
    unfold cwordsL at hx ⊢
    cases h1 : cwords ns y with
    | none => rw [h1] at hx; cases hx
    | some a => cases h2 : cwordsL ns t with
      | none => rw [h1, h2] at hx; cases hx
      | some b =>
        rw [h1, h2] at hx
        rw [cwords_mono h y a h1, cwordsL_mono h t b h2]
        exact hx
end

theorem psym_word {ns : List (List UInt8)} {s : List UInt8} {p : List (List UInt8) × Int} (h : psym ns s = some p) :
    ns <+: p.1 ∧ (Names ns → Names p.1) ∧ tword p.1 (false, p.2) = some s ∧ 1 ≤ p.2 ∧ p.2 ≤ p.1.length ∧ p.1.length ≤ ns.length + 1 ∧ rightName (str s) = true := by
  unfold psym at h
  split at h
  · rename_i hr
    cases h
    have hm := addN_mem ns s
    have hi := List.idxOf_lt_length_iff.2 hm
    have hf : findN (addN ns s) s = (addN ns s).idxOf s + 1 := if_pos hm
    refine ⟨addN_prefix _ _, fun h => h.add hr, ?_, ?_, ?_, addN_len _ _, hr⟩
    · unfold tword
      simp only [hf]
      rw [if_neg (by simp), if_pos (by omega)]
      have e : (((((addN ns s).idxOf s + 1 : Nat) : Int) - 1).toNat) = (addN ns s).idxOf s := by omega
      rw [e, List.getElem?_eq_getElem hi, List.getElem_idxOf hi]
    · simp only [hf]; omega
    · simp only [hf]; omega
  · cases h
theorem pterm_word {ns : List (List UInt8)} {s : List UInt8} {n1 : List (List UInt8)} {t : Tm} (h : pterm ns s = some (n1, t)) :
    ns <+: n1 ∧ (Names ns → Names n1) ∧ tword n1 t = some s ∧ n1.length ≤ ns.length + 1 ∧ (t.1 = false → 1 ≤ t.2 ∧ t.2 ≤ n1.length) ∧ (t.1 = true → 1 ≤ t.2) := by
  unfold pterm at h
  split at h
  · rename_i v
    split at h
    · rename_i hn
      cases h
      obtain ⟨n, hn2⟩ : ∃ n : Nat, number v = n := ⟨(number v).toNat, by omega⟩
      obtain ⟨hv, _⟩ := number_some hn2
      refine ⟨List.prefix_refl _, id, ?_, by omega, fun h => absurd h (by simp), fun _ => hn⟩
      unfold tword
      rw [if_pos rfl, hn2, Int.toNat_natCast, ← hv]
    · cases h
  · cases hp : psym ns s with
    | none => rw [hp] at h; cases h
    | some p =>
      rw [hp] at h
      simp at h
      obtain ⟨rfl, rfl⟩ := h
      obtain ⟨a, b, c, d, e, f, g⟩ := psym_word hp
      exact ⟨a, b, c, f, fun _ => ⟨d, e⟩, fun h => absurd h (by simp)⟩
theorem cutOpen_some {w u : List UInt8} (h : cutOpen w = some u) : w = 40 :: u := by
  unfold cutOpen at h
  split at h
  · cases h; rfl
  · cases h
theorem cutShut_some {w u : List UInt8} (h : cutShut w = some u) : w = u ++ [41] := by
  unfold cutShut at h
  split at h
  · rename_i hl
    cases h
    rw [List.getLast?_eq_some_iff] at hl
    obtain ⟨ys, rfl⟩ := hl
    simp
  · cases h
theorem cutDash_some (w : List UInt8) : w = (if (cutDash w).1 = 2 then [45] else []) ++ (cutDash w).2 ∧ ((cutDash w).1 = 1 ∨ (cutDash w).1 = 2) := by
  unfold cutDash
  split <;> simp
theorem pthree_words {ns n1 : List (List UInt8)} {x y z : List UInt8} {c : Cd} (h : pthree ns x y z = some (n1, c)) :
    ns <+: n1 ∧ (Names ns → Names n1) ∧ cwords n1 c = some [x, y, z] ∧ n1.length ≤ ns.length + 3 := by
  unfold pthree at h
  cases ho : cutOpen (cutDash x).2 with
  | none => rw [ho] at h; cases h
  | some u =>
  cases hs : cutShut z with
  | none => rw [ho, hs] at h; cases h
  | some v =>
  rw [ho, hs] at h
  simp only at h
  cases h1 : pterm ns u with
  | none => rw [h1] at h; cases h
  | some p1 =>
  obtain ⟨m1, a⟩ := p1
  rw [h1] at h
  simp only at h
  cases h2 : pterm m1 y with
  | none => rw [h2] at h; cases h
  | some p2 =>
  obtain ⟨m2, b⟩ := p2
  rw [h2] at h
  simp only at h
  cases h3 : pterm m2 v with
  | none => rw [h3] at h; cases h
  | some p3 =>
  obtain ⟨m3, d⟩ := p3
  rw [h3] at h
  simp only at h
  cases h
  obtain ⟨a1, a2, a3, a4, _⟩ := pterm_word h1
  obtain ⟨b1, b2, b3, b4, _⟩ := pterm_word h2
  obtain ⟨c1, c2, c3, c4, _⟩ := pterm_word h3
  obtain ⟨e1, e2⟩ := cutDash_some x
  refine ⟨a1.trans (b1.trans c1), fun h => c2 (b2 (a2 h)), ?_, by omega⟩
  unfold cwords
  rw [if_neg (by omega), tword_mono (b1.trans c1) a3, tword_mono c1 b3, c3]
  simp only
  rw [← cutOpen_some ho, ← cutShut_some hs, ← e1]
theorem pconds_words : ∀ (n : Nat) (inner : Bool) (l : List (List UInt8)) (ns n1 : List (List UInt8)) (out : List Cd) (r : List (List UInt8)), pconds n inner l ns = some (n1, out, r) →
    ns <+: n1 ∧ (Names ns → Names n1) ∧ ∃ ws, cwordsL n1 out = some ws ∧ l = ws ++ (if inner then [125] :: r else r) ∧ (inner = false → r = [])
  | 0, _, _, _, _, _, _, h => by simp [pconds] at h
  | n + 1, inner, [], ns, n1, out, r, h => by
    unfold pconds at h
    split at h
    · cases h
    · rename_i hi
      cases h
      simp only [Bool.not_eq_true] at hi
      subst hi
      exact ⟨List.prefix_refl _, id, [], rfl, rfl, fun _ => rfl⟩
  | n + 1, inner, w :: l, ns, n1, out, r, h => by
    unfold pconds at h
    split at h
    · rename_i hw
      split at h
      · rename_i hi
        cases h
        subst hw
        subst hi
        exact ⟨List.prefix_refl _, id, [], rfl, rfl, fun h => by cases h⟩
      · cases h
    split at h
    · rename_i _ hw
      cases h1 : pconds n true l ns with
      | none => rw [h1] at h; cases h
      | some p =>
        obtain ⟨m1, subs, r1⟩ := p
        rw [h1] at h
        simp only at h
        cases h2 : pconds n inner r1 m1 with
        | none => rw [h2] at h; cases h
        | some q =>
          obtain ⟨m2, out2, r2⟩ := q
          rw [h2] at h
          simp only [Option.some.injEq, Prod.mk.injEq] at h
          obtain ⟨rfl, rfl, rfl⟩ := h
          obtain ⟨a1, a2, ws1, a3, a4, _⟩ := pconds_words n true l ns m1 subs r1 h1
          obtain ⟨b1, b2, ws2, b3, b4, b5⟩ := pconds_words n inner r1 m1 m2 out2 r2 h2
          refine ⟨a1.trans b1, fun h => b2 (a2 h), ([45, 123] :: (ws1 ++ [[125]])) ++ ws2, ?_, ?_, b5⟩
          · unfold cwordsL cwords
            rw [if_pos rfl, cwordsL_mono b1 subs ws1 a3, b3]
            rfl
          · rw [a4, b4, hw]
            simp
    · match l, h with
      | [], h => cases h
      | [y], h => cases h
      | y :: z :: t, h =>
        simp only at h
        cases h1 : pthree ns w y z with
        | none => rw [h1] at h; cases h
        | some p =>
          obtain ⟨m1, c⟩ := p
          rw [h1] at h
          simp only at h
          cases h2 : pconds n inner t m1 with
          | none => rw [h2] at h; cases h
          | some q =>
            obtain ⟨m2, out2, r2⟩ := q
            rw [h2] at h
            simp only [Option.some.injEq, Prod.mk.injEq] at h
            obtain ⟨rfl, rfl, rfl⟩ := h
            obtain ⟨a1, a2, a3, _⟩ := pthree_words h1
            obtain ⟨b1, b2, ws2, b3, b4, b5⟩ := pconds_words n inner t m1 m2 out2 r2 h2
            refine ⟨a1.trans b1, fun h => b2 (a2 h), [w, y, z] ++ ws2, ?_, by rw [b4]; simp, b5⟩
            unfold cwordsL
            rw [cwords_mono b1 c _ a3, b3]

mutual
/-- Of the form that the check lets by. -/
def goodC : Cd → Prop
  | .mk k a b c subs => (k = 1 ∨ k = 2) ∧ tmRight a = true ∧ tmRight b = true ∧ tmRight c = true ∧ subs = [] ∨ k = 3 ∧ a = (false, 0) ∧ b = (false, 0) ∧ c = (false, 0) ∧ goodL subs
def goodL : List Cd → Prop
  | [] => True
  | x :: l => goodC x ∧ goodL l
end
mutual
theorem good_of_chk : ∀ (d : Int) (x : Cd), cchk d x = 0 → goodC x
  | d, .mk k a b c subs, h => by
    unfold cchk at h
    unfold goodC
    split at h
    · omega
    split at h
    · omega
    split at h
    · left
      split at h
      · rename_i ht
        split at h
        · rename_i hs
          simp only [Bool.and_eq_true] at ht
          exact ⟨by omega, ht.1.1, ht.1.2, ht.2, by simpa using hs⟩
        · omega
      · omega
    · right
      split at h
      · rename_i ht
        split at h
        · omega
        · exact ⟨by omega, ht.1, ht.2.1, ht.2.2, goodL_of_chk (d + 1) subs h⟩
      · omega
theorem goodL_of_chk : ∀ (d : Int) (l : List Cd), cchkL d l = 0 → goodL l
  | _, [], _ => trivial
  | d, x :: l, h => by
    unfold cchkL at h
    split at h
    · rename_i h1; exact absurd h h1
    · rename_i h1
      exact ⟨good_of_chk d x (by simpa using h1), goodL_of_chk d l h⟩
end

theorem addN_old {ns : List (List UInt8)} {s : List UInt8} (h : s ∈ ns) : addN ns s = ns := if_pos h
end Go.TX
namespace Go.TX
open Go.Lib
/-- What is wrong with a rule. -/
def rchk (nm : List UInt8) (l : List Cd) : Int :=
  if rightName (str nm) = false then 1 else if l.isEmpty then 2 else if cchkL 1 l ≠ 0 then cchkL 1 l else if 16 < csizeL l then 7
  else if (List.range 32).any (fun v => decide (outR ((v : Int) + 1) l = 1)) then 6 else 0
def cutT (t : Tm) : Tm := if t.1 then t else (t.1, if t.2 ≤ 4096 then t.2 else 4096)
mutual
/-- A condition whose symbols are symbols. -/
def heldC : Cd → Cd
  | .mk k a b c subs => .mk k (cutT a) (cutT b) (cutT c) (heldL subs)
def heldL : List Cd → List Cd
  | [] => []
  | x :: l => heldC x :: heldL l
end

/-- A rule's text, the error's number. -/
def rtext (ns : List (List UInt8)) (nm : List UInt8) (l : List Cd) : List UInt8 × Int :=
  if rchk nm l ≠ 0 then ([], rchk nm l) else match cwordsL ns l with
    | some ws => (join (nm :: ws), 0)
    | none => ([], 16)
/-- The rule of a text, the names then, the error's number. -/
def rparse (ns : List (List UInt8)) (s : List UInt8) : (List UInt8 × List Cd) × List (List UInt8) × Int :=
  match words s with
  | [] => (([], []), ns, 14)
  | nm :: l => match pconds (l.length + 1) false l ns with
    | none => (([], []), ns, 14)
    | some (n1, out, _) =>
      if rightName (str nm) = false then (([], []), ns, 14)
      else if rchk nm (heldL out) ≠ 0 then (([], []), ns, rchk nm (heldL out))
      else if 4096 < n1.length then (([], []), ns, 15)
      else ((nm, out), n1, 0)

theorem prefix_len {ns ms : List (List UInt8)} (h : ns <+: ms) : (ns.length : Int) ≤ ms.length := by
  have := h.length_le
  omega
theorem good_of_rchk {nm : List UInt8} {l : List Cd} (h : rchk nm l = 0) : rightName (str nm) = true ∧ l ≠ [] ∧ goodL l ∧ csizeL l ≤ 16 := by
  unfold rchk at h
  split at h
  · omega
  rename_i h1
  split at h
  · omega
  rename_i h2
  split at h
  · omega
  rename_i h3
  split at h
  · omega
  rename_i h4
  exact ⟨by simpa using h1, by simpa using h2, goodL_of_chk 1 l (by simpa using h3), by omega⟩
end Go.TX
namespace Go.TX
open Go.Lib
def rn (x : List UInt8) : Bool := rightName (str x)
abbrev n1 (ns : List (List UInt8)) (x : List UInt8) := addN ns x
abbrev n2 (ns : List (List UInt8)) (x y : List UInt8) := addN (addN ns x) y
abbrev n3 (ns : List (List UInt8)) (x y z : List UInt8) := addN (addN (addN ns x) y) z
def v0 (ns : List (List UInt8)) (x : List UInt8) : Int := (findN (n1 ns x) x : Nat)
def v1 (ns : List (List UInt8)) (x y : List UInt8) : Int := (findN (n2 ns x y) y : Nat)
def v2 (ns : List (List UInt8)) (x y z : List UInt8) : Int := (findN (n3 ns x y z) z : Nat)
/-- Of three words: the triple, the names then, the error's number. -/
def tpar3 (ns : List (List UInt8)) (x y z : List UInt8) : (Int × Int × Int) × List (List UInt8) × Int :=
  if (rn x && rn y && rn z) = false then ((0, 0, 0), ns, 14)
  else if 4096 < (n3 ns x y z).length then ((0, 0, 0), ns, 15) else ((v0 ns x, v1 ns x y, v2 ns x y z), n3 ns x y z, 0)
/-- Of a text. -/
def tparse (ns : List (List UInt8)) (s : List UInt8) : (Int × Int × Int) × List (List UInt8) × Int :=
  match words s with
  | [x, y, z] => tpar3 ns x y z
  | _ => ((0, 0, 0), ns, 14)
theorem tparse_three {ns : List (List UInt8)} {s x y z : List UInt8} (h : words s = [x, y, z]) : tparse ns s = tpar3 ns x y z := by
  unfold tparse
  rw [h]
theorem tparse_not {ns : List (List UInt8)} {s : List UInt8} (h : (words s).length ≠ 3) : tparse ns s = ((0, 0, 0), ns, 14) := by
  unfold tparse
  split
  · rename_i e
    rw [e] at h
    exact absurd rfl h
  · rfl
theorem three_of {l : List (List UInt8)} (h : l.length = 3) : ∃ x y z, l = [x, y, z] := by
  match l, h with
  | [x, y, z], _ => exact ⟨x, y, z, rfl⟩
/-- How far the words have been numbered. -/
def St (ns : List (List UInt8)) (x y z : List UInt8) : Nat → List (List UInt8) → Int → Int → Int → Prop
  | 0, now, _, _, _ => now = ns
  | 1, now, a, _, _ => now = n1 ns x ∧ rn x = true ∧ a = v0 ns x
  | 2, now, a, b, _ => now = n2 ns x y ∧ rn x = true ∧ rn y = true ∧ a = v0 ns x ∧ b = v1 ns x y
  | 3, now, a, b, c => now = n3 ns x y z ∧ (rn x = true ∧ rn y = true ∧ rn z = true) ∧ a = v0 ns x ∧ b = v1 ns x y ∧ c = v2 ns x y z
  | _, _, _, _, _ => False
def put3 (q : Nat) (v : Int) (a b c : Int) : Int × Int × Int := match q with | 0 => (v, b, c) | 1 => (a, v, c) | _ => (a, b, v)
theorem St.step {ns now : List (List UInt8)} {x y z s : List UInt8} {q : Nat} {a b c : Int} (h : St ns x y z q now a b c) (hq : q < 3) (hs : [x, y, z][q]? = some s) (hr : rn s = true) :
    St ns x y z (q + 1) (addN now s) (put3 q (findN (addN now s) s : Nat) a b c).1 (put3 q (findN (addN now s) s : Nat) a b c).2.1 (put3 q (findN (addN now s) s : Nat) a b c).2.2 := by
  match q, hq with
  | 0, _ =>
    cases hs
    obtain rfl : now = ns := h
    exact ⟨rfl, hr, rfl⟩
  | 1, _ =>
    cases hs
    obtain ⟨rfl, h1, rfl⟩ := h
    exact ⟨rfl, h1, hr, rfl, rfl⟩
  | 2, _ =>
    cases hs
    obtain ⟨rfl, h1, h2, rfl, rfl⟩ := h
    exact ⟨rfl, ⟨h1, h2, hr⟩, rfl, rfl, rfl⟩
theorem tpar3_wrong {ns : List (List UInt8)} {x y z s : List UInt8} {q : Nat} (hs : [x, y, z][q]? = some s) (hr : rn s = false) : tpar3 ns x y z = ((0, 0, 0), ns, 14) := by
  have : (rn x && rn y && rn z) = false := by
    match q, hs with
    | 0, hs => cases hs; simp [hr]
    | 1, hs => cases hs; simp [hr]
    | 2, hs => cases hs; simp [hr]
  unfold tpar3
  rw [if_pos this]
theorem tpar3_end {ns now : List (List UInt8)} {x y z : List UInt8} {a b c : Int} (h : St ns x y z 3 now a b c) : tpar3 ns x y z = if 4096 < now.length then ((0, 0, 0), ns, 15) else ((a, b, c), now, 0) := by
  obtain ⟨rfl, ⟨h1, h2, h3⟩, rfl, rfl, rfl⟩ := h
  unfold tpar3
  rw [if_neg (by rw [h1, h2, h3]; simp)]
theorem St.len {ns now : List (List UInt8)} {x y z : List UInt8} {a b c : Int} {q : Nat} (h : St ns x y z q now a b c) : now.length ≤ ns.length + q := by
  have h1 := addN_len ns x
  have h2 := addN_len (addN ns x) y
  have h3 := addN_len (addN (addN ns x) y) z
  match q, h with
  | 0, h =>
    obtain rfl : now = ns := h
    omega
  | 1, h =>
    obtain ⟨rfl, _⟩ := h
    exact h1
  | 2, h =>
    obtain ⟨rfl, _⟩ := h
    show (addN (addN ns x) y).length ≤ _
    omega
  | 3, h =>
    obtain ⟨rfl, _⟩ := h
    show (addN (addN (addN ns x) y) z).length ≤ _
    omega
theorem St.names {ns now : List (List UInt8)} {x y z : List UInt8} {a b c : Int} {q : Nat} (h : St ns x y z q now a b c) (hN : Names ns) : Names now ∧ now.length ≤ ns.length + q := by
  match q, h with
  | 0, h =>
    obtain rfl : now = ns := h
    exact ⟨hN, by omega⟩
  | 1, h =>
    obtain ⟨rfl, h1, _⟩ := h
    exact ⟨hN.add h1, addN_len _ _⟩
  | 2, h =>
    obtain ⟨rfl, h1, h2, _⟩ := h
    refine ⟨(hN.add h1).add h2, ?_⟩
    show (addN (addN ns x) y).length ≤ _
    have := addN_len ns x
    have := addN_len (addN ns x) y
    omega
  | 3, h =>
    obtain ⟨rfl, ⟨h1, h2, h3⟩, _⟩ := h
    refine ⟨((hN.add h1).add h2).add h3, ?_⟩
    show (addN (addN (addN ns x) y) z).length ≤ _
    have := addN_len ns x
    have := addN_len (addN ns x) y
    have := addN_len (addN (addN ns x) y) z
    omega
end Go.TX
