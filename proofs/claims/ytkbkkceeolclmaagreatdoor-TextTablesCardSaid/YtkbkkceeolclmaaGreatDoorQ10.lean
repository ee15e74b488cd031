/- Rules as plain data: what is wrong with one; how a text is read whole. Which names may be: the program's look at runes, the document's at bytes. Which names may be: the document's look at bytes. -/
import Derived.Test.YtkbkkceeolclmaaGreatDoorProg
import Derived.WalkKit
import Derived.WalkLawsBesides
import Derived.ProofKit
import Derived.Laws.RangeAny
import Derived.Below
import Derived.Outline
import Derived.Test.YtkbkkceeolclmaaGreatDoorQ09
import Derived.Test.YtkbkkceeolclmaaGreatDoorQ07
set_option linter.unusedVariables false
set_option linter.unusedSimpArgs false
namespace Go.TX
open Go.Lib
/-- What is wrong with a rule. -/
def rchk (nm : List UInt8) (l : List Cd) : Int :=
  if rightName (str nm) = false then 1 else if l.isEmpty then 2 else if cchkL 1 l ≠ 0 then cchkL 1 l else if 16 < csizeL l then 7
  else if (List.range 32).any (fun v => decide (outR ((v : Int) + 1) l = 1)) then 6 else 0
def cutT (t : Tm) : Tm := if t.1 then t else (t.1, if t.2 ≤ 4096 then t.2 else 4096)
mutual
/-- A condition whose symbols are symbols. -/
def heldC : Cd → Cd
  | .mk k a b c subs => .mk k (cutT a) (cutT b) (cutT c) (heldL subs)
def heldL : List Cd → List Cd
  | [] => []
  | x :: l => heldC x :: heldL l
end

/-- A rule's text, the error's number. -/
def rtext (ns : List (List UInt8)) (nm : List UInt8) (l : List Cd) : List UInt8 × Int :=
  if rchk nm l ≠ 0 then ([], rchk nm l) else match cwordsL ns l with
    | some ws => (join (nm :: ws), 0)
    | none => ([], 16)
/-- The rule of a text, the names then, the error's number. -/
def rparse (ns : List (List UInt8)) (s : List UInt8) : (List UInt8 × List Cd) × List (List UInt8) × Int :=
  match words s with
  | [] => (([], []), ns, 14)
  | nm :: l => match pconds (l.length + 1) false l ns with
    | none => (([], []), ns, 14)
    | some (n1, out, _) =>
      if rightName (str nm) = false then (([], []), ns, 14)
      else if rchk nm (heldL out) ≠ 0 then (([], []), ns, rchk nm (heldL out))
      else if 4096 < n1.length then (([], []), ns, 15)
      else ((nm, out), n1, 0)
mutual
/-- No symbol is greater. -/
def lowC (N : Int) : Cd → Prop
  | .mk _ a b c subs => (a.1 = false → a.2 ≤ N) ∧ (b.1 = false → b.2 ≤ N) ∧ (c.1 = false → c.2 ≤ N) ∧ lowL N subs
def lowL (N : Int) : List Cd → Prop
  | [] => True
  | x :: l => lowC N x ∧ lowL N l
end
theorem cutT_low {t : Tm} (h : t.1 = false → t.2 ≤ 4096) : cutT t = t := by
  obtain ⟨b, n⟩ := t
  unfold cutT
  cases b with
  | true => rfl
  | false => simp [h rfl]
mutual
theorem heldC_low : ∀ (x : Cd), lowC 4096 x → heldC x = x
  | .mk k a b c subs, h => by
    unfold heldC
    rw [cutT_low h.1, cutT_low h.2.1, cutT_low h.2.2.1, heldL_low subs h.2.2.2]
theorem heldL_low : ∀ (l : List Cd), lowL 4096 l → heldL l = l
  | [], _ => rfl
  | x :: l, h => by
    unfold heldL
    rw [heldC_low x h.1, heldL_low l h.2]
end

mutual
theorem lowC_mono {N M : Int} (h : N ≤ M) : ∀ (x : Cd), lowC N x → lowC M x
  | .mk k a b c subs, hx => by
    unfold lowC at hx ⊢
    exact ⟨fun e => Int.le_trans (hx.1 e) h, fun e => Int.le_trans (hx.2.1 e) h, fun e => Int.le_trans (hx.2.2.1 e) h, lowL_mono h subs hx.2.2.2⟩
theorem lowL_mono {N M : Int} (h : N ≤ M) : ∀ (l : List Cd), lowL N l → lowL M l
  | [], _ => trivial
  | x :: l, hx => ⟨lowC_mono h x hx.1, lowL_mono h l hx.2⟩
end
theorem prefix_len {ns ms : List (List UInt8)} (h : ns <+: ms) : (ns.length : Int) ≤ ms.length := by
  have := h.length_le
  omega
theorem pthree_low {ns n1 : List (List UInt8)} {x y z : List UInt8} {c : Cd} (h : pthree ns x y z = some (n1, c)) : lowC n1.length c := by
  unfold pthree at h
  cases ho : cutOpen (cutDash x).2 with
  | none => rw [ho] at h; cases h
  | some u =>
  cases hs : cutShut z with
  | none => rw [ho, hs] at h; cases h
  | some v =>
  rw [ho, hs] at h
  simp only at h
  cases h1 : pterm ns u with
  | none => rw [h1] at h; cases h
  | some p1 =>
  obtain ⟨m1, a⟩ := p1
  rw [h1] at h
  simp only at h
  cases h2 : pterm m1 y with
  | none => rw [h2] at h; cases h
  | some p2 =>
  obtain ⟨m2, b⟩ := p2
  rw [h2] at h
  simp only at h
  cases h3 : pterm m2 v with
  | none => rw [h3] at h; cases h
  | some p3 =>
  obtain ⟨m3, d⟩ := p3
  rw [h3] at h
  simp only [Option.some.injEq, Prod.mk.injEq] at h
  obtain ⟨rfl, rfl⟩ := h
  obtain ⟨a1, _, _, _, a5, _⟩ := pterm_word h1
  obtain ⟨b1, _, _, _, b5, _⟩ := pterm_word h2
  obtain ⟨c1, _, _, _, c5, _⟩ := pterm_word h3
  have q1 := prefix_len (b1.trans c1)
  have q2 := prefix_len c1
  unfold lowC
  exact ⟨fun e => Int.le_trans (a5 e).2 q1, fun e => Int.le_trans (b5 e).2 q2, fun e => (c5 e).2, trivial⟩
theorem pconds_low : ∀ (n : Nat) (inner : Bool) (l : List (List UInt8)) (ns n1 : List (List UInt8)) (out : List Cd) (r : List (List UInt8)), pconds n inner l ns = some (n1, out, r) → lowL n1.length out
  | 0, _, _, _, _, _, _, h => by simp [pconds] at h
  | n + 1, inner, [], ns, n1, out, r, h => by
    unfold pconds at h
    split at h
    · cases h
    · cases h; trivial
  | n + 1, inner, w :: l, ns, n1, out, r, h => by
    unfold pconds at h
    split at h
    · split at h
      · cases h; trivial
      · cases h
    split at h
    · cases h1 : pconds n true l ns with
      | none => rw [h1] at h; cases h
      | some p =>
        obtain ⟨m1, subs, r1⟩ := p
        rw [h1] at h
        simp only at h
        cases h2 : pconds n inner r1 m1 with
        | none => rw [h2] at h; cases h
        | some q =>
          obtain ⟨m2, out2, r2⟩ := q
          rw [h2] at h
          simp only [Option.some.injEq, Prod.mk.injEq] at h
          obtain ⟨rfl, rfl, rfl⟩ := h
          have a := pconds_low n true l ns m1 subs r1 h1
          have b := pconds_low n inner r1 m1 m2 out2 r2 h2
          have q := prefix_len (pconds_words n inner r1 m1 m2 out2 r2 h2).1
          unfold lowL lowC
          exact ⟨⟨fun _ => by simp, fun _ => by simp, fun _ => by simp, lowL_mono q subs a⟩, b⟩
    · match l, h with
      | [], h => cases h
      | [y], h => cases h
      | y :: z :: t, h =>
        simp only at h
        cases h1 : pthree ns w y z with
        | none => rw [h1] at h; cases h
        | some p =>
          obtain ⟨m1, c⟩ := p
          rw [h1] at h
          simp only at h
          cases h2 : pconds n inner t m1 with
          | none => rw [h2] at h; cases h
          | some q =>
            obtain ⟨m2, out2, r2⟩ := q
            rw [h2] at h
            simp only [Option.some.injEq, Prod.mk.injEq] at h
            obtain ⟨rfl, rfl, rfl⟩ := h
            have q := prefix_len (pconds_words n inner t m1 m2 out2 r2 h2).1
            exact ⟨lowC_mono q c (pthree_low h1), pconds_low n inner t m1 m2 out2 r2 h2⟩
theorem good_of_rchk {nm : List UInt8} {l : List Cd} (h : rchk nm l = 0) : rightName (str nm) = true ∧ l ≠ [] ∧ goodL l ∧ csizeL l ≤ 16 := by
  unfold rchk at h
  split at h
  · omega
  rename_i h1
  split at h
  · omega
  rename_i h2
  split at h
  · omega
  rename_i h3
  split at h
  · omega
  rename_i h4
  exact ⟨by simpa using h1, by simpa using h2, goodL_of_chk 1 l (by simpa using h3), by omega⟩
theorem words_join : ∀ (l : List (List UInt8)) (a : List UInt8), (∀ x ∈ a :: l, (32 : UInt8) ∉ x) → words (join (a :: l)) = a :: l
  | [], a, h => words_one (h a (by simp))
  | b :: l, a, h => by
    show words (a ++ 32 :: join (b :: l)) = _
    rw [words_app (h a (by simp)), words_join l b (fun x hx => h x (by simp at hx ⊢; exact .inr hx))]
theorem tword_blank {ns : List (List UInt8)} (hN : Names ns) {t : Tm} {w : List UInt8} (h : tword ns t = some w) : (32 : UInt8) ∉ w := by
  unfold tword at h
  split at h
  · cases h
    intro hm
    rcases List.mem_cons.1 hm with e | hm
    · revert e; decide
    · exact dd_blank _ hm
  · split at h
    · obtain ⟨hlt, he⟩ := List.getElem?_eq_some_iff.1 h
      have hm : w ∈ ns := by rw [← he]; exact List.getElem_mem hlt
      have := right_blank (hN.2 w hm)
      simpa using this
    · cases h
mutual
theorem cwords_blank {ns : List (List UInt8)} (hN : Names ns) : ∀ (x : Cd) (ws), cwords ns x = some ws → ∀ w ∈ ws, (32 : UInt8) ∉ w
  | .mk k a b c subs, ws, h, w, hw => by
    unfold cwords at h
    split at h
    · cases h1 : cwordsL ns subs with
      | none => rw [h1] at h; cases h
      | some q =>
        rw [h1] at h
        simp at h
        subst h
        simp at hw
        rcases hw with rfl | hw | rfl
        · decide
        · exact cwordsL_blank hN subs q h1 w hw
        · decide
    · cases ha : tword ns a with
      | none => rw [ha] at h; cases h
      | some x => cases hb : tword ns b with
        | none => rw [ha, hb] at h; cases h
        | some y => cases hc : tword ns c with
          | none => rw [ha, hb, hc] at h; cases h
          | some z =>
            rw [ha, hb, hc] at h
            simp at h
            subst h
            have q1 := tword_blank hN ha
            have q2 := tword_blank hN hb
            have q3 := tword_blank hN hc
            simp at hw
            rcases hw with rfl | rfl | rfl
            · split <;> simp [q1]
            · exact q2
            · simp [q3]
theorem cwordsL_blank {ns : List (List UInt8)} (hN : Names ns) : ∀ (l : List Cd) (ws), cwordsL ns l = some ws → ∀ w ∈ ws, (32 : UInt8) ∉ w
  | [], ws, h, w, hw => by cases h; cases hw
  | x :: l, ws, h, w, hw => by
    unfold cwordsL at h
    cases h1 : cwords ns x with
    | none => rw [h1] at h; cases h
    | some a => cases h2 : cwordsL ns l with
      | none => rw [h1, h2] at h; cases h
      | some b =>
        rw [h1, h2] at h
        simp at h
        subst h
        rcases List.mem_append.1 hw with hw | hw
        · exact cwords_blank hN x a h1 w hw
        · exact cwordsL_blank hN l b h2 w hw
end
/-- What is written is read again: the same rule, and no name comes. -/
theorem rparse_rtext {ns : List (List UInt8)} (hN : Names ns) (hL : ns.length ≤ 4096) {nm : List UInt8} {l : List Cd} (h : (rtext ns nm l).2 = 0) (hl : heldL l = l) : rparse ns (rtext ns nm l).1 = ((nm, l), ns, 0) := by
  unfold rtext at h ⊢
  split at h
  · rename_i h1; exact absurd h h1
  rename_i h0
  rw [if_neg h0]
  simp only [ne_eq, Decidable.not_not] at h0
  obtain ⟨g1, g2, g3, _⟩ := good_of_rchk h0
  cases hw : cwordsL ns l with
  | none => rw [hw] at h; cases h
  | some ws =>
    simp only
    have hb : ∀ x ∈ nm :: ws, (32 : UInt8) ∉ x := fun x hx => by
      rcases List.mem_cons.1 hx with rfl | hx
      · have := right_blank g1
        simpa using this
      · exact cwordsL_blank hN l ws hw x hx
    unfold rparse
    rw [words_join ws nm hb]
    simp only
    rw [pconds_of hN hw g3 (Nat.lt_succ_self _)]
    simp only
    rw [if_neg (by rw [g1]; simp), hl, if_neg (by simp [h0]), if_neg (by omega)]
/-- What is read is written again as it was. -/
theorem rtext_rparse {ns n1 : List (List UInt8)} (s nm : List UInt8) (l : List Cd) (h : rparse ns s = ((nm, l), n1, 0)) : rtext n1 nm l = (s, 0) ∧ (Names ns → Names n1) ∧ ns <+: n1 ∧ heldL l = l ∧ n1.length ≤ 4096 := by
  unfold rparse at h
  cases hw : words s with
  | nil => rw [hw] at h; simp at h
  | cons a t =>
    rw [hw] at h
    simp only at h
    cases hp : pconds (t.length + 1) false t ns with
    | none => rw [hp] at h; simp at h
    | some p =>
      obtain ⟨m1, out, r⟩ := p
      rw [hp] at h
      simp only at h
      split at h
      · simp at h
      rename_i h1
      split at h
      · rename_i hc
        simp at h
        exact absurd h.2.2 hc
      rename_i h2
      split at h
      · simp at h
      rename_i h3
      simp only [Prod.mk.injEq] at h
      obtain ⟨⟨rfl, rfl⟩, rfl, _⟩ := h
      obtain ⟨a1, a2, ws, a3, a4, a5⟩ := pconds_words _ _ _ _ _ _ _ hp
      have hlow := heldL_low out (lowL_mono (by omega) out (pconds_low _ _ _ _ _ _ _ hp))
      rw [hlow] at h2
      refine ⟨?_, a2, a1, hlow, by omega⟩
      unfold rtext
      rw [if_neg h2, a3]
      simp only [a5 rfl, Bool.false_eq_true, if_false, List.append_nil] at a4
      rw [← a4]
      show (join (a :: t), (0 : Int)) = _
      rw [← hw, join_words]
end Go.TX
namespace Go.Proofs.YtkbkkceeolclmaaGreatDoor.X
open Go.RowKit Go.Lib Go.TX
structure Aside1 (p : Prop) : Prop where
  out : p
theorem all_at {s : ByteArray} (h : ∀ j (_ : j < s.size), okN s[j].toNat = true) : (s.data.toList.all fun b => okN b.toNat) = true := by
  rw [List.all_eq_true]
  intro b hb
  obtain ⟨j, hj, rfl⟩ := List.getElem_of_mem hb
  have hj' : j < s.size := by simpa using hj
  exact h j hj'
theorem right_all {s : ByteArray} (h : ∀ j (_ : j < s.size), okN s[j].toNat = true) : rightName s = (decide (1 ≤ s.size) && decide (s.size ≤ 32)) := by
  unfold rightName
  rw [all_at h, Bool.and_true]
theorem right_not {s : ByteArray} {j : Nat} (hj : j < s.size) (h : okN s[j].toNat = false) : rightName s = false := by
  unfold rightName
  have : (s.data.toList.all fun b => okN b.toNat) = false := by
    rw [List.all_eq_false]
    have hj' : j < s.data.toList.length := by simpa using hj
    refine ⟨s.data.toList[j], List.getElem_mem hj', ?_⟩
    rw [show s.data.toList[j] = s[j] from rfl, h]
    decide
  rw [this, Bool.and_false]
theorem iter_below (w : World) (s : ByteArray) (pos : Nat) : Below w.heap.size w (w.iter s pos) := (Below.refl w.heap.size w).alloc (Nat.le_refl _) _
set_option maxHeartbeats 4000000 in
set_option maxRecDepth 1000000 in
theorem right_walk (s : ByteArray) (hs : s.size ≤ 100000) (w : World) : Calls Tryz.prog 35 #[.string s] w fun e w' => e = .returned (.bool (rightName s)) ∧ Below w.heap.size w w' := by
  go_enter Tryz.func35, Tryz.ntmps35
  go_wp2_with fail
  go_loopw [4] (fun _ wr => ∃ pos, wr = w.iter s pos ∧ pos ≤ s.size ∧ ∀ j (_ : j < s.size), j < pos → okN s[j].toNat = true) (fun _ wr => s.size - wr.iterPos w.heap.size)
  case atStart => exact ⟨0, rfl, Nat.zero_le _, fun _ _ h => absurd h (by omega)⟩
  case round =>
    obtain ⟨pos, rfl, hpos, hall⟩ := hrel
    replace hall := Aside1.mk hall
    by_cases hp : pos < s.size
    · have hnx : ∀ ty, (Instr.next (.pointer (some ⟨w.heap.size, 0, none⟩)) true ty).run Tryz.prog (w.iter s pos) = _ := fun ty => run_next_any w s pos ty hp
      by_cases ha : (s[pos]'hp).toNat < 128
      · have hd := decode_ascii s pos hp ha
        rw [hd] at hnx
        have hnot : okN (s[pos]'hp).toNat = false → rightName s = false := right_not hp
        have hyes : okN (s[pos]'hp).toNat = true → ∀ j (_ : j < s.size), j < pos + 1 → okN s[j].toNat = true := fun h j hj hl => by
          by_cases e : j = pos
          · subst e; exact h
          · exact hall.out j hj (by omega)
        clear hd
        generalize (s[pos]'hp).toNat = c at hnx ha hnot hyes
        replace hnot := Aside1.mk hnot
        replace hyes := Aside1.mk hyes
        go_wp2_with fail
        all_goals first
          | (go_ret; exact ⟨congrArg (fun q => Ending.returned (.bool q)) (hnot.out (by unfold okN; simp_all; omega)).symm, iter_below _ _ _⟩)
          | (go_roundw; (case rel => exact ⟨pos + 1, rfl, by omega, hyes.out (by unfold okN; simp_all; omega)⟩); (case measure => simp; omega))
      · obtain ⟨h1, h2⟩ := decode_high s pos hp (by omega)
        have hnot : rightName s = false := right_not hp (by unfold okN; simp; omega)
        generalize Utf8.decode s pos = d at hnx h1 h2
        obtain ⟨d, k⟩ := d
        simp only at h1 h2 hnx
        replace hnot := Aside1.mk hnot
        have h3 : (128 : Int) ≤ d := by omega
        go_wp2_with fail
        all_goals (go_ret; exact ⟨congrArg (fun q => Ending.returned (.bool q)) hnot.out.symm, iter_below _ _ _⟩)
    · have hnx : ∀ ty, (Instr.next (.pointer (some ⟨w.heap.size, 0, none⟩)) true ty).run Tryz.prog (w.iter s pos) = _ := fun ty => run_next_end w s pos ty hp
      have hr := Aside1.mk (right_all (s := s) (fun j hj => hall.out j hj (by omega)))
      go_wp2_with fail
      all_goals
        go_ret
        refine ⟨?_, iter_below _ _ _⟩
        rw [hr.out]
        first
          | exact congrArg (fun q => Ending.returned (.bool q)) (show decide ((s.size : Int) ≤ 32) = (decide (1 ≤ s.size) && decide (s.size ≤ 32)) by rw [Bool.eq_iff_iff]; simp; omega)
          | exact congrArg (fun q => Ending.returned (.bool q)) (show false = (decide (1 ≤ s.size) && decide (s.size ≤ 32)) by rw [Bool.eq_iff_iff]; simp; omega)
end Go.Proofs.YtkbkkceeolclmaaGreatDoor.X
namespace Go.Proofs.YtkbkkceeolclmaaGreatDoor.X
open Go.RowKit Go.Lib Go.TX
set_option maxHeartbeats 4000000 in
set_option maxRecDepth 1000000 in
theorem rright_walk (s : ByteArray) (hs : s.size ≤ 100000) (w : World) : Calls Tryz.prog 42 #[.string s] w fun e w' => e = .returned (.bool (rightName s)) ∧ w = w' := by
  by_cases h1 : 1 ≤ s.size
  · by_cases h2 : s.size ≤ 32
    · have g1 : ¬ (s.size : Int) < 1 := by omega
      have g2 : ¬ (32 : Int) < s.size := by omega
      go_enter Tryz.func42, Tryz.ntmps42
      go_wp2_with fail
      go_loopw [3] (fun a wr => ∃ pos : Nat, a = .int .i64 (pos : Int) ∧ w = wr ∧ pos ≤ s.size ∧ ∀ j (_ : j < s.size), j < pos → okN s[j].toNat = true) (fun a _ => s.size - (intOf a).toNat)
      case atStart => exact ⟨0, rfl, rfl, Nat.zero_le _, fun _ _ h => absurd h (by omega)⟩
      case round =>
        obtain ⟨pos, rfl, rfl, hpos, hall⟩ := hrel
        replace hall := Aside1.mk hall
        by_cases hp : pos < s.size
        · have hnot : okN (s[pos]'hp).toNat = false → rightName s = false := right_not hp
          have hyes : okN (s[pos]'hp).toNat = true → ∀ j (_ : j < s.size), j < pos + 1 → okN s[j].toNat = true := fun h j hj hl => by
            by_cases e : j = pos
            · subst e; exact h
            · exact hall.out j hj (by omega)
          replace hnot := Aside1.mk hnot
          replace hyes := Aside1.mk hyes
          generalize hc : (s[pos]'hp).toNat = c at hnot hyes
          have hcc := Aside1.mk hc
          go_wp2_with fail
          all_goals
            rw [hc] at *
          all_goals first
            | (go_ret; exact ⟨congrArg (fun q => Ending.returned (.bool q)) (hnot.out (by unfold okN; simp_all; omega)).symm, rfl⟩)
            | (go_roundw; (case rel => exact ⟨pos + 1, by go_num, trivial, by omega, hyes.out (by unfold okN; simp_all <;> omega)⟩); (case measure => (simp [intOf]; try omega)))
        · have hr := Aside1.mk (right_all (s := s) (fun j hj => hall.out j hj (by omega)))
          go_wp2_with fail
          go_ret
          refine ⟨?_, rfl⟩
          rw [hr.out]
          exact congrArg (fun q => Ending.returned (.bool q)) (show true = (decide (1 ≤ s.size) && decide (s.size ≤ 32)) by rw [Bool.eq_iff_iff]; simp; omega)
    · have h3 : rightName s = false := by unfold rightName; simp [h2]
      rw [h3]
      have g1 : ¬ (s.size : Int) < 1 := by omega
      have g2 : (32 : Int) < s.size := by omega
      go_enter Tryz.func42, Tryz.ntmps42
      go_wp2_with fail
      go_ret
      exact ⟨rfl, rfl⟩
  · have h3 : rightName s = false := by unfold rightName; simp [h1]
    rw [h3]
    have g1 : (s.size : Int) < 1 := by omega
    go_enter Tryz.func42, Tryz.ntmps42
    go_wp2_with fail
    go_ret
    exact ⟨rfl, rfl⟩
end Go.Proofs.YtkbkkceeolclmaaGreatDoor.X
