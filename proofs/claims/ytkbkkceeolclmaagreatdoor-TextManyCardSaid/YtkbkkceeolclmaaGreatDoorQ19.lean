/- Rows of conditions that the program's reader has made. -/
import Derived.Test.YtkbkkceeolclmaaGreatDoorQ18
set_option linter.unusedVariables false
set_option linter.unusedSimpArgs false
namespace Go.Proofs.YtkbkkceeolclmaaGreatDoor.X
open Go.RowKit Go.TX Go.Proofs.YtkbkkceeolclmaaGreatDoorW.PrintWords Go.Proofs.YtkbkkceeolclmaaGreatDoorL
def is72 (W : World) (b : Nat) : Prop := ∃ q : Array Value, W.heap[b]? = some (.cells q 72 (0, 0))
/-- Conditions in a row of the call's own, made since block n. -/
def BX (n : Nat) (W : World) (v : Value) (l : List Cd) : Prop :=
  ∃ css : List (List Value), css.length = l.length ∧ W.ownsRow n 72 8 v l.length css.flatten ∧ ∀ i (h : i < l.length), ∃ cs, css[i]? = some cs ∧ cs.length = 8 ∧ Rep evA W (fun b => (n ≤ b ∧ is72 W b) ∧ v.ownBlock ≠ some b) l[i] cs
theorem BX.nil (n : Nat) (W : World) : BX n W (.slice none 0 0) [] := ⟨[], rfl, World.ownsRow_nil _ _ _ _, fun _ h => absurd h (Nat.not_lt_zero _)⟩
theorem BX.form {n : Nat} {W : World} {v : Value} {l : List Cd} (h : BX n W v l) : ∃ A cap, v = .slice A l.length cap := by
  obtain ⟨css, hl, ho, hr⟩ := h
  exact owns_form ho
/-- They are there to be read. -/
theorem BX.reads {n : Nat} {W : World} {v : Value} {l : List Cd} (h : BX n W v l) : ∃ A cap, v = .slice A l.length cap ∧ RepL evA W (fun b => n ≤ b ∧ is72 W b) l A 0 := by
  obtain ⟨css, hl, ho, hr⟩ := h
  have h8 : ∀ cs ∈ css, cs.length = 8 := fun cs hc => by
    obtain ⟨i, hi, e⟩ := List.getElem_of_mem hc
    obtain ⟨cs', h1, h2, _⟩ := hr i (by omega)
    rw [List.getElem?_eq_getElem hi, e] at h1
    cases h1
    exact h2
  by_cases h0 : 0 < l.length
  · obtain ⟨g, cap, rfl, hg, hgl⟩ := owns_form1 ho h0
    have hty : is72 W g := own_typed ho g rfl
    refine ⟨_, cap, rfl, ?_⟩
    suffices hs : ∀ (m : List Cd) (j : Nat), j + m.length = l.length → (∀ i (h : i < m.length), l[j + i]? = some m[i]) → RepL evA W (fun b => n ≤ b ∧ is72 W b) m (some ⟨g, 0, none⟩) j from hs l 0 (by simp) (fun i h => by simp)
    intro m
    induction m with
    | nil => intro j _ _; unfold RepL; trivial
    | cons x m ih =>
      intro j hj hm
      unfold RepL
      have hjl : j < l.length := by simp at hj; omega
      have hx := hm 0 (by simp)
      simp only [Nat.add_zero, List.getElem_cons_zero] at hx
      obtain ⟨cs, h1, h2, h3⟩ := hr j hjl
      have hlx : l[j] = x := by rw [List.getElem?_eq_getElem hjl] at hx; exact Option.some.inj hx
      rw [hlx] at h3
      refine ⟨⟨g, 0, cs, rfl, ⟨hg, hty⟩, hgl, Rep.mono (fun b hb => hb.1) x cs h3, fun q u hu => ?_⟩, ih (j + 1) (by simp at hj; omega) (fun i hi => ?_)⟩
      · have hf := flat_at h8 j cs h1 q u hu
        have hlt := (List.getElem?_eq_some_iff.1 hf).1
        rw [Nat.zero_add, ho.cellAt (j * 8 + q) (by
          have : css.flatten.length = l.length * 8 := by
            clear hf hlt hr h1
            rw [← hl]
            clear hl ho
            induction css with
            | nil => rfl
            | cons c css ihc => rw [List.flatten_cons, List.length_append, h8 c (by simp), ihc (fun x hx => h8 x (by simp [hx])), List.length_cons]; omega
          omega)]
        exact hf
      · have := hm (i + 1) (by simpa using hi)
        rw [show j + 1 + i = j + (i + 1) by omega]
        simpa using this
  · have hnil : l = [] := List.length_eq_zero_iff.1 (by omega)
    subst hnil
    obtain ⟨a, cap, rfl⟩ := owns_form ho
    exact ⟨a, cap, rfl, by unfold RepL; trivial⟩
/-- They stay where rows of conditions stay. -/
theorem BX.k72 {n : Nat} {W W' : World} {v : Value} {l : List Cd} (h : BX n W v l) (hk : ∀ (b : Nat) (cs : Array Value), W.heap[b]? = some (.cells cs 72 (0, 0)) → W'.heap[b]? = W.heap[b]?) : BX n W' v l := by
  obtain ⟨css, hl, ho, hr⟩ := h
  refine ⟨css, hl, owns_move ho (fun b _ _ e => ?_), fun i hi => ?_⟩
  · obtain ⟨cs, hcs⟩ := own_typed ho b e
    exact hk b cs hcs
  · obtain ⟨cs, h1, h2, h3⟩ := hr i hi
    refine ⟨cs, h1, h2, Rep.mono (fun b hb => ⟨⟨hb.1.1, ?_⟩, hb.2⟩) _ cs (Rep.move _ cs h3 fun b hf _ => hf.1.2.elim fun q hq => hk b q hq)⟩
    obtain ⟨q, hq⟩ := hb.1.2
    exact ⟨q, (hk b q hq).trans hq⟩
theorem BX.fr {n : Nat} {W W' : World} {F : Nat → Prop} {v : Value} {l : List Cd} (h : BX n W v l) (hf : Fr W W' F) : BX n W' v l := h.k72 hf.k72
theorem BX.below {n : Nat} {W W' : World} {v : Value} {l : List Cd} (h : BX n W v l) (hb : Below W.heap.size W W') : BX n W' v l := h.k72 fun b _ e => hb.block b (blk_lt e)
theorem BX.base {n m : Nat} {W : World} {v : Value} {l : List Cd} (h : BX n W v l) (hm : m ≤ n) : BX m W v l := by
  obtain ⟨css, hl, ho, hr⟩ := h
  refine ⟨css, hl, ⟨ho.1, ho.2.imp id (fun ⟨g, cap, cur, e, hb, q⟩ => ⟨g, cap, cur, e, Nat.le_trans hm hb, q⟩)⟩, fun i hi => ?_⟩
  obtain ⟨cs, h1, h2, h3⟩ := hr i hi
  exact ⟨cs, h1, h2, Rep.mono (fun b hb => ⟨⟨Nat.le_trans hm hb.1.1, hb.1.2⟩, hb.2⟩) _ cs h3⟩
/-- One more. -/
theorem BX.snoc {n m : Nat} {W W' : World} {v v' : Value} {l : List Cd} {css : List (List Value)} (hl : css.length = l.length)
    (hr : ∀ i (h : i < l.length), ∃ cs, css[i]? = some cs ∧ cs.length = 8 ∧ Rep evA W (fun b => (n ≤ b ∧ is72 W b) ∧ v.ownBlock ≠ some b) l[i] cs) {x : Cd} {cs : List Value} (h8 : cs.length = 8)
    (hx : Rep evA W (fun b => m ≤ b ∧ is72 W b) x cs) (hm : n ≤ m) (hv : ∀ b, v.ownBlock = some b → b < m)
    (ho' : W'.ownsRow n 72 8 v' (l.length + 1) (css.flatten ++ cs)) (hg : W.grownBy W' v.ownBlock) (hf : ∀ b, v'.ownBlock = some b → v.ownBlock = some b ∨ W.heap.size ≤ b) : BX n W' v' (l ++ [x]) := by
  have far : ∀ (y : Cd) (c : List Value), Rep evA W (fun b => (n ≤ b ∧ is72 W b) ∧ v.ownBlock ≠ some b) y c → Rep evA W' (fun b => (n ≤ b ∧ is72 W' b) ∧ v'.ownBlock ≠ some b) y c := fun y c h =>
    Rep.mono (fun b hb => ⟨⟨hb.1.1.1, by
      obtain ⟨q, hq⟩ := hb.1.1.2
      exact ⟨q, (hg.block b hb.2 (fun e => hb.1.2 e.symm)).trans hq⟩⟩, fun e => by
      rcases hf b e with q | q
      · exact hb.1.2 q
      · have := hb.2; omega⟩) y c (Rep.move y c (Rep.bound y c h) fun b hb hlt => hg.block b hlt (fun e => hb.1.2 e.symm))
  refine ⟨css ++ [cs], by simp [hl], by rw [List.flatten_append]; simpa using ho', fun i hi => ?_⟩
  by_cases hil : i < l.length
  · obtain ⟨c, h1, h2, h3⟩ := hr i hil
    refine ⟨c, by rw [List.getElem?_append_left (by omega)]; exact h1, h2, ?_⟩
    rw [List.getElem_append_left hil]
    exact far _ _ h3
  · have e : i = l.length := by simp at hi; omega
    subst e
    refine ⟨cs, by rw [List.getElem?_append_right (by omega), hl]; simp, h8, ?_⟩
    rw [List.getElem_append_right (by omega)]
    simp only [Nat.sub_self, List.getElem_cons_zero]
    exact far _ _ (Rep.mono (fun b hb => ⟨⟨Nat.le_trans hm hb.1, hb.2⟩, fun e => by have := hv b e; omega⟩) x cs hx)
theorem BX.rep {n : Nat} {W : World} {S : Value} {k : Int} {a b c : Tm} {subs : List Cd} (h : BX n W S subs) (hl : subs.length ≤ 9223372036854775807) : Rep evA W (fun b => n ≤ b ∧ is72 W b) (.mk k a b c subs) [.int .i64 k, evA a.1, .int .i64 a.2, evA b.1, .int .i64 b.2, evA c.1, .int .i64 c.2, S] := by
  obtain ⟨A, cap, rfl, hr⟩ := h.reads
  unfold Rep
  exact ⟨A, cap, hl, rfl, hr⟩
end Go.Proofs.YtkbkkceeolclmaaGreatDoor.X
namespace Go.TX
/-- One step of reading; what it comes to, behind what was read. -/
def pre (acc : List Cd) (r : Option (List (List UInt8) × List Cd × List (List UInt8))) : Option (List (List UInt8) × List Cd × List (List UInt8)) := r.map fun p => (p.1, acc ++ p.2.1, p.2.2)
theorem pre_nil (r) : pre [] r = r := by cases r <;> simp [pre]
theorem pconds_group {n : Nat} {inner : Bool} {l ns n1 r : List (List UInt8)} {subs : List Cd} (acc : List Cd) (h : pconds n true l ns = some (n1, subs, r)) :
    pre acc (pconds (n + 1) inner ([45, 123] :: l) ns) = pre (acc ++ [.mk 3 (false, 0) (false, 0) (false, 0) subs]) (pconds n inner r n1) := by
  simp only [pconds]
  rw [if_neg (by decide), if_pos trivial, h]
  simp only
  cases pconds n inner r n1 with
  | none => rfl
  | some p => simp [pre]
theorem pconds_nogroup {n : Nat} {inner : Bool} {l ns : List (List UInt8)} (acc : List Cd) (h : pconds n true l ns = none) : pre acc (pconds (n + 1) inner ([45, 123] :: l) ns) = none := by
  simp only [pconds]
  rw [if_neg (by decide), if_pos trivial, h]
  rfl
theorem pconds_cond {n : Nat} {inner : Bool} {w y z : List UInt8} {r ns n1 : List (List UInt8)} {c : Cd} (acc : List Cd) (h1 : w ≠ [125]) (h2 : w ≠ [45, 123]) (h : pthree ns w y z = some (n1, c)) :
    pre acc (pconds (n + 1) inner (w :: y :: z :: r) ns) = pre (acc ++ [c]) (pconds n inner r n1) := by
  simp only [pconds]
  rw [if_neg h1, if_neg h2, h]
  simp only
  cases pconds n inner r n1 with
  | none => rfl
  | some p => simp [pre]
theorem pconds_nocond {n : Nat} {inner : Bool} {w y z : List UInt8} {r ns : List (List UInt8)} (acc : List Cd) (h1 : w ≠ [125]) (h2 : w ≠ [45, 123]) (h : pthree ns w y z = none) : pre acc (pconds (n + 1) inner (w :: y :: z :: r) ns) = none := by
  simp only [pconds]
  rw [if_neg h1, if_neg h2, h]
  rfl
theorem pconds_few {n : Nat} {inner : Bool} {w : List UInt8} {l ns : List (List UInt8)} (acc : List Cd) (h1 : w ≠ [125]) (h2 : w ≠ [45, 123]) (h : l.length < 2) : pre acc (pconds (n + 1) inner (w :: l) ns) = none := by
  simp only [pconds]
  rw [if_neg h1, if_neg h2]
  match l, h with
  | [], _ => rfl
  | [_], _ => rfl
end Go.TX
