/- Which names may be: the program's look at runes, the document's at bytes. Which names may be: the document's look at bytes. Rules in memory, to be read: trees of conditions. The size of a condition. -/
import Derived.Test.YtkbkkceeolclmaaGreatDoorProg
import Derived.WalkKit
import Derived.WalkLawsBesides
import Derived.ProofKit
import Derived.Laws.RangeAny
import Derived.Below
import Derived.Outline
import Derived.OwnWalk
import Derived.LoopTactic
import Derived.Deep.LoopGhost
import Derived.Test.YtkbkkceeolclmaaGreatDoorQ06
import Derived.Test.YtkbkkceeolclmaaGreatDoorQ07
import Derived.Test.YtkbkkceeolclmaaGreatDoorQw
set_option linter.unusedVariables false
set_option linter.unusedSimpArgs false
namespace Go.Proofs.YtkbkkceeolclmaaGreatDoor.X
open Go.RowKit Go.Lib Go.TX
structure Aside1 (p : Prop) : Prop where
  out : p
theorem all_at {s : ByteArray} (h : ∀ j (_ : j < s.size), okN s[j].toNat = true) : (s.data.toList.all fun b => okN b.toNat) = true := by
  rw [List.all_eq_true]
  intro b hb
  obtain ⟨j, hj, rfl⟩ := List.getElem_of_mem hb
  have hj' : j < s.size := by simpa using hj
  exact h j hj'
theorem right_all {s : ByteArray} (h : ∀ j (_ : j < s.size), okN s[j].toNat = true) : rightName s = (decide (1 ≤ s.size) && decide (s.size ≤ 32)) := by
  unfold rightName
  rw [all_at h, Bool.and_true]
theorem right_not {s : ByteArray} {j : Nat} (hj : j < s.size) (h : okN s[j].toNat = false) : rightName s = false := by
  unfold rightName
  have : (s.data.toList.all fun b => okN b.toNat) = false := by
    rw [List.all_eq_false]
    have hj' : j < s.data.toList.length := by simpa using hj
    refine ⟨s.data.toList[j], List.getElem_mem hj', ?_⟩
    rw [show s.data.toList[j] = s[j] from rfl, h]
    decide
  rw [this, Bool.and_false]
theorem iter_below (w : World) (s : ByteArray) (pos : Nat) : Below w.heap.size w (w.iter s pos) := (Below.refl w.heap.size w).alloc (Nat.le_refl _) _
set_option maxHeartbeats 4000000 in
set_option maxRecDepth 1000000 in
theorem right_walk (s : ByteArray) (hs : s.size ≤ 100000) (w : World) : Calls Tryz.prog 35 #[.string s] w fun e w' => e = .returned (.bool (rightName s)) ∧ Below w.heap.size w w' := by
  go_enter Tryz.func35, Tryz.ntmps35
  go_wp2_with fail
  go_loopw [4] (fun _ wr => ∃ pos, wr = w.iter s pos ∧ pos ≤ s.size ∧ ∀ j (_ : j < s.size), j < pos → okN s[j].toNat = true) (fun _ wr => s.size - wr.iterPos w.heap.size)
  case atStart => exact ⟨0, rfl, Nat.zero_le _, fun _ _ h => absurd h (by omega)⟩
  case round =>
    obtain ⟨pos, rfl, hpos, hall⟩ := hrel
    replace hall := Aside1.mk hall
    by_cases hp : pos < s.size
    · have hnx : ∀ ty, (Instr.next (.pointer (some ⟨w.heap.size, 0, none⟩)) true ty).run Tryz.prog (w.iter s pos) = _ := fun ty => run_next_any w s pos ty hp
      by_cases ha : (s[pos]'hp).toNat < 128
      · have hd := decode_ascii s pos hp ha
        rw [hd] at hnx
        have hnot : okN (s[pos]'hp).toNat = false → rightName s = false := right_not hp
        have hyes : okN (s[pos]'hp).toNat = true → ∀ j (_ : j < s.size), j < pos + 1 → okN s[j].toNat = true := fun h j hj hl => by
          by_cases e : j = pos
          · subst e; exact h
          · exact hall.out j hj (by omega)
        clear hd
        generalize (s[pos]'hp).toNat = c at hnx ha hnot hyes
        replace hnot := Aside1.mk hnot
        replace hyes := Aside1.mk hyes
        go_wp2_with fail
        all_goals first
          | (go_ret; exact ⟨congrArg (fun q => Ending.returned (.bool q)) (hnot.out (by unfold okN; simp_all; omega)).symm, iter_below _ _ _⟩)
          | (go_roundw; (case rel => exact ⟨pos + 1, rfl, by omega, hyes.out (by unfold okN; simp_all; omega)⟩); (case measure => simp; omega))
      · obtain ⟨h1, h2⟩ := decode_high s pos hp (by omega)
        have hnot : rightName s = false := right_not hp (by unfold okN; simp; omega)
        generalize Utf8.decode s pos = d at hnx h1 h2
        obtain ⟨d, k⟩ := d
        simp only at h1 h2 hnx
        replace hnot := Aside1.mk hnot
        have h3 : (128 : Int) ≤ d := by omega
        go_wp2_with fail
        all_goals (go_ret; exact ⟨congrArg (fun q => Ending.returned (.bool q)) hnot.out.symm, iter_below _ _ _⟩)
    · have hnx : ∀ ty, (Instr.next (.pointer (some ⟨w.heap.size, 0, none⟩)) true ty).run Tryz.prog (w.iter s pos) = _ := fun ty => run_next_end w s pos ty hp
      have hr := Aside1.mk (right_all (s := s) (fun j hj => hall.out j hj (by omega)))
      go_wp2_with fail
      all_goals
        go_ret
        refine ⟨?_, iter_below _ _ _⟩
        rw [hr.out]
        first
          | exact congrArg (fun q => Ending.returned (.bool q)) (show decide ((s.size : Int) ≤ 32) = (decide (1 ≤ s.size) && decide (s.size ≤ 32)) by rw [Bool.eq_iff_iff]; simp; omega)
          | exact congrArg (fun q => Ending.returned (.bool q)) (show false = (decide (1 ≤ s.size) && decide (s.size ≤ 32)) by rw [Bool.eq_iff_iff]; simp; omega)
end Go.Proofs.YtkbkkceeolclmaaGreatDoor.X
namespace Go.Proofs.YtkbkkceeolclmaaGreatDoor.X
open Go.RowKit Go.Lib Go.TX
set_option maxHeartbeats 4000000 in
set_option maxRecDepth 1000000 in
theorem rright_walk (s : ByteArray) (hs : s.size ≤ 100000) (w : World) : Calls Tryz.prog 42 #[.string s] w fun e w' => e = .returned (.bool (rightName s)) ∧ w = w' := by
  by_cases h1 : 1 ≤ s.size
  · by_cases h2 : s.size ≤ 32
    · have g1 : ¬ (s.size : Int) < 1 := by omega
      have g2 : ¬ (32 : Int) < s.size := by omega
      go_enter Tryz.func42, Tryz.ntmps42
      go_wp2_with fail
      go_loopw [3] (fun a wr => ∃ pos : Nat, a = .int .i64 (pos : Int) ∧ w = wr ∧ pos ≤ s.size ∧ ∀ j (_ : j < s.size), j < pos → okN s[j].toNat = true) (fun a _ => s.size - (intOf a).toNat)
      case atStart => exact ⟨0, rfl, rfl, Nat.zero_le _, fun _ _ h => absurd h (by omega)⟩
      case round =>
        obtain ⟨pos, rfl, rfl, hpos, hall⟩ := hrel
        replace hall := Aside1.mk hall
        by_cases hp : pos < s.size
        · have hnot : okN (s[pos]'hp).toNat = false → rightName s = false := right_not hp
          have hyes : okN (s[pos]'hp).toNat = true → ∀ j (_ : j < s.size), j < pos + 1 → okN s[j].toNat = true := fun h j hj hl => by
            by_cases e : j = pos
            · subst e; exact h
            · exact hall.out j hj (by omega)
          replace hnot := Aside1.mk hnot
          replace hyes := Aside1.mk hyes
          generalize hc : (s[pos]'hp).toNat = c at hnot hyes
          have hcc := Aside1.mk hc
          go_wp2_with fail
          all_goals
            rw [hc] at *
          all_goals first
            | (go_ret; exact ⟨congrArg (fun q => Ending.returned (.bool q)) (hnot.out (by unfold okN; simp_all; omega)).symm, rfl⟩)
            | (go_roundw; (case rel => exact ⟨pos + 1, by go_num, trivial, by omega, hyes.out (by unfold okN; simp_all <;> omega)⟩); (case measure => (simp [intOf]; try omega)))
        · have hr := Aside1.mk (right_all (s := s) (fun j hj => hall.out j hj (by omega)))
          go_wp2_with fail
          go_ret
          refine ⟨?_, rfl⟩
          rw [hr.out]
          exact congrArg (fun q => Ending.returned (.bool q)) (show true = (decide (1 ≤ s.size) && decide (s.size ≤ 32)) by rw [Bool.eq_iff_iff]; simp; omega)
    · have h3 : rightName s = false := by unfold rightName; simp [h2]
      rw [h3]
      have g1 : ¬ (s.size : Int) < 1 := by omega
      have g2 : (32 : Int) < s.size := by omega
      go_enter Tryz.func42, Tryz.ntmps42
      go_wp2_with fail
      go_ret
      exact ⟨rfl, rfl⟩
  · have h3 : rightName s = false := by unfold rightName; simp [h1]
    rw [h3]
    have g1 : (s.size : Int) < 1 := by omega
    go_enter Tryz.func42, Tryz.ntmps42
    go_wp2_with fail
    go_ret
    exact ⟨rfl, rfl⟩
end Go.Proofs.YtkbkkceeolclmaaGreatDoor.X
namespace Go.TX
open RowKit
mutual
/-- The cells of a condition; ev: how it is told whether a term is a variable; F: the blocks in which those below it lie. -/
def Rep (ev : Bool → Value) (w : World) (F : Nat → Prop) : Cd → List Value → Prop
  | .mk k a b c subs, cs => ∃ A cap, subs.length ≤ 9223372036854775807 ∧ cs = [.int .i64 k, ev a.1, .int .i64 a.2, ev b.1, .int .i64 b.2, ev c.1, .int .i64 c.2, .slice A subs.length cap] ∧ RepL ev w F subs A 0
/-- Conditions in a row, from place j on. -/
def RepL (ev : Bool → Value) (w : World) (F : Nat → Prop) : List Cd → Option Addr → Nat → Prop
  | [], _, _ => True
  | x :: l, A, j => (∃ b o cs, A = some ⟨b, o, none⟩ ∧ F b ∧ b < w.heap.size ∧ Rep ev w F x cs ∧ ∀ i u, cs[i]? = some u → w.cell? ⟨b, o + j * 8 + i, none⟩ = some u) ∧ RepL ev w F l A (j + 1)
end

section
variable {ev : Bool → Value} {w W : World} {F G : Nat → Prop}
mutual
theorem Rep.move : ∀ (x : Cd) (cs), Rep ev w F x cs → (∀ b, F b → b < w.heap.size → W.heap[b]? = w.heap[b]?) → Rep ev W F x cs
  | .mk k a b c subs, cs, h, hm => by
    unfold Rep at h ⊢
    obtain ⟨A, cap, h0, h1, h2⟩ := h
    exact ⟨A, cap, h0, h1, RepL.move subs A 0 h2 hm⟩
theorem RepL.move : ∀ (l : List Cd) (A) (j), RepL ev w F l A j → (∀ b, F b → b < w.heap.size → W.heap[b]? = w.heap[b]?) → RepL ev W F l A j
  | [], _, _, _, _ => by unfold RepL; trivial
  | x :: l, A, j, h, hm => by
    unfold RepL at h ⊢
    obtain ⟨⟨b, o, cs, h1, h2, h3, h4, h5⟩, h6⟩ := h
    have e := hm b h2 h3
    have hlt : b < W.heap.size := by
      rw [Array.getElem?_eq_getElem h3] at e
      exact (Array.getElem?_eq_some_iff.1 e).1
    exact ⟨⟨b, o, cs, h1, h2, hlt, Rep.move x cs h4 hm, fun i u hu => (World.cell?_of_block e).trans (h5 i u hu)⟩, RepL.move l A (j + 1) h6 hm⟩
end
mutual
theorem Rep.mono (hf : ∀ b, F b → G b) : ∀ (x : Cd) (cs), Rep ev w F x cs → Rep ev w G x cs
  | .mk k a b c subs, cs, h => by
    unfold Rep at h ⊢
    obtain ⟨A, cap, h0, h1, h2⟩ := h
    exact ⟨A, cap, h0, h1, RepL.mono hf subs A 0 h2⟩
theorem RepL.mono (hf : ∀ b, F b → G b) : ∀ (l : List Cd) (A) (j), RepL ev w F l A j → RepL ev w G l A j
  | [], _, _, _ => by unfold RepL; trivial
  | x :: l, A, j, h => by
    unfold RepL at h ⊢
    obtain ⟨⟨b, o, cs, h1, h2, h3, h4, h5⟩, h6⟩ := h
    exact ⟨⟨b, o, cs, h1, hf b h2, h3, Rep.mono hf x cs h4, h5⟩, RepL.mono hf l A (j + 1) h6⟩
end
mutual
theorem Rep.bound : ∀ (x : Cd) (cs), Rep ev w F x cs → Rep ev w (fun b => F b ∧ b < w.heap.size) x cs
  | .mk k a b c subs, cs, h => by
    unfold Rep at h ⊢
    obtain ⟨A, cap, h0, h1, h2⟩ := h
    exact ⟨A, cap, h0, h1, RepL.bound subs A 0 h2⟩
theorem RepL.bound : ∀ (l : List Cd) (A) (j), RepL ev w F l A j → RepL ev w (fun b => F b ∧ b < w.heap.size) l A j
  | [], _, _, _ => by unfold RepL; trivial
  | x :: l, A, j, h => by
    unfold RepL at h ⊢
    obtain ⟨⟨b, o, cs, h1, h2, h3, h4, h5⟩, h6⟩ := h
    exact ⟨⟨b, o, cs, h1, ⟨h2, h3⟩, h3, Rep.bound x cs h4, h5⟩, RepL.bound l A (j + 1) h6⟩
end
theorem Rep.below {x : Cd} {cs : List Value} (h : Rep ev w F x cs) (hb : Below w.heap.size w W) : Rep ev W F x cs := Rep.move x cs h fun b _ hl => hb.block b hl
theorem RepL.below {l : List Cd} {A : Option Addr} {j : Nat} (h : RepL ev w F l A j) (hb : Below w.heap.size w W) : RepL ev W F l A j := RepL.move l A j h fun b _ hl => hb.block b hl
/-- One of a row. -/
theorem RepL.get : ∀ {l : List Cd} {A : Option Addr} {j : Nat}, RepL ev w F l A j → ∀ (i : Nat) (hi : i < l.length), ∃ b o cs, A = some ⟨b, o, none⟩ ∧ F b ∧ b < w.heap.size ∧ Rep ev w F l[i] cs ∧ ∀ q u, cs[q]? = some u → w.cell? ⟨b, o + (j + i) * 8 + q, none⟩ = some u
  | x :: l, A, j, h, 0, _ => by
    unfold RepL at h
    exact h.1
  | x :: l, A, j, h, i + 1, hi => by
    unfold RepL at h
    obtain ⟨b, o, cs, h1, h2, h3, h4, h5⟩ := RepL.get h.2 i (by simpa using hi)
    exact ⟨b, o, cs, h1, h2, h3, h4, fun q u hu => by rw [show j + (i + 1) = j + 1 + i by omega]; exact h5 q u hu⟩
/-- Its cells, one by one. -/
theorem RepL.at {l : List Cd} {A : Option Addr} (h : RepL ev w F l A 0) {i : Nat} (hi : i < l.length) :
    ∃ b o k x y z subs B cap, A = some ⟨b, o, none⟩ ∧ F b ∧ b < w.heap.size ∧ l[i] = .mk k x y z subs ∧ subs.length ≤ 9223372036854775807 ∧ RepL ev w F subs B 0 ∧
      w.cell? ⟨b, o + i * 8, none⟩ = some (.int .i64 k) ∧ w.cell? ⟨b, o + i * 8 + 1, none⟩ = some (ev x.1) ∧ w.cell? ⟨b, o + i * 8 + 2, none⟩ = some (.int .i64 x.2) ∧ w.cell? ⟨b, o + i * 8 + 3, none⟩ = some (ev y.1) ∧ w.cell? ⟨b, o + i * 8 + 4, none⟩ = some (.int .i64 y.2) ∧
      w.cell? ⟨b, o + i * 8 + 5, none⟩ = some (ev z.1) ∧ w.cell? ⟨b, o + i * 8 + 6, none⟩ = some (.int .i64 z.2) ∧ w.cell? ⟨b, o + i * 8 + 7, none⟩ = some (.slice B subs.length cap) := by
  obtain ⟨b, o, cs, h1, h2, h3, h4, h5⟩ := h.get i hi
  rw [Nat.zero_add] at h5
  cases hx : l[i] with
  | mk k x y z subs =>
    rw [hx] at h4
    unfold Rep at h4
    obtain ⟨B, cap, h7, rfl, h6⟩ := h4
    exact ⟨b, o, k, x, y, z, subs, B, cap, h1, h2, h3, rfl, h7, h6, h5 0 _ rfl, h5 1 _ rfl, h5 2 _ rfl, h5 3 _ rfl, h5 4 _ rfl, h5 5 _ rfl, h5 6 _ rfl, h5 7 _ rfl⟩
end
end Go.TX
namespace Go.Proofs.YtkbkkceeolclmaaGreatDoor.X
open Go.RowKit Go.TX Go.Proofs.YtkbkkceeolclmaaGreatDoorW.PrintWords
abbrev evA (b : Bool) : Value := .bool b
def evI (b : Bool) : Int := if b then 1 else 0
abbrev evR (b : Bool) : Value := .int .i64 (evI b)
abbrev aC (ev : Bool → Value) (k : Int) (a b c : Tm) (S : Value) : Value := .agg #[.int .i64 k, ev a.1, .int .i64 a.2, ev b.1, .int .i64 b.2, ev c.1, .int .i64 c.2, S]
abbrev oC (ev : Bool → Value) (t : TypeId) (k : Int) (a b c : Tm) (S : Value) : Obj := .cells #[.int .i64 k, ev a.1, .int .i64 a.2, ev b.1, .int .i64 b.2, ev c.1, .int .i64 c.2, S] t
/-- The cells of a box that holds a condition. -/
theorem box8 {ev : Bool → Value} {w : World} {g : Nat} {t : TypeId} {k : Int} {a b c : Tm} {S : Value} (h : w.heap[g]? = some (oC ev t k a b c S)) :
    w.cell? ⟨g, 0, none⟩ = some (.int .i64 k) ∧ w.cell? ⟨g, 1, none⟩ = some (ev a.1) ∧ w.cell? ⟨g, 2, none⟩ = some (.int .i64 a.2) ∧ w.cell? ⟨g, 3, none⟩ = some (ev b.1) ∧ w.cell? ⟨g, 4, none⟩ = some (.int .i64 b.2) ∧ w.cell? ⟨g, 5, none⟩ = some (ev c.1) ∧ w.cell? ⟨g, 6, none⟩ = some (.int .i64 c.2) ∧ w.cell? ⟨g, 7, none⟩ = some S :=
  ⟨(blk_cell h 0).trans rfl, (blk_cell h 1).trans rfl, (blk_cell h 2).trans rfl, (blk_cell h 3).trans rfl, (blk_cell h 4).trans rfl, (blk_cell h 5).trans rfl, (blk_cell h 6).trans rfl, (blk_cell h 7).trans rfl⟩
theorem csizeL_take : ∀ (l : List Cd) (i : Nat) (hi : i < l.length), csizeL (l.take (i + 1)) = csizeL (l.take i) + csize l[i]
  | x :: l, 0, _ => by simp [csizeL]
  | x :: l, i + 1, hi => by
    have := csizeL_take l i (by simpa using hi)
    simp only [List.take_succ_cons, csizeL, List.getElem_cons_succ]
    omega
theorem csizeL_take_le (l : List Cd) (i : Nat) : csizeL (l.take i) ≤ csizeL l := by
  induction l generalizing i with
  | nil => simp
  | cons x l ih =>
    cases i with
    | zero => simp [csizeL]
    | succ i => have := ih i; simp only [List.take_succ_cons, csizeL]; omega
theorem csizeL_len : ∀ (l : List Cd), l.length ≤ csizeL l
  | [] => by simp [csizeL]
  | .mk k a b c subs :: l => by
    have := csizeL_len l
    simp only [csizeL, csize, List.length_cons]
    omega
/-- One of a row, as the walk wants it. -/
theorem sub_at {ev : Bool → Value} {w : World} {F : Nat → Prop} {l : List Cd} {A : Option Addr} (h : RepL ev w F l A 0) {i : Nat} (hi : i < l.length) :
    ∃ b o k x y z subs B cap, A = some ⟨b, o, none⟩ ∧ b < w.heap.size ∧ l[i] = .mk k x y z subs ∧ subs.length ≤ 9223372036854775807 ∧ RepL ev w F subs B 0 ∧ csizeL (l.take (i + 1)) = csizeL (l.take i) + (1 + csizeL subs) ∧ csizeL (l.take (i + 1)) ≤ csizeL l ∧
      w.cell? ⟨b, o + i * 8, none⟩ = some (.int .i64 k) ∧ w.cell? ⟨b, o + i * 8 + 1, none⟩ = some (ev x.1) ∧ w.cell? ⟨b, o + i * 8 + 2, none⟩ = some (.int .i64 x.2) ∧ w.cell? ⟨b, o + i * 8 + 3, none⟩ = some (ev y.1) ∧ w.cell? ⟨b, o + i * 8 + 4, none⟩ = some (.int .i64 y.2) ∧
      w.cell? ⟨b, o + i * 8 + 5, none⟩ = some (ev z.1) ∧ w.cell? ⟨b, o + i * 8 + 6, none⟩ = some (.int .i64 z.2) ∧ w.cell? ⟨b, o + i * 8 + 7, none⟩ = some (.slice B subs.length cap) := by
  obtain ⟨b, o, k, x, y, z, subs, B, cap, h1, _, h3, h4, h7, h5, h6⟩ := h.at hi
  have ht := csizeL_take l i hi
  rw [h4] at ht
  exact ⟨b, o, k, x, y, z, subs, B, cap, h1, h3, h4, h7, h5, ht, csizeL_take_le l (i + 1), h6⟩
set_option maxRecDepth 100000 in
set_option maxHeartbeats 1000000 in
theorem size_walk (n : Nat) : ∀ (k : Int) (a b c : Tm) (subs : List Cd) (A : Option Addr) (cap : Nat) (w : World) (F : Nat → Prop), csizeL subs < n → n ≤ 1000000 → RepL evA w F subs A 0 →
    Calls Tryz.prog 51 #[aC evA k a b c (.slice A subs.length cap)] w fun e w' => e = .returned (.int .i64 ((1 + csizeL subs : Nat) : Int)) ∧ Below w.heap.size w w' := by
  induction n with
  | zero => intro k a b c subs A cap w F h; omega
  | succ n ih =>
    intro k a b c subs A cap w F hn hn1 hR
    have hB0 := Aside0.mk ((Below.refl w.heap.size w).alloc (Nat.le_refl _) (oC evA 72 k a b c (.slice A subs.length cap)))
    replace hR := Aside0.mk hR
    have hlen := csizeL_len subs
    go_enter Tryz.func51, Tryz.ntmps51
    go_wp2
    generalize w.alloc (oC evA 72 k a b c (.slice A subs.length cap)) = W0 at hB0 ⊢
    go_loopw [9, 3] (fun i m wr => ∃ j : Nat, i = .int .i64 j ∧ j ≤ subs.length ∧ m = .int .i64 ((1 + csizeL (subs.take j) : Nat) : Int) ∧ Below w.heap.size w wr) (fun i _ _ => subs.length - (intOf i).toNat)
    case atStart => exact ⟨0, rfl, Nat.zero_le _, by simp [csizeL], hB0.out⟩
    case round =>
      obtain ⟨j, rfl, hj, rfl, hBw⟩ := hrel
      clear hB0
      by_cases hlt : j < subs.length
      · obtain ⟨b', o, k', x, y, z, subs', B, cap', rfl, hbl, hx, _, hR', htk, hle, c0, c1, c2, c3, c4, c5, c6, c7⟩ := sub_at (hR.out.below hBw) hlt
        have hcall := Aside0.mk (ih k' x y z subs' B cap' (wr.alloc (oC evA 72 k' x y z (.slice B subs'.length cap'))) F (by omega) (by omega) (hR'.below ((Below.refl _ _).alloc (Nat.le_refl _) _)))
        have hBx := Aside0.mk (hBw.alloc hBw.size (oC evA 72 k' x y z (.slice B subs'.length cap')))
        have hb1 : 1 + csizeL (subs.take j) + (1 + csizeL subs') ≤ 1000000 := by omega
        have hb2 : ((1 + csizeL (subs.take j) : Nat) : Int) + ((1 + csizeL subs' : Nat) : Int) = ((1 + csizeL (subs.take (j + 1)) : Nat) : Int) := by omega
        have hb3 : ((1 + csizeL (subs.take j) : Nat) : Int) + ((1 + csizeL subs' : Nat) : Int) ≤ 1000000 := by omega
        have hb4 : (0 : Int) ≤ ((1 + csizeL (subs.take j) : Nat) : Int) + ((1 + csizeL subs' : Nat) : Int) := by omega
        replace hb2 := Aside0.mk hb2
        replace hBw := Aside0.mk hBw
        replace hx := Aside0.mk hx
        clear htk hle hR' hb1
        generalize (1 + csizeL subs' : Nat) = s1 at hcall hb2 hb3 hb4
        generalize hs0 : (1 + csizeL (subs.take j) : Nat) = s0 at hb2 hb3 hb4 ⊢
        replace hs0 := Aside0.mk hs0
        go_wp2_with (go_at_call 51; refine hcall.out.mono ?_; rintro e w2 ⟨rfl, hb⟩; replace hb := Aside0.mk hb)
        go_roundw
        case rel => exact ⟨j + 1, by go_num, by omega, by rw [hb2.out], hBx.out.trans (hb.out.mono hBx.out.size)⟩
        case measure => simp [intOf]; omega
      · obtain rfl : j = subs.length := by omega
        rw [List.take_length]
        replace hBw := Aside0.mk hBw
        go_wp2
        go_ret
        exact ⟨rfl, hBw.out⟩
set_option maxRecDepth 100000 in
set_option maxHeartbeats 1000000 in
theorem rsize_walk (n : Nat) : ∀ (k : Int) (a b c : Tm) (subs : List Cd) (A : Option Addr) (cap : Nat) (w : World) (F : Nat → Prop), csizeL subs < n → n ≤ 1000000 → RepL evR w F subs A 0 →
    Calls Tryz.prog 56 #[aC evR k a b c (.slice A subs.length cap)] w fun e w' => e = .returned (.int .i64 ((1 + csizeL subs : Nat) : Int)) ∧ Below w.heap.size w w' := by
  induction n with
  | zero => intro k a b c subs A cap w F h; omega
  | succ n ih =>
    intro k a b c subs A cap w F hn hn1 hR
    have hB0 := Aside0.mk ((Below.refl w.heap.size w).alloc (Nat.le_refl _) (oC evR 81 k a b c (.slice A subs.length cap)))
    replace hR := Aside0.mk hR
    have hlen := csizeL_len subs
    go_enter Tryz.func56, Tryz.ntmps56
    go_wp2
    generalize w.alloc (oC evR 81 k a b c (.slice A subs.length cap)) = W0 at hB0 ⊢
    go_loopw [9, 3] (fun i m wr => ∃ j : Nat, i = .int .i64 j ∧ j ≤ subs.length ∧ m = .int .i64 ((1 + csizeL (subs.take j) : Nat) : Int) ∧ Below w.heap.size w wr) (fun i _ _ => subs.length - (intOf i).toNat)
    case atStart => exact ⟨0, rfl, Nat.zero_le _, by simp [csizeL], hB0.out⟩
    case round =>
      obtain ⟨j, rfl, hj, rfl, hBw⟩ := hrel
      clear hB0
      by_cases hlt : j < subs.length
      · obtain ⟨b', o, k', x, y, z, subs', B, cap', rfl, hbl, hx, _, hR', htk, hle, c0, c1, c2, c3, c4, c5, c6, c7⟩ := sub_at (hR.out.below hBw) hlt
        have hcall := Aside0.mk (ih k' x y z subs' B cap' (wr.alloc (oC evR 81 k' x y z (.slice B subs'.length cap'))) F (by omega) (by omega) (hR'.below ((Below.refl _ _).alloc (Nat.le_refl _) _)))
        have hBx := Aside0.mk (hBw.alloc hBw.size (oC evR 81 k' x y z (.slice B subs'.length cap')))
        have hb1 : 1 + csizeL (subs.take j) + (1 + csizeL subs') ≤ 1000000 := by omega
        have hb2 : ((1 + csizeL (subs.take j) : Nat) : Int) + ((1 + csizeL subs' : Nat) : Int) = ((1 + csizeL (subs.take (j + 1)) : Nat) : Int) := by omega
        have hb3 : ((1 + csizeL (subs.take j) : Nat) : Int) + ((1 + csizeL subs' : Nat) : Int) ≤ 1000000 := by omega
        have hb4 : (0 : Int) ≤ ((1 + csizeL (subs.take j) : Nat) : Int) + ((1 + csizeL subs' : Nat) : Int) := by omega
        replace hb2 := Aside0.mk hb2
        replace hBw := Aside0.mk hBw
        replace hx := Aside0.mk hx
        clear htk hle hR' hb1
        generalize (1 + csizeL subs' : Nat) = s1 at hcall hb2 hb3 hb4
        generalize hs0 : (1 + csizeL (subs.take j) : Nat) = s0 at hb2 hb3 hb4 ⊢
        replace hs0 := Aside0.mk hs0
        go_wp2_with (go_at_call 56; refine hcall.out.mono ?_; rintro e w2 ⟨rfl, hb⟩; replace hb := Aside0.mk hb)
        go_roundw
        case rel => exact ⟨j + 1, by go_num, by omega, by rw [hb2.out], hBx.out.trans (hb.out.mono hBx.out.size)⟩
        case measure => simp [intOf]; omega
      · obtain rfl : j = subs.length := by omega
        rw [List.take_length]
        replace hBw := Aside0.mk hBw
        go_wp2
        go_ret
        exact ⟨rfl, hBw.out⟩
end Go.Proofs.YtkbkkceeolclmaaGreatDoor.X
