/- Which names may be: the program's look at runes, the document's at bytes. Which names may be: the document's look at bytes. -/
import Derived.Test.YtmhpogajklihdaaDoorCText
import Derived.Test.YtmhpogajklihdaaDoorProg
import Derived.WalkKit
import Derived.WalkLawsBesides
import Derived.ProofKit
import Derived.Laws.RangeAny
import Derived.Below
import Derived.Outline
namespace Go.Proofs.YtmhpogajklihdaaDoor.C
open Go.RowKit Go.Lib

structure Aside1 (p : Prop) : Prop where
  out : p

theorem all_at {s : ByteArray} (h : ∀ j (_ : j < s.size), okN s[j].toNat = true) : (s.data.toList.all fun b => okN b.toNat) = true := by
  rw [List.all_eq_true]
  intro b hb
  obtain ⟨j, hj, rfl⟩ := List.getElem_of_mem hb
  have hj' : j < s.size := by simpa using hj
  exact h j hj'
theorem right_all {s : ByteArray} (h : ∀ j (_ : j < s.size), okN s[j].toNat = true) : rightName s = (decide (1 ≤ s.size) && decide (s.size ≤ 32)) := by
  unfold rightName
  rw [all_at h, Bool.and_true]
theorem right_not {s : ByteArray} {j : Nat} (hj : j < s.size) (h : okN s[j].toNat = false) : rightName s = false := by
  unfold rightName
  have : (s.data.toList.all fun b => okN b.toNat) = false := by
    rw [List.all_eq_false]
    have hj' : j < s.data.toList.length := by simpa using hj
    refine ⟨s.data.toList[j], List.getElem_mem hj', ?_⟩
    rw [show s.data.toList[j] = s[j] from rfl, h]
    decide
  rw [this, Bool.and_false]
theorem iter_below (w : World) (s : ByteArray) (pos : Nat) : Below w.heap.size w (w.iter s pos) := (Below.refl w.heap.size w).alloc (Nat.le_refl _) _

set_option maxHeartbeats 4000000 in
set_option maxRecDepth 1000000 in
theorem right_walk (s : ByteArray) (hs : s.size ≤ 100000) (w : World) : Calls Tryd.prog 37 #[.string s] w fun e w' => e = .returned (.bool (rightName s)) ∧ Below w.heap.size w w' := by
  go_enter Tryd.func37, Tryd.ntmps37
  go_wp2_with fail
  go_loopw [4] (fun _ wr => ∃ pos, wr = w.iter s pos ∧ pos ≤ s.size ∧ ∀ j (_ : j < s.size), j < pos → okN s[j].toNat = true) (fun _ wr => s.size - wr.iterPos w.heap.size)
  case atStart => exact ⟨0, rfl, Nat.zero_le _, fun _ _ h => absurd h (by omega)⟩
  case round =>
    obtain ⟨pos, rfl, hpos, hall⟩ := hrel
    replace hall := Aside1.mk hall
    by_cases hp : pos < s.size
    · have hnx : ∀ ty, (Instr.next (.pointer (some ⟨w.heap.size, 0, none⟩)) true ty).run Tryd.prog (w.iter s pos) = _ := fun ty => run_next_any w s pos ty hp
      by_cases ha : (s[pos]'hp).toNat < 128
      · have hd := decode_ascii s pos hp ha
        rw [hd] at hnx
        have hnot : okN (s[pos]'hp).toNat = false → rightName s = false := right_not hp
        have hyes : okN (s[pos]'hp).toNat = true → ∀ j (_ : j < s.size), j < pos + 1 → okN s[j].toNat = true := fun h j hj hl => by
          by_cases e : j = pos
          · subst e; exact h
          · exact hall.out j hj (by omega)
        clear hd
        generalize (s[pos]'hp).toNat = c at hnx ha hnot hyes
        replace hnot := Aside1.mk hnot
        replace hyes := Aside1.mk hyes
        go_wp2_with fail
        all_goals first
          | (go_ret; exact ⟨congrArg (fun q => Ending.returned (.bool q)) (hnot.out (by unfold okN; simp_all; omega)).symm, iter_below _ _ _⟩)
          | (go_roundw; (case rel => exact ⟨pos + 1, rfl, by omega, hyes.out (by unfold okN; simp_all; omega)⟩); (case measure => simp; omega))
      · obtain ⟨h1, h2⟩ := decode_high s pos hp (by omega)
        have hnot : rightName s = false := right_not hp (by unfold okN; simp; omega)
        generalize Utf8.decode s pos = d at hnx h1 h2
        obtain ⟨d, k⟩ := d
        simp only at h1 h2 hnx
        replace hnot := Aside1.mk hnot
        have h3 : (128 : Int) ≤ d := by omega
        go_wp2_with fail
        all_goals (go_ret; exact ⟨congrArg (fun q => Ending.returned (.bool q)) hnot.out.symm, iter_below _ _ _⟩)
    · have hnx : ∀ ty, (Instr.next (.pointer (some ⟨w.heap.size, 0, none⟩)) true ty).run Tryd.prog (w.iter s pos) = _ := fun ty => run_next_end w s pos ty hp
      have hr := Aside1.mk (right_all (s := s) (fun j hj => hall.out j hj (by omega)))
      go_wp2_with fail
      all_goals
        go_ret
        refine ⟨?_, iter_below _ _ _⟩
        rw [hr.out]
        first
          | exact congrArg (fun q => Ending.returned (.bool q)) (show decide ((s.size : Int) ≤ 32) = (decide (1 ≤ s.size) && decide (s.size ≤ 32)) by rw [Bool.eq_iff_iff]; simp; omega)
          | exact congrArg (fun q => Ending.returned (.bool q)) (show false = (decide (1 ≤ s.size) && decide (s.size ≤ 32)) by rw [Bool.eq_iff_iff]; simp; omega)
end Go.Proofs.YtmhpogajklihdaaDoor.C
namespace Go.Proofs.YtmhpogajklihdaaDoor.C
open Go.RowKit Go.Lib

set_option maxHeartbeats 4000000 in
set_option maxRecDepth 1000000 in
theorem rright_walk (s : ByteArray) (hs : s.size ≤ 100000) (w : World) : Calls Tryd.prog 39 #[.string s] w fun e w' => e = .returned (.bool (rightName s)) ∧ w = w' := by
  by_cases h1 : 1 ≤ s.size
  · by_cases h2 : s.size ≤ 32
    · have g1 : ¬ (s.size : Int) < 1 := by omega
      have g2 : ¬ (32 : Int) < s.size := by omega
      go_enter Tryd.func39, Tryd.ntmps39
      go_wp2_with fail
      go_loopw [3] (fun a wr => ∃ pos : Nat, a = .int .i64 (pos : Int) ∧ w = wr ∧ pos ≤ s.size ∧ ∀ j (_ : j < s.size), j < pos → okN s[j].toNat = true) (fun a _ => s.size - (intOf a).toNat)
      case atStart => exact ⟨0, rfl, rfl, Nat.zero_le _, fun _ _ h => absurd h (by omega)⟩
      case round =>
        obtain ⟨pos, rfl, rfl, hpos, hall⟩ := hrel
        replace hall := Aside1.mk hall
        by_cases hp : pos < s.size
        · have hnot : okN (s[pos]'hp).toNat = false → rightName s = false := right_not hp
          have hyes : okN (s[pos]'hp).toNat = true → ∀ j (_ : j < s.size), j < pos + 1 → okN s[j].toNat = true := fun h j hj hl => by
            by_cases e : j = pos
            · subst e; exact h
            · exact hall.out j hj (by omega)
          replace hnot := Aside1.mk hnot
          replace hyes := Aside1.mk hyes
          generalize hc : (s[pos]'hp).toNat = c at hnot hyes
          have hcc := Aside1.mk hc
          go_wp2_with fail
          all_goals
            rw [hc] at *
          all_goals first
            | (go_ret; exact ⟨congrArg (fun q => Ending.returned (.bool q)) (hnot.out (by unfold okN; simp_all; omega)).symm, rfl⟩)
            | (go_roundw; (case rel => exact ⟨pos + 1, by go_num, trivial, by omega, hyes.out (by unfold okN; simp_all <;> omega)⟩); (case measure => (simp [intOf]; try omega)))
        · have hr := Aside1.mk (right_all (s := s) (fun j hj => hall.out j hj (by omega)))
          go_wp2_with fail
          go_ret
          refine ⟨?_, rfl⟩
          rw [hr.out]
          exact congrArg (fun q => Ending.returned (.bool q)) (show true = (decide (1 ≤ s.size) && decide (s.size ≤ 32)) by rw [Bool.eq_iff_iff]; simp; omega)
    · have h3 : rightName s = false := by unfold rightName; simp [h2]
      rw [h3]
      have g1 : ¬ (s.size : Int) < 1 := by omega
      have g2 : (32 : Int) < s.size := by omega
      go_enter Tryd.func39, Tryd.ntmps39
      go_wp2_with fail
      go_ret
      exact ⟨rfl, rfl⟩
  · have h3 : rightName s = false := by unfold rightName; simp [h1]
    rw [h3]
    have g1 : (s.size : Int) < 1 := by omega
    go_enter Tryd.func39, Tryd.ntmps39
    go_wp2_with fail
    go_ret
    exact ⟨rfl, rfl⟩
end Go.Proofs.YtmhpogajklihdaaDoor.C
