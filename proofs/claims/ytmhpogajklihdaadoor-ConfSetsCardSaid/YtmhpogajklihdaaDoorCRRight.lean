/- Which names may be: the document's look at bytes. -/
import Derived.Test.YtmhpogajklihdaaDoorCRight
namespace Go.Proofs.YtmhpogajklihdaaDoor.C
open Go.RowKit Go.Lib

set_option maxHeartbeats 4000000 in
set_option maxRecDepth 1000000 in
theorem rright_walk (s : ByteArray) (hs : s.size ≤ 100000) (w : World) : Calls Tryd.prog 39 #[.string s] w fun e w' => e = .returned (.bool (rightName s)) ∧ w = w' := by
  by_cases h1 : 1 ≤ s.size
  · by_cases h2 : s.size ≤ 32
    · have g1 : ¬ (s.size : Int) < 1 := by omega
      have g2 : ¬ (32 : Int) < s.size := by omega
      go_enter Tryd.func39, Tryd.ntmps39
      go_wp2_with fail
      go_loopw [3] (fun a wr => ∃ pos : Nat, a = .int .i64 (pos : Int) ∧ w = wr ∧ pos ≤ s.size ∧ ∀ j (_ : j < s.size), j < pos → okN s[j].toNat = true) (fun a _ => s.size - (intOf a).toNat)
      case atStart => exact ⟨0, rfl, rfl, Nat.zero_le _, fun _ _ h => absurd h (by omega)⟩
      case round =>
        obtain ⟨pos, rfl, rfl, hpos, hall⟩ := hrel
        replace hall := Aside1.mk hall
        by_cases hp : pos < s.size
        · have hnot : okN (s[pos]'hp).toNat = false → rightName s = false := right_not hp
          have hyes : okN (s[pos]'hp).toNat = true → ∀ j (_ : j < s.size), j < pos + 1 → okN s[j].toNat = true := fun h j hj hl => by
            by_cases e : j = pos
            · subst e; exact h
            · exact hall.out j hj (by omega)
          replace hnot := Aside1.mk hnot
          replace hyes := Aside1.mk hyes
          generalize hc : (s[pos]'hp).toNat = c at hnot hyes
          have hcc := Aside1.mk hc
          go_wp2_with fail
          all_goals
            rw [hc] at *
          all_goals first
            | (go_ret; exact ⟨congrArg (fun q => Ending.returned (.bool q)) (hnot.out (by unfold okN; simp_all; omega)).symm, rfl⟩)
            | (go_roundw; (case rel => exact ⟨pos + 1, by go_num, trivial, by omega, hyes.out (by unfold okN; simp_all <;> omega)⟩); (case measure => (simp [intOf]; try omega)))
        · have hr := Aside1.mk (right_all (s := s) (fun j hj => hall.out j hj (by omega)))
          go_wp2_with fail
          go_ret
          refine ⟨?_, rfl⟩
          rw [hr.out]
          exact congrArg (fun q => Ending.returned (.bool q)) (show true = (decide (1 ≤ s.size) && decide (s.size ≤ 32)) by rw [Bool.eq_iff_iff]; simp; omega)
    · have h3 : rightName s = false := by unfold rightName; simp [h2]
      rw [h3]
      have g1 : ¬ (s.size : Int) < 1 := by omega
      have g2 : (32 : Int) < s.size := by omega
      go_enter Tryd.func39, Tryd.ntmps39
      go_wp2_with fail
      go_ret
      exact ⟨rfl, rfl⟩
  · have h3 : rightName s = false := by unfold rightName; simp [h1]
    rw [h3]
    have g1 : (s.size : Int) < 1 := by omega
    go_enter Tryd.func39, Tryd.ntmps39
    go_wp2_with fail
    go_ret
    exact ⟨rfl, rfl⟩
end Go.Proofs.YtmhpogajklihdaaDoor.C
