/- The walks of layer 7: the number of a key; the document's Has. -/
import Derived.Test.YtfgnpplnjgjjkaaDoorKRight
namespace Go.Proofs.YtfgnpplnjgjjkaaDoor.K
open Go.RowKit Go.Proofs.YtfgnpplnjgjjkaaDoorW.PrintWords

attribute [local go_sem high] ix0 ix1 ix2
def nb (x v : Int) : Int := if x = 0 then 0 else v
theorem or_1 : bits BinOp.or IntKind.i64 0 1 = 1 := by decide +kernel
theorem or_2 : bits BinOp.or IntKind.i64 0 2 = 2 := by decide +kernel
theorem or_3 : bits BinOp.or IntKind.i64 1 2 = 3 := by decide +kernel
theorem or_4 : bits BinOp.or IntKind.i64 0 4 = 4 := by decide +kernel
theorem or_5 : bits BinOp.or IntKind.i64 1 4 = 5 := by decide +kernel
theorem or_6 : bits BinOp.or IntKind.i64 2 4 = 6 := by decide +kernel
theorem or_7 : bits BinOp.or IntKind.i64 3 4 = 7 := by decide +kernel
attribute [local go_sem high] or_1 or_2 or_3 or_4 or_5 or_6 or_7

set_option maxHeartbeats 2000000 in
set_option maxRecDepth 100000 in
theorem number_walk (a b c : Int) (w : World) : Calls Tryd.prog 19 #[.agg #[.int .i64 a, .int .i64 b, .int .i64 c]] w fun e w' => e = .returned (.int .i64 (nb a 1 + nb b 2 + nb c 4)) ∧ Below w.heap.size w w' := by
  obtain ⟨A, hA⟩ : ∃ x, nb a 1 = x := ⟨_, rfl⟩
  obtain ⟨B, hB⟩ : ∃ x, nb b 2 = x := ⟨_, rfl⟩
  obtain ⟨C, hC⟩ : ∃ x, nb c 4 = x := ⟨_, rfl⟩
  have cA : A = 0 ∧ (a != 0) = false ∨ A = 1 ∧ (a != 0) = true := by unfold nb at hA; split at hA <;> simp_all
  have cB : B = 0 ∧ (b != 0) = false ∨ B = 2 ∧ (b != 0) = true := by unfold nb at hB; split at hB <;> simp_all
  have cC : C = 0 ∧ (c != 0) = false ∨ C = 4 ∧ (c != 0) = true := by unfold nb at hC; split at hC <;> simp_all
  rw [hA, hB, hC]
  clear hA hB hC
  go_enter Tryd.func19, Tryd.ntmps19
  go_wp2_with fail
  go_loop [3, 7] (fun m i => (i = .int .i64 0 ∧ m = .int .i64 0) ∨ (i = .int .i64 1 ∧ m = .int .i64 A) ∨ (i = .int .i64 2 ∧ m = .int .i64 (A + B)) ∨ (i = .int .i64 3 ∧ m = .int .i64 (A + B + C))) (fun _ i => 3 - (intOf i).toNat)
  case atStart => exact .inl ⟨rfl, rfl⟩
  case round =>
    rcases hrel with ⟨rfl, rfl⟩ | ⟨rfl, rfl⟩ | ⟨rfl, rfl⟩ | ⟨rfl, rfl⟩
    · rcases cA with ⟨rfl, h⟩ | ⟨rfl, h⟩
      all_goals
        go_wp2_with fail
        go_round
        case rel => exact .inr (.inl ⟨rfl, rfl⟩)
        case measure => simp [intOf]
    · rcases cA with ⟨rfl, _⟩ | ⟨rfl, _⟩ <;> rcases cB with ⟨rfl, h⟩ | ⟨rfl, h⟩
      all_goals
        go_wp2_with fail
        go_round
        case rel => exact .inr (.inr (.inl ⟨rfl, rfl⟩))
        case measure => simp [intOf]
    · rcases cA with ⟨rfl, _⟩ | ⟨rfl, _⟩ <;> rcases cB with ⟨rfl, _⟩ | ⟨rfl, _⟩ <;> rcases cC with ⟨rfl, h⟩ | ⟨rfl, h⟩
      all_goals
        go_wp2_with fail
        go_round
        case rel => exact .inr (.inr (.inr ⟨rfl, rfl⟩))
        case measure => simp [intOf]
    · go_wp2_with fail
      go_ret
      exact ⟨rfl, (Below.refl _ _).alloc (Nat.le_refl _) _⟩

set_option maxHeartbeats 2000000 in
set_option maxRecDepth 100000 in
theorem refHas_walk (t0 t1 t2 k0 k1 k2 : Int) (w : World) : Calls Tryd.prog 20 #[.agg #[.int .i64 t0, .int .i64 t1, .int .i64 t2], .agg #[.int .i64 k0, .int .i64 k1, .int .i64 k2]] w fun e w' => e = .returned (.bool (hasR t0 t1 t2 k0 k1 k2)) ∧ Below w.heap.size w w' := by
  by_cases a0 : k0 = 0
  · have b0 : (k0 == 0) = true := by simp [a0]
    by_cases a1 : k1 = 0
    · have b1 : (k1 == 0) = true := by simp [a1]
      by_cases a2 : k2 = 0
      · have b2 : (k2 == 0) = true := by simp [a2]
        go_enter Tryd.func20, Tryd.ntmps20
        go_wp2_with fail
        go_ret
        exact ⟨by simp [hasR, ok1, a0, a1, a2], below_two _ _ _⟩
      · have b2 : (k2 == 0) = false := by simp [a2]
        by_cases c2 : k2 = t2
        · have d2 : (k2 == t2) = true := by simp [c2]
          go_enter Tryd.func20, Tryd.ntmps20
          go_wp2_with fail
          go_ret
          exact ⟨by simp [hasR, ok1, a0, a1, c2], below_two _ _ _⟩
        · have d2 : (k2 == t2) = false := by simp [c2]
          go_enter Tryd.func20, Tryd.ntmps20
          go_wp2_with fail
          go_ret
          exact ⟨by simp [hasR, ok1, a2, c2], below_two _ _ _⟩
    · have b1 : (k1 == 0) = false := by simp [a1]
      by_cases c1 : k1 = t1
      · have d1 : (k1 == t1) = true := by simp [c1]
        by_cases a2 : k2 = 0
        · have b2 : (k2 == 0) = true := by simp [a2]
          go_enter Tryd.func20, Tryd.ntmps20
          go_wp2_with fail
          go_ret
          exact ⟨by simp [hasR, ok1, a0, c1, a2], below_two _ _ _⟩
        · have b2 : (k2 == 0) = false := by simp [a2]
          by_cases c2 : k2 = t2
          · have d2 : (k2 == t2) = true := by simp [c2]
            go_enter Tryd.func20, Tryd.ntmps20
            go_wp2_with fail
            go_ret
            exact ⟨by simp [hasR, ok1, a0, c1, c2], below_two _ _ _⟩
          · have d2 : (k2 == t2) = false := by simp [c2]
            go_enter Tryd.func20, Tryd.ntmps20
            go_wp2_with fail
            go_ret
            exact ⟨by simp [hasR, ok1, a2, c2], below_two _ _ _⟩
      · have d1 : (k1 == t1) = false := by simp [c1]
        go_enter Tryd.func20, Tryd.ntmps20
        go_wp2_with fail
        go_ret
        exact ⟨by simp [hasR, ok1, a1, c1], below_two _ _ _⟩
  · have b0 : (k0 == 0) = false := by simp [a0]
    by_cases c0 : k0 = t0
    · have d0 : (k0 == t0) = true := by simp [c0]
      by_cases a1 : k1 = 0
      · have b1 : (k1 == 0) = true := by simp [a1]
        by_cases a2 : k2 = 0
        · have b2 : (k2 == 0) = true := by simp [a2]
          go_enter Tryd.func20, Tryd.ntmps20
          go_wp2_with fail
          go_ret
          exact ⟨by simp [hasR, ok1, c0, a1, a2], below_two _ _ _⟩
        · have b2 : (k2 == 0) = false := by simp [a2]
          by_cases c2 : k2 = t2
          · have d2 : (k2 == t2) = true := by simp [c2]
            go_enter Tryd.func20, Tryd.ntmps20
            go_wp2_with fail
            go_ret
            exact ⟨by simp [hasR, ok1, c0, a1, c2], below_two _ _ _⟩
          · have d2 : (k2 == t2) = false := by simp [c2]
            go_enter Tryd.func20, Tryd.ntmps20
            go_wp2_with fail
            go_ret
            exact ⟨by simp [hasR, ok1, a2, c2], below_two _ _ _⟩
      · have b1 : (k1 == 0) = false := by simp [a1]
        by_cases c1 : k1 = t1
        · have d1 : (k1 == t1) = true := by simp [c1]
          by_cases a2 : k2 = 0
          · have b2 : (k2 == 0) = true := by simp [a2]
            go_enter Tryd.func20, Tryd.ntmps20
            go_wp2_with fail
            go_ret
            exact ⟨by simp [hasR, ok1, c0, c1, a2], below_two _ _ _⟩
          · have b2 : (k2 == 0) = false := by simp [a2]
            by_cases c2 : k2 = t2
            · have d2 : (k2 == t2) = true := by simp [c2]
              go_enter Tryd.func20, Tryd.ntmps20
              go_wp2_with fail
              go_ret
              exact ⟨by simp [hasR, ok1, c0, c1, c2], below_two _ _ _⟩
            · have d2 : (k2 == t2) = false := by simp [c2]
              go_enter Tryd.func20, Tryd.ntmps20
              go_wp2_with fail
              go_ret
              exact ⟨by simp [hasR, ok1, a2, c2], below_two _ _ _⟩
        · have d1 : (k1 == t1) = false := by simp [c1]
          go_enter Tryd.func20, Tryd.ntmps20
          go_wp2_with fail
          go_ret
          exact ⟨by simp [hasR, ok1, a1, c1], below_two _ _ _⟩
    · have d0 : (k0 == t0) = false := by simp [c0]
      go_enter Tryd.func20, Tryd.ntmps20
      go_wp2_with fail
      go_ret
      exact ⟨by simp [hasR, ok1, a0, c0], below_two _ _ _⟩
end Go.Proofs.YtfgnpplnjgjjkaaDoor.K
