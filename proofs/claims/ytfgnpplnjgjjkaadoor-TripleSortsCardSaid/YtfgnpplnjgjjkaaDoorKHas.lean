/- The walks of layer 7: has a triple a key; may a triple, a key be. -/
import Derived.Test.YtfgnpplnjgjjkaaDoorProg
import Derived.WalkKit
import Derived.LoopTactic
import Derived.RegionTactic
import Derived.Outline
import Derived.KernelRfl
import Derived.Test.YtfgnpplnjgjjkaaDoorWWords
namespace Go.Proofs.YtfgnpplnjgjjkaaDoor.K
open Go.RowKit Go.Proofs.YtfgnpplnjgjjkaaDoorW.PrintWords

theorem ix0 (a b c : Int) (w : World) : (Instr.index 23 (.agg #[.int .i64 a, .int .i64 b, .int .i64 c]) (.int .i64 0)).run Tryd.prog w = .ok (.int .i64 a) w := by kernel_rfl
theorem ix1 (a b c : Int) (w : World) : (Instr.index 23 (.agg #[.int .i64 a, .int .i64 b, .int .i64 c]) (.int .i64 1)).run Tryd.prog w = .ok (.int .i64 b) w := by kernel_rfl
theorem ix2 (a b c : Int) (w : World) : (Instr.index 23 (.agg #[.int .i64 a, .int .i64 b, .int .i64 c]) (.int .i64 2)).run Tryd.prog w = .ok (.int .i64 c) w := by kernel_rfl
attribute [local go_sem high] ix0 ix1 ix2

def ok1 (k t : Int) : Bool := decide (k = 0) || decide (k = t)
def hasR (t0 t1 t2 k0 k1 k2 : Int) : Bool := ok1 k0 t0 && (ok1 k1 t1 && ok1 k2 t2)
def right0 (a : Int) : Bool := decide (0 ≤ a)

theorem below_two (w : World) (a b : Obj) : Below w.heap.size w ((w.alloc a).alloc b) := (((Below.refl _ _).alloc (Nat.le_refl _) _).alloc (by rw [World.size_alloc]; omega) _)

set_option maxHeartbeats 1000000 in
set_option maxRecDepth 100000 in
theorem has_walk (t0 t1 t2 k0 k1 k2 : Int) (w : World) : Calls Tryd.prog 16 #[.agg #[.int .i64 t0, .int .i64 t1, .int .i64 t2], .agg #[.int .i64 k0, .int .i64 k1, .int .i64 k2]] w fun e w' => e = .returned (.bool (hasR t0 t1 t2 k0 k1 k2)) ∧ Below w.heap.size w w' := by
  go_enter Tryd.func16, Tryd.ntmps16
  go_wp2_with fail
  go_loop [8] (fun i => i = .int .i64 0 ∨ (i = .int .i64 1 ∧ ok1 k0 t0 = true) ∨ (i = .int .i64 2 ∧ ok1 k0 t0 = true ∧ ok1 k1 t1 = true) ∨ (i = .int .i64 3 ∧ ok1 k0 t0 = true ∧ ok1 k1 t1 = true ∧ ok1 k2 t2 = true)) (fun i => 3 - (intOf i).toNat)
  case atStart => exact .inl rfl
  case round =>
    rcases hrel with rfl | ⟨rfl, h0⟩ | ⟨rfl, h0, h1⟩ | ⟨rfl, h0, h1, h2⟩
    · skip
      by_cases a0 : k0 = 0
      · subst a0
        go_wp2_with fail
        go_round
        case rel => exact .inr (.inl ⟨rfl, by simp [ok1]⟩)
        case measure => simp [intOf]
      · have b0 : (k0 == 0) = false := beq_eq_false_iff_ne.2 a0
        by_cases c0 : k0 = t0
        · subst c0
          go_wp2_with fail
          go_round
          case rel => exact .inr (.inl ⟨rfl, by simp [ok1]⟩)
          case measure => simp [intOf]
        · have d0 : (k0 == t0) = false := beq_eq_false_iff_ne.2 c0
          have m0 : (k0 != 0) = true := by simp [a0]
          have q0 : (k0 != t0) = true := by simp [c0]
          go_wp2_with fail
          go_ret
          exact ⟨by simp [hasR, ok1, a0, c0], below_two _ _ _⟩
    · replace h0 := Aside0.mk h0
      by_cases a1 : k1 = 0
      · subst a1
        go_wp2_with fail
        go_round
        case rel => exact .inr (.inr (.inl ⟨rfl, h0.out, by simp [ok1]⟩))
        case measure => simp [intOf]
      · have b1 : (k1 == 0) = false := beq_eq_false_iff_ne.2 a1
        by_cases c1 : k1 = t1
        · subst c1
          go_wp2_with fail
          go_round
          case rel => exact .inr (.inr (.inl ⟨rfl, h0.out, by simp [ok1]⟩))
          case measure => simp [intOf]
        · have d1 : (k1 == t1) = false := beq_eq_false_iff_ne.2 c1
          have m1 : (k1 != 0) = true := by simp [a1]
          have q1 : (k1 != t1) = true := by simp [c1]
          go_wp2_with fail
          go_ret
          exact ⟨by simp [hasR, ok1, a1, c1], below_two _ _ _⟩
    · replace h0 := Aside0.mk h0
      replace h1 := Aside0.mk h1
      by_cases a2 : k2 = 0
      · subst a2
        go_wp2_with fail
        go_round
        case rel => exact .inr (.inr (.inr ⟨rfl, h0.out, h1.out, by simp [ok1]⟩))
        case measure => simp [intOf]
      · have b2 : (k2 == 0) = false := beq_eq_false_iff_ne.2 a2
        by_cases c2 : k2 = t2
        · subst c2
          go_wp2_with fail
          go_round
          case rel => exact .inr (.inr (.inr ⟨rfl, h0.out, h1.out, by simp [ok1]⟩))
          case measure => simp [intOf]
        · have d2 : (k2 == t2) = false := beq_eq_false_iff_ne.2 c2
          have m2 : (k2 != 0) = true := by simp [a2]
          have q2 : (k2 != t2) = true := by simp [c2]
          go_wp2_with fail
          go_ret
          exact ⟨by simp [hasR, ok1, a2, c2], below_two _ _ _⟩
    · replace h0 := Aside0.mk h0
      replace h1 := Aside0.mk h1
      replace h2 := Aside0.mk h2
      go_wp2_with fail
      go_ret
      exact ⟨by rw [hasR, h0.out, h1.out, h2.out]; rfl, below_two _ _ _⟩
end Go.Proofs.YtfgnpplnjgjjkaaDoor.K
