/- The walk of layer 2: may a triple be. -/
import Derived.Test.YtfgnpplnjgjjkaaDoorKRight
namespace Go.Proofs.YtfgnpplnjgjjkaaDoor.K
open Go.RowKit Go.Proofs.YtfgnpplnjgjjkaaDoorW.PrintWords

attribute [local go_sem high] ix0 ix1 ix2



set_option maxHeartbeats 1000000 in
set_option maxRecDepth 100000 in
theorem triRight_walk (a b c : Int) (w : World) : Calls Tryd.prog 24 #[.agg #[.int .i64 a, .int .i64 b, .int .i64 c]] w fun e w' => e = .returned (.bool (rightR 1 a b c)) ∧ Below w.heap.size w w' := by
  go_enter Tryd.func24, Tryd.ntmps24
  go_wp2_with fail
  go_loop [6] (fun i => i = .int .i64 0 ∨ (i = .int .i64 1 ∧ inR 1 a = true) ∨ (i = .int .i64 2 ∧ inR 1 a = true ∧ inR 1 b = true) ∨ (i = .int .i64 3 ∧ inR 1 a = true ∧ inR 1 b = true ∧ inR 1 c = true)) (fun i => 3 - (intOf i).toNat)
  case atStart => exact .inl rfl
  case round =>
    rcases hrel with rfl | ⟨rfl, h0⟩ | ⟨rfl, h0, h1⟩ | ⟨rfl, h0, h1, h2⟩
    · skip
      by_cases e0 : a < 1
      · go_wp2_with fail
        go_ret
        exact ⟨by simp [rightR, inR, show ¬ 1 ≤ a by omega], (Below.refl _ _).alloc (Nat.le_refl _) _⟩
      · by_cases f0 : 4096 < a
        · go_wp2_with fail
          go_ret
          exact ⟨by simp [rightR, inR, show ¬ a ≤ 4096 by omega], (Below.refl _ _).alloc (Nat.le_refl _) _⟩
        · go_wp2_with fail
          go_round
          case rel => exact .inr (.inl ⟨rfl, by simp [inR]; omega⟩)
          case measure => simp [intOf]
    · replace h0 := Aside0.mk h0
      by_cases e1 : b < 1
      · go_wp2_with fail
        go_ret
        exact ⟨by simp [rightR, inR, show ¬ 1 ≤ b by omega], (Below.refl _ _).alloc (Nat.le_refl _) _⟩
      · by_cases f1 : 4096 < b
        · go_wp2_with fail
          go_ret
          exact ⟨by simp [rightR, inR, show ¬ b ≤ 4096 by omega], (Below.refl _ _).alloc (Nat.le_refl _) _⟩
        · go_wp2_with fail
          go_round
          case rel => exact .inr (.inr (.inl ⟨rfl, h0.out, by simp [inR]; omega⟩))
          case measure => simp [intOf]
    · replace h0 := Aside0.mk h0
      replace h1 := Aside0.mk h1
      by_cases e2 : c < 1
      · go_wp2_with fail
        go_ret
        exact ⟨by simp [rightR, inR, show ¬ 1 ≤ c by omega], (Below.refl _ _).alloc (Nat.le_refl _) _⟩
      · by_cases f2 : 4096 < c
        · go_wp2_with fail
          go_ret
          exact ⟨by simp [rightR, inR, show ¬ c ≤ 4096 by omega], (Below.refl _ _).alloc (Nat.le_refl _) _⟩
        · go_wp2_with fail
          go_round
          case rel => exact .inr (.inr (.inr ⟨rfl, h0.out, h1.out, by simp [inR]; omega⟩))
          case measure => simp [intOf]
    · replace h0 := Aside0.mk h0
      replace h1 := Aside0.mk h1
      replace h2 := Aside0.mk h2
      go_wp2_with fail
      go_ret
      exact ⟨by rw [rightR, h0.out, h1.out, h2.out]; rfl, (Below.refl _ _).alloc (Nat.le_refl _) _⟩

end Go.Proofs.YtfgnpplnjgjjkaaDoor.K
