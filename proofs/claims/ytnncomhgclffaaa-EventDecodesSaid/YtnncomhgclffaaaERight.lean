/- The walks of Right and of the law's ref. -/
import Derived.Test.YtnncomhgclffaaaEEq
import Derived.Laws.Cover1
namespace Go.Proofs.Ytnncomhgclffaaa.EV
open Go.RowKit Go.Proofs.YtnncomhgclffaaaW.PrintWords Go.Proofs.YtnncomhgclffaaaL Go.Proofs.YtnncomhgclffaaaL.Ev

attribute [local go_sem high] eq60 eq62 eq64 build60z
theorem below_two (w : World) (a b : Obj) : Below w.heap.size w ((w.alloc a).alloc b) := (((Below.refl _ _).alloc (Nat.le_refl _) _).alloc (by rw [World.size_alloc]; omega) _)

theorem ref_walk (w : World) (k a b c v : Int) : Calls Try.prog 40 #[.agg #[.int .i64 k, .int .i64 a, .int .i64 b, .int .i64 c, .int .i64 v]] w fun e w' => e = .returned (.agg #[.int .i64 k, .int .i64 a, .int .i64 b, .int .i64 c, .int .i64 v]) ∧ Below w.heap.size w w' := by
  go_enter Try.func40, Try.ntmps40
  go_wp2_with fail
  refine bodyPost_ret (v := .agg #[.int .i64 k, .int .i64 a, .int .i64 b, .int .i64 c, .int .i64 v]) (by simp [results, Try.results40, go_sem]) rfl ⟨rfl, ?_⟩
  exact below_two _ _ _


def ret1 (w : World) (e : Ending) (w' : World) : Prop := e = .returned (.bool true) ∧ Below w.heap.size w w'
set_option maxRecDepth 100000 in
theorem right_put (w : World) (a b c : Int) (ha : 1 ≤ a ∧ a ≤ 256) (hb : 1 ≤ b ∧ b ≤ 256) (hc : 1 ≤ c ∧ c ≤ 256) : Calls Try.prog 41 #[.agg #[.int .i64 1, .int .i64 a, .int .i64 b, .int .i64 c, .int .i64 0]] w (ret1 w) := by
  have hmin : 1 ≤ (if c < (if b < a then b else a) then c else (if b < a then b else a)) := by split <;> (try split) <;> omega
  have hmax : (if (if a < b then b else a) < c then c else (if a < b then b else a)) ≤ 256 := by split <;> (try split) <;> omega
  go_enter Try.func41, Try.ntmps41
  go_wp2_with fail
  all_goals (go_ret; exact ⟨rfl, (Below.refl _ _).alloc (Nat.le_refl _) _⟩)

set_option maxRecDepth 100000 in
theorem right_match (w : World) (v : Int) (ha : 0 ≤ v ∧ v < 256) : Calls Try.prog 41 #[.agg #[.int .i64 2, .int .i64 0, .int .i64 0, .int .i64 0, .int .i64 v]] w (ret1 w) := by
  go_enter Try.func41, Try.ntmps41
  go_wp2_with fail
  go_ret
  exact ⟨rfl, (Below.refl _ _).alloc (Nat.le_refl _) _⟩

set_option maxRecDepth 100000 in
theorem right_3 (w : World) (v : Int) (ha : 0 ≤ v ∧ v < 32) : Calls Try.prog 41 #[.agg #[.int .i64 3, .int .i64 0, .int .i64 0, .int .i64 0, .int .i64 v]] w (ret1 w) := by
  go_enter Try.func41, Try.ntmps41
  go_wp2_with fail
  go_ret
  exact ⟨rfl, (Below.refl _ _).alloc (Nat.le_refl _) _⟩

set_option maxRecDepth 100000 in
theorem right_4 (w : World) (v : Int) (ha : 0 ≤ v ∧ v < 32) : Calls Try.prog 41 #[.agg #[.int .i64 4, .int .i64 0, .int .i64 0, .int .i64 0, .int .i64 v]] w (ret1 w) := by
  go_enter Try.func41, Try.ntmps41
  go_wp2_with fail
  go_ret
  exact ⟨rfl, (Below.refl _ _).alloc (Nat.le_refl _) _⟩

set_option maxRecDepth 100000 in
theorem right_5 (w : World) : Calls Try.prog 41 #[.agg #[.int .i64 5, .int .i64 0, .int .i64 0, .int .i64 0, .int .i64 0]] w (ret1 w) := by
  go_enter Try.func41, Try.ntmps41
  go_wp2_with fail
  go_ret
  exact ⟨rfl, (Below.refl _ _).alloc (Nat.le_refl _) _⟩

theorem right_walk (w : World) (e : Ev) (h : right e = true) : Calls Try.prog 41 #[.agg (evCells e).toArray] w (ret1 w) := by
  obtain ⟨k, ⟨a, b, c⟩, v⟩ := e
  simp only [right] at h
  split at h
  · rename_i hk
    subst hk
    simp only [Bool.and_eq_true, decide_eq_true_eq] at h
    obtain ⟨⟨rfl, h1⟩, h2⟩ := h
    exact right_put w a b c (by omega) (by omega) (by omega)
  · split at h
    · rename_i hk
      subst hk
      simp only [Bool.and_eq_true, decide_eq_true_eq, Prod.mk.injEq] at h
      obtain ⟨⟨⟨rfl, rfl, rfl⟩, h1⟩, h2⟩ := h
      exact right_match w v ⟨h1, h2⟩
    · split at h
      · rename_i hk
        simp only [Bool.and_eq_true, decide_eq_true_eq, Prod.mk.injEq] at h
        obtain ⟨⟨⟨rfl, rfl, rfl⟩, h1⟩, h2⟩ := h
        rcases hk with rfl | rfl
        · exact right_3 w v ⟨h1, h2⟩
        · exact right_4 w v ⟨h1, h2⟩
      · simp only [Bool.and_eq_true, decide_eq_true_eq, Prod.mk.injEq] at h
        obtain ⟨⟨⟨rfl, rfl, rfl⟩, rfl⟩, rfl⟩ := h
        exact right_5 w
end Go.Proofs.Ytnncomhgclffaaa.EV
