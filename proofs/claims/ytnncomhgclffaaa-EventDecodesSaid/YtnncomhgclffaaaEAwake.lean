/- The walk of layer 24: the document's example. -/
import Derived.Test.YtnncomhgclffaaaERight
import Derived.Outline
namespace Go.Proofs.Ytnncomhgclffaaa.EV
open Go.RowKit Go.Proofs.YtnncomhgclffaaaW.PrintWords Go.Proofs.YtnncomhgclffaaaL Go.Proofs.YtnncomhgclffaaaL.Ev

attribute [local go_sem high] eq60 eq62 eq64 build60z build60c build62a build62b

/-- The cells of the k-th event of a row of events. -/
theorem own_ev {w : World} {base g cap : Nat} {e : TypeId} {evs : List Ev} (h : w.ownsRow base e 5 (.slice (some ⟨g, 0, none⟩) evs.length cap) evs.length (evs.flatMap evCells)) (k : Nat) (hk : k < evs.length) (j : Nat) (hj : j < 5) :
    w.cell? ⟨g, k * 5 + j, none⟩ = (evCells evs[k])[j]? := by
  rw [h.cellAt _ (by omega)]
  clear h
  induction evs generalizing k with
  | nil => simp at hk
  | cons x r ih =>
    cases k with
    | zero => simp only [List.flatMap_cons, List.getElem_cons_zero]; rw [List.getElem?_append_left (by simp [evCells]; omega)]; simp
    | succ k =>
      simp only [List.flatMap_cons, List.getElem_cons_succ]
      rw [List.getElem?_append_right (by simp [evCells]; omega), ← ih k (by simpa using hk)]
      congr 1
      simp [evCells]; omega

theorem dec_awake : dec [0, 1, 2, 3, 12] = [(1, (2, 3, 4), 0), (3, (0, 0, 0), 1)] := by simp [dec, evOf, eat, hd]

set_option maxHeartbeats 1000000 in
set_option maxRecDepth 100000 in
theorem awake_walk (w : World) : Calls Try.prog 37 #[] w (ret1 w) := by
  go_enter Try.func37, Try.ntmps37
  have hRd : Aside0 (Rd (w.heap.size + 1) (w.alloc (.cells #[.int .u8 0, .int .u8 1, .int .u8 2, .int .u8 3, .int .u8 12] 5)) (.slice (some ⟨w.heap.size, 0, none⟩) 5 5) [0, 1, 2, 3, 12]) := by
    refine ⟨⟨_, 5, rfl, Nat.le_refl _, by decide, by intro x hx; simp at hx; omega, fun _ => ⟨w.heap.size, 0, rfl, Nat.lt_succ_self _, fun i hi => ?_⟩⟩⟩
    rw [World.cell?_of_block (w := w.alloc (.cells #[.int .u8 0, .int .u8 1, .int .u8 2, .int .u8 3, .int .u8 12] 5)) rfl]
    have : i = 0 ∨ i = 1 ∨ i = 2 ∨ i = 3 ∨ i = 4 := by simp at hi; omega
    rcases this with rfl | rfl | rfl | rfl | rfl <;> go_simp
  go_wp2_with (go_at_call 38; refine (decode_walk _ _ _ (by rw [World.size_alloc]; exact hRd.out)).mono ?_; rintro e w1 ⟨v1, rfl, ho, hb⟩; rw [dec_awake] at ho; replace ho := Aside0.mk (show w1.ownsRow _ 62 5 v1 2 _ from ho); replace hb := Aside0.mk hb; obtain ⟨g, cap, rfl, hg1, hg2⟩ := owns_form1 ho.out (by decide); have c0 : w1.cell? ⟨g, 0, none⟩ = some (.int .i64 1) := (own_ev (evs := [(1, (2, 3, 4), 0), (3, (0, 0, 0), 1)]) ho.out 0 (by decide) 0 (by decide)).trans rfl; have c1 : w1.cell? ⟨g, 1, none⟩ = some (.int .i64 2) := (own_ev (evs := [(1, (2, 3, 4), 0), (3, (0, 0, 0), 1)]) ho.out 0 (by decide) 1 (by decide)).trans rfl; have c2 : w1.cell? ⟨g, 2, none⟩ = some (.int .i64 3) := (own_ev (evs := [(1, (2, 3, 4), 0), (3, (0, 0, 0), 1)]) ho.out 0 (by decide) 2 (by decide)).trans rfl; have c3 : w1.cell? ⟨g, 3, none⟩ = some (.int .i64 4) := (own_ev (evs := [(1, (2, 3, 4), 0), (3, (0, 0, 0), 1)]) ho.out 0 (by decide) 3 (by decide)).trans rfl; have c4 : w1.cell? ⟨g, 4, none⟩ = some (.int .i64 0) := (own_ev (evs := [(1, (2, 3, 4), 0), (3, (0, 0, 0), 1)]) ho.out 0 (by decide) 4 (by decide)).trans rfl; have c5 : w1.cell? ⟨g, 5, none⟩ = some (.int .i64 3) := (own_ev (evs := [(1, (2, 3, 4), 0), (3, (0, 0, 0), 1)]) ho.out 1 (by decide) 0 (by decide)).trans rfl; have c6 : w1.cell? ⟨g, 6, none⟩ = some (.int .i64 0) := (own_ev (evs := [(1, (2, 3, 4), 0), (3, (0, 0, 0), 1)]) ho.out 1 (by decide) 1 (by decide)).trans rfl; have c7 : w1.cell? ⟨g, 7, none⟩ = some (.int .i64 0) := (own_ev (evs := [(1, (2, 3, 4), 0), (3, (0, 0, 0), 1)]) ho.out 1 (by decide) 2 (by decide)).trans rfl; have c8 : w1.cell? ⟨g, 8, none⟩ = some (.int .i64 0) := (own_ev (evs := [(1, (2, 3, 4), 0), (3, (0, 0, 0), 1)]) ho.out 1 (by decide) 3 (by decide)).trans rfl; have c9 : w1.cell? ⟨g, 9, none⟩ = some (.int .i64 1) := (own_ev (evs := [(1, (2, 3, 4), 0), (3, (0, 0, 0), 1)]) ho.out 1 (by decide) 4 (by decide)).trans rfl)
  go_ret
  exact ⟨rfl, ((Below.refl _ _).alloc (Nat.le_refl _) _).trans (hb.out.mono (by rw [World.size_alloc]; omega))⟩
end Go.Proofs.Ytnncomhgclffaaa.EV
