/- The document's example of layer 9: awake() answers true. -/
import Derived.Test.YtnncomhgclffaaaLListSA
import Derived.Outline
namespace Go.Proofs.Ytnncomhgclffaaa.LS
open Go.RowKit Go.Proofs.YtnncomhgclffaaaW.PrintWords Go.Proofs.YtnncomhgclffaaaL Go.Proofs.YtnncomhgclffaaaL.Row Go.Proofs.Ytnncomhgclffaaa.LL

theorem LPost.below {w w' w0 : World} {F : Nat → Prop} {lb : Nat} {r : Value} {row : List Int} {vals : List ByteArray} {e : Ending} (h : LPost w F lb r row vals e w') (hb : Below w0.heap.size w0 w) (hF : ∀ b, F b → w0.heap.size ≤ b) :
    Below w0.heap.size w0 w' := h.2.2.below hb hb.size hF

set_option maxHeartbeats 1000000 in
set_option maxRecDepth 100000 in
theorem awake_walk (w : World) : Calls Try.prog 27 #[] w fun e w' => e = .returned (.bool true) ∧ Below w.heap.size w w' := by
  go_enter Try.func27, Try.ntmps27
  go_wp2_with (go_at_call 42; refine (new_lst _).mono ?_; rintro e w1 ⟨rfl, h1, b1⟩; replace h1 := Aside0.mk h1; replace b1 := Aside0.mk b1)
  have F0 := Aside0.mk (show ∀ b, (fun b => w.heap.size ≤ b) b → w.heap.size ≤ b from fun _ h => h)
  refine (push_lst _ h1.out (by simp)).mono ?_
  rintro e w2 ⟨rfl, h2, c2⟩
  have b2 := Aside0.mk (c2.below b1.out b1.out.size F0.out)
  replace h2 := Aside0.mk (show Lst w2 (w.heap.size + 2) (fun b => w.heap.size ≤ b) [1] [⟨#[97]⟩] from h2.mono (fun b hb => by have := b1.out.size; rcases hb with h | h <;> omega))
  clear c2 h1
  go_wp2_with fail
  refine (push_lst _ h2.out (by simp)).mono ?_
  rintro e w3 ⟨rfl, h3, c3⟩
  have b3 := Aside0.mk (c3.below b2.out b2.out.size F0.out)
  replace h3 := Aside0.mk (show Lst w3 (w.heap.size + 2) (fun b => w.heap.size ≤ b) [1, 2] [⟨#[97]⟩, ⟨#[98]⟩] from h3.mono (fun b hb => by have := b2.out.size; rcases hb with h | h <;> omega))
  clear c3 h2
  go_wp2_with fail
  refine (before_lst (a := [1]) (b := []) _ h3.out (by simp)).mono ?_
  rintro e w4 ⟨rfl, h4, c4⟩
  have b4 := Aside0.mk (c4.below b3.out b3.out.size F0.out)
  replace h4 := Aside0.mk (show Lst w4 (w.heap.size + 2) (fun b => w.heap.size ≤ b) [1, 3, 2] [⟨#[97]⟩, ⟨#[98]⟩, ⟨#[99]⟩] from h4.mono (fun b hb => by have := b3.out.size; rcases hb with h | h <;> omega))
  clear c4 h3 b1 b2 b3
  go_wp2_with fail
  refine (next_lst h4.out (by decide)).mono ?_
  rintro e w5 ⟨rfl, rfl⟩
  have n1 : nextR [1, 3, 2] 1 = 3 := by decide
  rw [n1]
  go_wp2_with fail
  refine (next_lst h4.out (by decide)).mono ?_
  rintro e w5 ⟨rfl, rfl⟩
  have n2 : nextR [1, 3, 2] 3 = 2 := by decide
  rw [n2]
  go_wp2_with fail
  refine (len_lst h4.out (by simp)).mono ?_
  rintro e w5 ⟨rfl, rfl⟩
  go_wp2_with fail
  go_ret
  exact ⟨rfl, b4.out⟩
end Go.Proofs.Ytnncomhgclffaaa.LS
