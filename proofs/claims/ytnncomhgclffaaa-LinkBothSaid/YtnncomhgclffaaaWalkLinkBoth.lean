/- The walk of the law LinkBoth: for every link and every four numbers the Go text returns true. -/
import Derived.Test.YtnncomhgclffaaaPLinkTellsx5
import Derived.Test.YtnncomhgclffaaaPureLinkTells
import Derived.Deep.RegionHeld3
namespace Go.Proofs.Ytnncomhgclffaaa.WalkBoth
open Go.RowKit Go.Proofs.Ytnncomhgclffaaa.PLinkTells Go.Proofs.YtnncomhgclffaaaW.PrintWords Go.Proofs.YtnncomhgclffaaaW.PrintLast
open Go.Proofs.Ytnncomhgclffaaa.PureTells

theorem bcell {W w1 : World} (hb : Below W.heap.size W w1) : (∀ b o, b < W.heap.size → w1.cell? ⟨b, o, none⟩ = W.cell? ⟨b, o, none⟩) ∧ (∀ b o, b < W.heap.size → w1.frozen? ⟨b, o, none⟩ = W.frozen? ⟨b, o, none⟩) :=
  ⟨fun b o h => hb.cell (p := ⟨b, o, none⟩) h, fun b o h => hb.frozen (p := ⟨b, o, none⟩) h⟩

attribute [local go_sem high] eqA25

theorem turned_any (a b : Bool) (w : World) : Calls Try.prog 22 #[.agg #[.bool a, .bool b]] w fun e w' => e = .returned (.agg #[.bool b, .bool a]) ∧ Below w.heap.size w w' := by
  have hu25 := Try.underlying25
  go_enter Try.func22, Try.ntmps22
  go_wp2
  refine bodyPost_ret (v := .agg #[.bool b, .bool a]) (by simp [results, Try.results22, go_sem]) rfl ⟨rfl, ?_⟩
  exact (((Below.refl _ _).alloc (Nat.le_refl _) _).alloc (by simp) _)

theorem items_eq2 (l r : Bool) (was now above : Int) : link_Items.f 1 l r was now above = some ((itemsB l r was now above).1, (itemsB l r was now above).2) := items_eq 0 _ _ _ _ _
abbrev Held (w : World) (a b : Bool) (c0 c1 c2 : Int) (w' : World) : Prop :=
  w'.cell? ⟨w.heap.size, 0, none⟩ = some (.bool a) ∧ w'.cell? ⟨w.heap.size, 1, none⟩ = some (.bool b) ∧ w'.cell? ⟨w.heap.size + 1, 0, none⟩ = some (.int .i64 c0) ∧ w'.cell? ⟨w.heap.size + 1, 1, none⟩ = some (.int .i64 c1) ∧ w'.cell? ⟨w.heap.size + 1, 2, none⟩ = some (.int .i64 c2) ∧ Below w.heap.size w w' ∧ w.heap.size + 1 < w'.heap.size
theorem Held.keep {w : World} {a b : Bool} {c0 c1 c2 : Int} {w1 w2 : World} (h : Held w a b c0 c1 c2 w1) (hb : Below w1.heap.size w1 w2) : Held w a b c0 c1 c2 w2 := by
  obtain ⟨h0, h1, h2, h3, h4, hB, hz⟩ := h
  exact ⟨(hb.cell (p := ⟨_, _, none⟩) (by simp; omega)).trans h0, (hb.cell (p := ⟨_, _, none⟩) (by simp; omega)).trans h1, (hb.cell (p := ⟨_, _, none⟩) (by simp; omega)).trans h2, (hb.cell (p := ⟨_, _, none⟩) (by simp; omega)).trans h3, (hb.cell (p := ⟨_, _, none⟩) (by simp; omega)).trans h4, hB.trans (hb.mono (by omega)), Nat.lt_of_lt_of_le hz hb.size⟩

set_option maxHeartbeats 1000000 in
set_option maxRecDepth 100000 in
theorem both_walk (a b : Bool) (c0 c1 c2 c3 : Int) (w : World) :
    Calls Try.prog 4 #[.agg #[.bool a, .bool b], .agg #[.int .i64 c0, .int .i64 c1, .int .i64 c2, .int .i64 c3]] w fun e w' => e = .returned (.bool true) ∧ Below w.heap.size w w' := by
  have hu25 := Try.underlying25
  go_enter Try.func4, Try.ntmps4
  go_wp2_with fail
  have hb0 : Below w.heap.size w ((w.alloc (Obj.cells #[Value.bool a, Value.bool b] 25)).alloc (Obj.cells #[.int .i64 c0, .int .i64 c1, .int .i64 c2, .int .i64 c3] 34)) := ((Below.refl _ _).alloc (Nat.le_refl _) _).alloc (by simp) _
  have hS0 : Held w a b c0 c1 c2 ((w.alloc (Obj.cells #[Value.bool a, Value.bool b] 25)).alloc (Obj.cells #[.int .i64 c0, .int .i64 c1, .int .i64 c2, .int .i64 c3] 34)) := by
    refine ⟨?_, ?_, ?_, ?_, ?_, hb0, ?_⟩ <;> go_simp
  generalize ((w.alloc (Obj.cells #[Value.bool a, Value.bool b] 25)).alloc (Obj.cells #[.int .i64 c0, .int .i64 c1, .int .i64 c2, .int .i64 c3] 34)) = W at hS0 ⊢
  clear hb0
  have hT : Held w a b c0 c1 c2 W.drew := ⟨hS0.1, hS0.2.1, hS0.2.2.1, hS0.2.2.2.1, hS0.2.2.2.2.1, hS0.2.2.2.2.2.1.drew, hS0.2.2.2.2.2.2⟩
  clear hS0
  go_region_held3 (fun w' => w'.cell? ⟨w.heap.size, 0, none⟩ = some (.bool a) ∧ w'.cell? ⟨w.heap.size, 1, none⟩ = some (.bool b) ∧ w'.cell? ⟨w.heap.size + 1, 0, none⟩ = some (.int .i64 c0) ∧ w'.cell? ⟨w.heap.size + 1, 1, none⟩ = some (.int .i64 c1) ∧ w'.cell? ⟨w.heap.size + 1, 2, none⟩ = some (.int .i64 c2) ∧ Below w.heap.size w w' ∧ w.heap.size + 1 < w'.heap.size) (assumption)
    (first | (go_at_call 21; refine (link_Above.calls 1 _ _ _ _ _ _ _ _ (above_eq 0 _ _ _ _ _)).mono ?_; rintro e w1 ⟨rfl, hb⟩; have hT2 := Held.keep (a := a) (b := b) (c0 := c0) (c1 := c1) (c2 := c2) (w := w) (by assumption) hb) | (go_at_call 20; refine (link_Items.calls 1 _ _ _ _ _ _ _ _ (items_eq2 _ _ _ _ _)).mono ?_; rintro e w1 ⟨rfl, hb⟩; have hT2 := Held.keep (a := a) (b := b) (c0 := c0) (c1 := c1) (c2 := c2) (w := w) (by assumption) hb) | (go_at_call 22; refine (turned_any _ _ _).mono ?_; rintro e w1 ⟨rfl, hb⟩; have hT2 := Held.keep (a := a) (b := b) (c0 := c0) (c1 := c1) (c2 := c2) (w := w) (by assumption) hb) | (go_at_call 16; refine (retiarylaw18_awake.calls 1 _ _ (awake_true 0)).mono ?_; rintro e w1 ⟨rfl, hb⟩; have hT2 := Held.keep (a := a) (b := b) (c0 := c0) (c1 := c1) (c2 := c2) (w := w) (by assumption) hb))
  go_wp2
  go_ret
  have hB : Below w.heap.size w _ := ‹Held w a b c0 c1 c2 _›.2.2.2.2.2.1
  exact ⟨by simp, hB⟩
end Go.Proofs.Ytnncomhgclffaaa.WalkBoth
