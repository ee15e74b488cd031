/- The walks of layer 7: the document's example. -/
import Derived.Test.YtfgnpplnjgjjkaaDoorKText
import Derived.Test.YtfgnpplnjgjjkaaDoorKAll
import Derived.Deep.RegionHeld3
import Derived.Laws.StructEq
import Derived.Laws.Tables
import Derived.Laws.Cover2
namespace Go.Proofs.YtfgnpplnjgjjkaaDoor.K
open Go.RowKit Go.Proofs.YtfgnpplnjgjjkaaDoorW.PrintWords

set_option maxHeartbeats 2000000 in
set_option maxRecDepth 100000 in
theorem text_walk (w : World) : Calls Tryd.prog 29 #[.agg #[.int .i64 7, .int .i64 0, .int .i64 9]] w fun e w' => e = .returned (.tuple #[.string ⟨#[55, 32, 42, 32, 57]⟩, .int .i64 0]) ∧ Below w.heap.size w w' := by
  have h7 := Aside0.mk (fun w => word_of 7 ⟨#[55]⟩ (.inl rfl) w small7)
  have h9 := Aside0.mk (fun w => word_of 9 ⟨#[57]⟩ (.inr rfl) w small9)
  have hR := Aside0.mk (show rightR 0 7 0 9 = true by decide)
  go_enter Tryd.func29, Tryd.ntmps29
  go_upto_region 3 with (go_at_call 30; refine (keyRight_walk 7 0 9 _).mono ?_; rintro e w1 ⟨rfl, hb⟩; rw [hR.out]; replace hb := Aside0.mk hb)
  have hq := blk_below (blk_new w (.cells #[.int .i64 7, .int .i64 0, .int .i64 9] 23)) hb.out
  have q0 : w1.cell? ⟨w.heap.size, 0, none⟩ = some (.int .i64 7) := (blk_cell hq 0).trans rfl
  have q1 : w1.cell? ⟨w.heap.size, 1, none⟩ = some (.int .i64 0) := (blk_cell hq 1).trans rfl
  have q2 : w1.cell? ⟨w.heap.size, 2, none⟩ = some (.int .i64 9) := (blk_cell hq 2).trans rfl
  have hB := Aside0.mk (((Below.refl w.heap.size w).alloc (Nat.le_refl _) (.cells #[.int .i64 7, .int .i64 0, .int .i64 9] 23)).trans (hb.out.mono (by rw [World.size_alloc]; omega)))
  clear hq hb
  obtain ⟨qb, hqb⟩ : ∃ q, q = w.heap.size := ⟨_, rfl⟩
  rw [← hqb] at q0 q1 q2 ⊢
  replace hqb := Aside0.mk hqb
  have hT : w1.drew.cell? ⟨qb, 0, none⟩ = some (.int .i64 7) ∧ w1.drew.cell? ⟨qb, 1, none⟩ = some (.int .i64 0) ∧ w1.drew.cell? ⟨qb, 2, none⟩ = some (.int .i64 9) ∧ Below w.heap.size w w1.drew := ⟨q0, q1, q2, hB.out.drew⟩
  clear q0 q1 q2 hB
  go_region_held3 (fun W => W.cell? ⟨qb, 0, none⟩ = some (.int .i64 7) ∧ W.cell? ⟨qb, 1, none⟩ = some (.int .i64 0) ∧ W.cell? ⟨qb, 2, none⟩ = some (.int .i64 9) ∧ Below w.heap.size w W) (assumption) (first | (go_at_call 45; (with_reducible show Calls Tryd.prog 45 #[.int .i64 7] _ _); refine (h7.out _).mono ?_; rintro e w9 ⟨rfl, rfl⟩) | (go_at_call 45; (with_reducible show Calls Tryd.prog 45 #[.int .i64 0] _ _); refine (word0 _).mono ?_; rintro e w9 ⟨rfl, rfl⟩) | (go_at_call 45; (with_reducible show Calls Tryd.prog 45 #[.int .i64 9] _ _); refine (h9.out _).mono ?_; rintro e w9 ⟨rfl, rfl⟩))
  go_wp2_with fail
  have hB := (by assumption : w1.drew.cell? ⟨qb, 0, none⟩ = some (.int .i64 7) ∧ w1.drew.cell? ⟨qb, 1, none⟩ = some (.int .i64 0) ∧ w1.drew.cell? ⟨qb, 2, none⟩ = some (.int .i64 9) ∧ Below w.heap.size w w1.drew).2.2.2
  go_ret2
  exact ⟨by rfl, hB⟩

theorem eq23 (n : Nat) (a b c d e f : Int) (w : World) : (Op.equalIn (n + 2) 23 (.agg #[.int .i64 a, .int .i64 b, .int .i64 c]) (.agg #[.int .i64 d, .int .i64 e, .int .i64 f])).run Tryd.prog w = .ok (a == d && (b == e && c == f)) w := by
  have u3 := Tryd.underlying3
  have a3 := Tryd.isAgg3
  have z3 := Tryd.sizeOf3
  rw [Op.equalIn]
  simp only [Sem.run_bind, run_underlying Tryd.underlying23, Result.andThen_ok]
  simp only [Std.Legacy.Range.forIn_eq_forIn_range', Std.Legacy.Range.size, Nat.sub_zero, Nat.add_sub_cancel, Nat.div_one, List.range'_succ, List.range'_zero, List.forIn_cons, List.forIn_nil]
  go_simp
  by_cases h1 : a = d <;> by_cases h2 : b = e <;> by_cases h3 : c = f <;> simp [h1, h2, h3]
theorem build23 (a b c : Int) (w : World) : (Instr.build 23 #[(0, .int .i64 a), (1, .int .i64 b), (2, .int .i64 c)]).run Tryd.prog w = .ok (.agg #[.int .i64 a, .int .i64 b, .int .i64 c]) w := run_build w 23 _ _ (by kernel_rfl)
theorem build23z (w : World) : (Instr.build 23 #[]).run Tryd.prog w = .ok (.agg #[.int .i64 0, .int .i64 0, .int .i64 0]) w := run_build w 23 _ _ (by kernel_rfl)
attribute [local go_sem high] eq23 build23 build23z

set_option maxHeartbeats 2000000 in
set_option maxRecDepth 100000 in
theorem awake_walk (w : World) : Calls Tryd.prog 15 #[] w fun e w' => e = .returned (.bool true) ∧ Below w.heap.size w w' := by
  go_enter Tryd.func15, Tryd.ntmps15
  go_wp2_with (first | (go_at_call 17; refine (all_walk 7 8 9 _).mono ?_; rintro e w1 ⟨g, rfl, hg, hb⟩; have q0 : w1.cell? ⟨g, 15, none⟩ = some (.int .i64 7) := (blk_cell hg 15).trans rfl; have q1 : w1.cell? ⟨g, 16, none⟩ = some (.int .i64 0) := (blk_cell hg 16).trans rfl; have q2 : w1.cell? ⟨g, 17, none⟩ = some (.int .i64 9) := (blk_cell hg 17).trans rfl; replace hg := Aside0.mk hg; replace hb := Aside0.mk hb) | (go_at_call 29; refine (text_walk _).mono ?_; rintro e w2 ⟨rfl, hb2⟩; have hg2 := blk_below hg.out hb2; have r0 : w2.cell? ⟨g, 15, none⟩ = some (.int .i64 7) := (blk_cell hg2 15).trans rfl; have r1 : w2.cell? ⟨g, 16, none⟩ = some (.int .i64 0) := (blk_cell hg2 16).trans rfl; have r2 : w2.cell? ⟨g, 17, none⟩ = some (.int .i64 9) := (blk_cell hg2 17).trans rfl; clear hg2; replace hb2 := Aside0.mk hb2))
  go_ret
  exact ⟨rfl, hb.out.trans (hb2.out.mono hb.out.size)⟩
end Go.Proofs.YtfgnpplnjgjjkaaDoor.K
