/- Scripts without events, their report; 'awake'. -/
import Derived.Test.YtahlmllchpfkdaaGreatSNet
namespace Go.Proofs.YtahlmllchpfkdaaGreat.S
open Go.RowKit Go.Proofs.YtahlmllchpfkdaaGreatW.PrintWords Go.Proofs.YtahlmllchpfkdaaGreatL

/-- A script with limits alone. -/
abbrev scr (n : Int) : Value := .agg #[.int .i64 n, .int .i64 n, .slice none 0 0, .slice none 0 0]

theorem play_one (w : World) : Calls Tryz.prog 9 #[scr 1, .bool true] w fun e W => e = .returned (.tuple #[.slice none 0 0, .int .i64 0]) ∧ Below w.heap.size w W := by
  have hbx := Aside0.mk (blk_new w (.cells #[.int .i64 1, .int .i64 1, .slice none 0 0, .slice none 0 0] 37))
  have hB := Aside0.mk ((Below.refl w.heap.size w).alloc (Nat.le_refl _) (.cells #[.int .i64 1, .int .i64 1, .slice none 0 0, .slice none 0 0] 37))
  go_enter Tryz.func9, Tryz.ntmps9
  go_wp2_with (go_at_call 15; refine (engine_one _).mono ?_; rintro e w1 ⟨v, rfl, hb1⟩; have hx := (hb1.block _ (blk_lt hbx.out)).trans hbx.out; have x3 := (blk_cell hx 3).trans (show _ = some (Value.slice none 0 0) from rfl); replace hx := Aside0.mk hx; replace hb1 := Aside0.mk (hB.out.trans (hb1.mono hB.out.size)))
  go_loopw [24, 8] (fun i o wr => i = .int .i64 0 ∧ o = .slice none 0 0 ∧ wr = w1) (fun _ _ _ => 0)
  case atStart => exact ⟨rfl, rfl, rfl⟩
  case round =>
    obtain ⟨rfl, rfl, rfl⟩ := hrel
    go_wp2
    go_ret2
    exact ⟨rfl, hb1.out⟩
theorem play_zero (w : World) : Calls Tryz.prog 9 #[scr 0, .bool true] w fun e W => e = .returned (.tuple #[.slice none 0 0, .int .i64 13]) ∧ Below w.heap.size w W := by
  have hB := Aside0.mk ((Below.refl w.heap.size w).alloc (Nat.le_refl _) (.cells #[.int .i64 0, .int .i64 0, .slice none 0 0, .slice none 0 0] 37))
  go_enter Tryz.func9, Tryz.ntmps9
  go_wp2_with (go_at_call 15; refine (engine_zero _).mono ?_; rintro e w1 ⟨rfl, hb1⟩; replace hb1 := Aside0.mk (hB.out.trans (hb1.mono hB.out.size)))
  go_ret2
  exact ⟨rfl, hb1.out⟩

theorem good_one (w : World) : Calls Tryz.prog 8 #[scr 1] w fun e W => e = .returned (.tuple #[scr 1, .int .i64 0]) ∧ Below w.heap.size w W := by
  have hbx := Aside0.mk (blk_alloc (blk_new w (.cells #[.int .i64 1, .int .i64 1, .slice none 0 0, .slice none 0 0] 37)) (.cells #[.int .i64 0, .int .i64 0, .slice none 0 0, .slice none 0 0] 37))
  have hbr := blk_new (w.alloc (.cells #[.int .i64 1, .int .i64 1, .slice none 0 0, .slice none 0 0] 37)) (.cells #[.int .i64 0, .int .i64 0, .slice none 0 0, .slice none 0 0] 37)
  simp only [World.size_alloc] at hbr
  replace hbr := Aside0.mk hbr
  have hB := Aside0.mk (((Below.refl w.heap.size w).alloc (Nat.le_refl _) (.cells #[.int .i64 1, .int .i64 1, .slice none 0 0, .slice none 0 0] 37)).alloc (by simp) (.cells #[.int .i64 0, .int .i64 0, .slice none 0 0, .slice none 0 0] 37))
  go_enter Tryz.func8, Tryz.ntmps8
  go_wp2_with (go_at_call 9; refine (play_one _).mono ?_; rintro e w1 ⟨rfl, hb1⟩; have hx := (hb1.block _ (blk_lt hbx.out)).trans hbx.out; have hr := (hb1.block _ (blk_lt hbr.out)).trans hbr.out; have x0 := (blk_cell hx 0).trans (show _ = some (Value.int .i64 1) from rfl); have x1 := (blk_cell hx 1).trans (show _ = some (Value.int .i64 1) from rfl); have x2 : ∀ o, (w1.alloc o).cell? ⟨w.heap.size, 2, none⟩ = some (.slice none 0 0) := fun o => (blk_cell (blk_alloc hx o) 2).trans rfl; have x3 : ∀ o, (w1.alloc o).cell? ⟨w.heap.size, 3, none⟩ = some (.slice none 0 0) := fun o => (blk_cell (blk_alloc hx o) 3).trans rfl; replace hx := Aside0.mk hx; replace hr := Aside0.mk hr; replace hb1 := Aside0.mk (hB.out.trans (hb1.mono hB.out.size)))
  have hW2 := Aside0.mk (hb1.out.alloc hb1.out.size (.cells #[.int .i64 1, .int .i64 1, .slice none 0 0, .slice none 0 0] 37))
  have ho := Aside0.mk (blk_new w1 (.cells #[.int .i64 1, .int .i64 1, .slice none 0 0, .slice none 0 0] 37))
  have hx2 := Aside0.mk (blk_alloc hx.out (.cells #[.int .i64 1, .int .i64 1, .slice none 0 0, .slice none 0 0] 37))
  have hr2 := Aside0.mk (blk_alloc hr.out (.cells #[.int .i64 1, .int .i64 1, .slice none 0 0, .slice none 0 0] 37))
  generalize w1.alloc (.cells #[.int .i64 1, .int .i64 1, .slice none 0 0, .slice none 0 0] 37) = W2 at hW2 ho hx2 hr2 ⊢
  generalize w1.heap.size = q at ho ⊢
  clear x0 x1 x2 x3 hx hr hb1 hbx hbr hB
  go_loopw [26] (fun i wr => i = .int .i64 0 ∧ wr = W2) (fun _ _ => 0)
  case atStart => exact ⟨rfl, rfl⟩
  case round =>
    obtain ⟨rfl, rfl⟩ := hrel
    have x3 := (blk_cell hx2.out 3).trans (show _ = some (Value.slice none 0 0) from rfl)
    go_wp2
    go_loopw [41] (fun i wr2 => i = .int .i64 0 ∧ wr2 = wr) (fun _ _ => 0)
    case atStart => exact ⟨rfl, rfl⟩
    case round =>
      obtain ⟨rfl, rfl⟩ := hrel
      have o0 := (blk_cell ho.out 0).trans (show _ = some (Value.int .i64 1) from rfl)
      have o1 := (blk_cell ho.out 1).trans (show _ = some (Value.int .i64 1) from rfl)
      have o2 := (blk_cell ho.out 2).trans (show _ = some (Value.slice none 0 0) from rfl)
      have o3 := (blk_cell ho.out 3).trans (show _ = some (Value.slice none 0 0) from rfl)
      have r0 := (blk_cell hr2.out 0).trans (show _ = some (Value.int .i64 0) from rfl)
      have r1 := (blk_cell hr2.out 1).trans (show _ = some (Value.int .i64 0) from rfl)
      have r2 := (blk_cell hr2.out 2).trans (show _ = some (Value.slice none 0 0) from rfl)
      have r3 := (blk_cell hr2.out 3).trans (show _ = some (Value.slice none 0 0) from rfl)
      have f0 := blk_frozen hr2.out 0
      have f1 := blk_frozen hr2.out 1
      have f2 := blk_frozen hr2.out 2
      have f3 := blk_frozen hr2.out 3
      go_wp2
      have hr3 := blk_put (blk_put (blk_put (blk_put hr2.out 0 (.int .i64 1) rfl) 1 (.int .i64 1) rfl) 2 (.slice none 0 0) rfl) 3 (.slice none 0 0) rfl
      have z0 := (blk_cell hr3 0).trans (show _ = some (Value.int .i64 1) from rfl)
      have z1 := (blk_cell hr3 1).trans (show _ = some (Value.int .i64 1) from rfl)
      have z2 := (blk_cell hr3 2).trans (show _ = some (Value.slice none 0 0) from rfl)
      have z3 := (blk_cell hr3 3).trans (show _ = some (Value.slice none 0 0) from rfl)
      have hB9 := (((hW2.out.setCell (p := ⟨w.heap.size + 1, 0, none⟩) (Nat.le_succ _) (.int .i64 1)).setCell (p := ⟨w.heap.size + 1, 1, none⟩) (Nat.le_succ _) (.int .i64 1)).setCell (p := ⟨w.heap.size + 1, 2, none⟩) (Nat.le_succ _) (.slice none 0 0)).setCell (p := ⟨w.heap.size + 1, 3, none⟩) (Nat.le_succ _) (.slice none 0 0)
      refine bodyPost_ret (v := .tuple #[scr 1, .int .i64 0]) (by simp [results, Tryz.results8, go_sem, z0, z1, z2, z3]) rfl ⟨rfl, hB9⟩
theorem good_zero (w : World) : Calls Tryz.prog 8 #[scr 0] w fun e W => e = .returned (.tuple #[scr 0, .int .i64 13]) ∧ Below w.heap.size w W := by
  have hbr := blk_new (w.alloc (.cells #[.int .i64 0, .int .i64 0, .slice none 0 0, .slice none 0 0] 37)) (.cells #[.int .i64 0, .int .i64 0, .slice none 0 0, .slice none 0 0] 37)
  simp only [World.size_alloc] at hbr
  replace hbr := Aside0.mk hbr
  have hB := Aside0.mk (((Below.refl w.heap.size w).alloc (Nat.le_refl _) (.cells #[.int .i64 0, .int .i64 0, .slice none 0 0, .slice none 0 0] 37)).alloc (by simp) (.cells #[.int .i64 0, .int .i64 0, .slice none 0 0, .slice none 0 0] 37))
  go_enter Tryz.func8, Tryz.ntmps8
  go_wp2_with (go_at_call 9; refine (play_zero _).mono ?_; rintro e w1 ⟨rfl, hb1⟩; have hr := (hb1.block _ (blk_lt hbr.out)).trans hbr.out; have r0 := (blk_cell hr 0).trans (show _ = some (Value.int .i64 0) from rfl); have r1 := (blk_cell hr 1).trans (show _ = some (Value.int .i64 0) from rfl); have r2 := (blk_cell hr 2).trans (show _ = some (Value.slice none 0 0) from rfl); have r3 := (blk_cell hr 3).trans (show _ = some (Value.slice none 0 0) from rfl); have f0 := blk_frozen hr 0; have f1 := blk_frozen hr 1; have f2 := blk_frozen hr 2; have f3 := blk_frozen hr 3; replace hr := Aside0.mk hr; replace hb1 := Aside0.mk (hB.out.trans (hb1.mono hB.out.size)))
  have hr3 := blk_put (blk_put (blk_put (blk_put hr.out 0 (.int .i64 0) rfl) 1 (.int .i64 0) rfl) 2 (.slice none 0 0) rfl) 3 (.slice none 0 0) rfl
  have z0 := (blk_cell hr3 0).trans (show _ = some (Value.int .i64 0) from rfl)
  have z1 := (blk_cell hr3 1).trans (show _ = some (Value.int .i64 0) from rfl)
  have z2 := (blk_cell hr3 2).trans (show _ = some (Value.slice none 0 0) from rfl)
  have z3 := (blk_cell hr3 3).trans (show _ = some (Value.slice none 0 0) from rfl)
  have hB9 := (((hb1.out.setCell (p := ⟨w.heap.size + 1, 0, none⟩) (Nat.le_succ _) (.int .i64 0)).setCell (p := ⟨w.heap.size + 1, 1, none⟩) (Nat.le_succ _) (.int .i64 0)).setCell (p := ⟨w.heap.size + 1, 2, none⟩) (Nat.le_succ _) (.slice none 0 0)).setCell (p := ⟨w.heap.size + 1, 3, none⟩) (Nat.le_succ _) (.slice none 0 0)
  refine bodyPost_ret (v := .tuple #[scr 0, .int .i64 13]) (by simp [results, Tryz.results8, go_sem, z0, z1, z2, z3]) rfl ⟨rfl, hB9⟩
end Go.Proofs.YtahlmllchpfkdaaGreat.S
