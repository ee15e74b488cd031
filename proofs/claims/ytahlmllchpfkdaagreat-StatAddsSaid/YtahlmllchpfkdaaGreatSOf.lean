/- The report of a script without events; 'awake'. -/
import Derived.Test.YtahlmllchpfkdaaGreatSPlay
namespace Go.Proofs.YtahlmllchpfkdaaGreat.S
open Go.RowKit Go.Proofs.YtahlmllchpfkdaaGreatW.PrintWords Go.Proofs.YtahlmllchpfkdaaGreatL

abbrev rep (a b c d e f g : Int) : Value := .agg #[.int .i64 a, .int .i64 b, .int .i64 c, .int .i64 d, .int .i64 e, .int .i64 f, .int .i64 g]
abbrev repO (a b c d e f g : Int) : Obj := .cells #[.int .i64 a, .int .i64 b, .int .i64 c, .int .i64 d, .int .i64 e, .int .i64 f, .int .i64 g] 23
abbrev scrO (n : Int) : Obj := .cells #[.int .i64 n, .int .i64 n, .slice none 0 0, .slice none 0 0] 37

set_option maxRecDepth 100000 in
set_option maxHeartbeats 2000000 in
theorem of_one (w : World) : Calls Tryz.prog 7 #[scr 1] w fun e W => e = .returned (.tuple #[rep 0 0 0 0 1 0 0, .int .i64 0]) ∧ Below w.heap.size w W := by
  have hbr := blk_new (w.alloc (scrO 1)) (repO 0 0 0 0 0 0 0)
  simp only [World.size_alloc] at hbr
  replace hbr := Aside0.mk hbr
  have hB := Aside0.mk (((Below.refl w.heap.size w).alloc (Nat.le_refl _) (scrO 1)).alloc (by simp) (repO 0 0 0 0 0 0 0))
  go_enter Tryz.func7, Tryz.ntmps7
  go_upto_region 4 with (go_at_call 8; refine (good_one _).mono ?_; rintro e w1 ⟨rfl, hb1⟩; have hr1 := Aside0.mk (blk_alloc ((hb1.block _ (blk_lt hbr.out)).trans hbr.out) (scrO 1)); have hq1 := Aside0.mk (blk_new w1 (scrO 1)); replace hb1 := Aside0.mk ((hB.out.trans (hb1.mono hB.out.size)).alloc (Nat.le_trans hB.out.size hb1.size) (scrO 1)))
  generalize w1.alloc (scrO 1) = W1 at hr1 hq1 hb1 ⊢
  generalize w1.heap.size = q at hq1 ⊢
  have c0 := (blk_cell hq1.out 0).trans (show _ = some (Value.int .i64 1) from rfl)
  have c1 := (blk_cell hq1.out 1).trans (show _ = some (Value.int .i64 1) from rfl)
  have c2 := (blk_cell hq1.out 2).trans (show _ = some (Value.slice none 0 0) from rfl)
  have c3 := (blk_cell hq1.out 3).trans (show _ = some (Value.slice none 0 0) from rfl)
  clear hbr hB
  go_upto_region 5 with (go_at_call 9; refine (play_one _).mono ?_; rintro e w2 ⟨rfl, hb2⟩; have hr2 := Aside0.mk ((hb2.block _ (blk_lt hr1.out)).trans hr1.out); have hq2 := Aside0.mk ((hb2.block _ (blk_lt hq1.out)).trans hq1.out); replace hb2 := Aside0.mk (hb1.out.trans (hb2.mono hb1.out.size)))
  clear hr1 hq1 hb1 c0 c1 c2 c3
  go_upto_region 6 with (first
    | (go_at_call 10; (with_reducible show Calls Tryz.prog 10 #[.bool true] _ _); refine (net_new true _).mono ?_; rintro e w3 ⟨ba, ca, rfl, hb3, hsa, hna, ha7, ha8⟩; have hr3 := Aside0.mk ((hb3.block _ (blk_lt hr2.out)).trans hr2.out); have hq3 := Aside0.mk ((hb3.block _ (blk_lt hq2.out)).trans hq2.out); replace hna := Aside0.mk hna; replace hsa := Aside0.mk (Nat.le_trans hb2.out.size hsa); replace ha7 := Aside0.mk ha7; replace ha8 := Aside0.mk ha8; replace hb3 := Aside0.mk (hb2.out.trans (hb3.mono hb2.out.size)))
    | (go_at_call 10; (with_reducible show Calls Tryz.prog 10 #[.bool false] _ _); refine (net_new false _).mono ?_; rintro e w4 ⟨bb, cb, rfl, hb4, hsb, hnb, hb7, hb8⟩; have hr4 := Aside0.mk ((hb4.block _ (blk_lt hr3.out)).trans hr3.out); have hq4 := Aside0.mk ((hb4.block _ (blk_lt hq3.out)).trans hq3.out); have hn4 := Aside0.mk ((hb4.block _ (blk_lt hna.out)).trans hna.out); have hm4 := Aside0.mk hnb; clear hnb; replace hsb := Aside0.mk (Nat.le_trans hb3.out.size hsb); replace hb7 := Aside0.mk hb7; replace hb8 := Aside0.mk hb8; replace hb4 := Aside0.mk (hb3.out.trans (hb4.mono hb3.out.size))))
  clear hr2 hq2 hb2 hr3 hq3 hb3 hna hsa hsb
  have ho := Aside0.mk (blk_new w4 (repO 0 0 0 0 1 0 0))
  have hr := Aside0.mk (blk_alloc hr4.out (repO 0 0 0 0 1 0 0))
  have hq := Aside0.mk (blk_alloc hq4.out (repO 0 0 0 0 1 0 0))
  have hn := Aside0.mk (blk_alloc hn4.out (repO 0 0 0 0 1 0 0))
  have hm := Aside0.mk (blk_alloc hm4.out (repO 0 0 0 0 1 0 0))
  have hb := Aside0.mk (hb4.out.alloc hb4.out.size (repO 0 0 0 0 1 0 0))
  have hrp : Aside0 (w.heap.size ≤ w4.heap.size ∧ w.heap.size + 1 ≠ w4.heap.size) := ⟨hb4.out.size, by have := blk_lt hr4.out; omega⟩
  go_upto_region 7 with fail
  generalize w4.alloc (repO 0 0 0 0 1 0 0) = W4 at ho hr hq hn hm hb ⊢
  generalize w4.heap.size = p at ho hrp ⊢
  clear hr4 hq4 hn4 hm4 hb4
  have x3 := (blk_cell hq.out 3).trans (show _ = some (Value.slice none 0 0) from rfl)
  go_wp2
  go_loopw [35] (fun i wr => i = .int .i64 0 ∧ wr = W4) (fun _ _ => 0)
  case atStart => exact ⟨rfl, rfl⟩
  case round =>
    obtain ⟨rfl, rfl⟩ := hrel
    go_upto_region 15 with fail
    have hca := Aside0.mk (calls_walk hn.out ha7.out ha8.out)
    have p0 := (blk_cell ho.out 0).trans (show _ = some (Value.int .i64 0) from rfl)
    clear p0 x3
    go_upto_region 16 with (go_at_call 13; refine hca.out.mono ?_; rintro e w5 ⟨rfl, h5⟩; have ho5 := (h5.block _ (blk_lt ho.out)).trans ho.out; have p0 := (blk_cell ho5 0).trans (show _ = some (Value.int .i64 0) from rfl); have p1 := (blk_cell ho5 1).trans (show _ = some (Value.int .i64 0) from rfl); have g0 := blk_frozen ho5 0; have g1 := blk_frozen ho5 1; have hX := Aside0.mk (blk_put (blk_put ho5 0 (.int .i64 0) rfl) 1 (.int .i64 0) rfl); replace ho5 := Aside0.mk ho5; have hr5 := Aside0.mk ((h5.block _ (blk_lt hr.out)).trans hr.out); have hm5 := Aside0.mk ((h5.block _ (blk_lt hm.out)).trans hm.out); replace h5 := Aside0.mk (hb.out.trans (h5.mono hb.out.size)))
    have hb6 := Aside0.mk ((h5.out.setCell (p := ⟨p, 0, none⟩) hrp.out.1 (.int .i64 0)).setCell (p := ⟨p, 1, none⟩) hrp.out.1 (.int .i64 0))
    have hr6 := Aside0.mk (blk_far (blk_far hr5.out (p := ⟨p, 0, none⟩) hrp.out.2 (.int .i64 0)) (p := ⟨p, 1, none⟩) hrp.out.2 (.int .i64 0))
    have hne : bb ≠ p := blk_ne hm5.out ho5.out (by decide)
    have hm6 := Aside0.mk (blk_far (blk_far hm5.out (p := ⟨p, 0, none⟩) hne (.int .i64 0)) (p := ⟨p, 1, none⟩) hne (.int .i64 0))
    clear p0 p1 g0 g1 ho5 hr5 hm5 h5 hca ho hr hq hn hm hb hne
    generalize (w5.setCell ⟨p, 0, none⟩ (.int .i64 0)).setCell ⟨p, 1, none⟩ (.int .i64 0) = w6 at hX hb6 hr6 hm6 ⊢
    have hcb := Aside0.mk (calls_walk hm6.out hb7.out hb8.out)
    go_upto_region 17 with (go_at_call 13; refine hcb.out.mono ?_; rintro e w7 ⟨rfl, h7⟩; have ho7 := (h7.block _ (blk_lt hX.out)).trans hX.out; have p2 := (blk_cell ho7 2).trans (show _ = some (Value.int .i64 0) from rfl); have p3 := (blk_cell ho7 3).trans (show _ = some (Value.int .i64 0) from rfl); have g2 := blk_frozen ho7 2; have g3 := blk_frozen ho7 3; have hY := Aside0.mk (blk_put (blk_put ho7 2 (.int .i64 0) rfl) 3 (.int .i64 0) rfl); replace ho7 := Aside0.mk ho7; have hr7 := Aside0.mk ((h7.block _ (blk_lt hr6.out)).trans hr6.out); replace h7 := Aside0.mk (hb6.out.trans (h7.mono hb6.out.size)))
    have hb8' := Aside0.mk ((h7.out.setCell (p := ⟨p, 2, none⟩) hrp.out.1 (.int .i64 0)).setCell (p := ⟨p, 3, none⟩) hrp.out.1 (.int .i64 0))
    have hr8 := Aside0.mk (blk_far (blk_far hr7.out (p := ⟨p, 2, none⟩) hrp.out.2 (.int .i64 0)) (p := ⟨p, 3, none⟩) hrp.out.2 (.int .i64 0))
    clear p2 p3 g2 g3 ho7 hr7 h7 hcb hX hb6 hr6 hm6
    generalize (w7.setCell ⟨p, 2, none⟩ (.int .i64 0)).setCell ⟨p, 3, none⟩ (.int .i64 0) = w9 at hY hb8' hr8 ⊢
    have y0 := (blk_cell hY.out 0).trans (show _ = some (Value.int .i64 0) from rfl)
    have y1 := (blk_cell hY.out 1).trans (show _ = some (Value.int .i64 0) from rfl)
    have y2 := (blk_cell hY.out 2).trans (show _ = some (Value.int .i64 0) from rfl)
    have y3 := (blk_cell hY.out 3).trans (show _ = some (Value.int .i64 0) from rfl)
    have y4 := (blk_cell hY.out 4).trans (show _ = some (Value.int .i64 1) from rfl)
    have y5 := (blk_cell hY.out 5).trans (show _ = some (Value.int .i64 0) from rfl)
    have y6 := (blk_cell hY.out 6).trans (show _ = some (Value.int .i64 0) from rfl)
    have r0 := (blk_cell hr8.out 0).trans (show _ = some (Value.int .i64 0) from rfl)
    have f0 := blk_frozen hr8.out 0
    have r1 := (blk_cell hr8.out 1).trans (show _ = some (Value.int .i64 0) from rfl)
    have f1 := blk_frozen hr8.out 1
    have r2 := (blk_cell hr8.out 2).trans (show _ = some (Value.int .i64 0) from rfl)
    have f2 := blk_frozen hr8.out 2
    have r3 := (blk_cell hr8.out 3).trans (show _ = some (Value.int .i64 0) from rfl)
    have f3 := blk_frozen hr8.out 3
    have r4 := (blk_cell hr8.out 4).trans (show _ = some (Value.int .i64 0) from rfl)
    have f4 := blk_frozen hr8.out 4
    have r5 := (blk_cell hr8.out 5).trans (show _ = some (Value.int .i64 0) from rfl)
    have f5 := blk_frozen hr8.out 5
    have r6 := (blk_cell hr8.out 6).trans (show _ = some (Value.int .i64 0) from rfl)
    have f6 := blk_frozen hr8.out 6
    go_wp2
    have hr9 := blk_put (blk_put (blk_put (blk_put (blk_put (blk_put (blk_put (hr8.out) 0 (.int .i64 0) rfl) 1 (.int .i64 0) rfl) 2 (.int .i64 0) rfl) 3 (.int .i64 0) rfl) 4 (.int .i64 1) rfl) 5 (.int .i64 0) rfl) 6 (.int .i64 0) rfl
    have z0 := (blk_cell hr9 0).trans (show _ = some (Value.int .i64 0) from rfl)
    have z1 := (blk_cell hr9 1).trans (show _ = some (Value.int .i64 0) from rfl)
    have z2 := (blk_cell hr9 2).trans (show _ = some (Value.int .i64 0) from rfl)
    have z3 := (blk_cell hr9 3).trans (show _ = some (Value.int .i64 0) from rfl)
    have z4 := (blk_cell hr9 4).trans (show _ = some (Value.int .i64 1) from rfl)
    have z5 := (blk_cell hr9 5).trans (show _ = some (Value.int .i64 0) from rfl)
    have z6 := (blk_cell hr9 6).trans (show _ = some (Value.int .i64 0) from rfl)
    have hB9 := (((((((hb8'.out).setCell (p := ⟨w.heap.size + 1, 0, none⟩) (Nat.le_succ _) (.int .i64 0)).setCell (p := ⟨w.heap.size + 1, 1, none⟩) (Nat.le_succ _) (.int .i64 0)).setCell (p := ⟨w.heap.size + 1, 2, none⟩) (Nat.le_succ _) (.int .i64 0)).setCell (p := ⟨w.heap.size + 1, 3, none⟩) (Nat.le_succ _) (.int .i64 0)).setCell (p := ⟨w.heap.size + 1, 4, none⟩) (Nat.le_succ _) (.int .i64 1)).setCell (p := ⟨w.heap.size + 1, 5, none⟩) (Nat.le_succ _) (.int .i64 0)).setCell (p := ⟨w.heap.size + 1, 6, none⟩) (Nat.le_succ _) (.int .i64 0)
    refine bodyPost_ret (v := .tuple #[rep 0 0 0 0 1 0 0, .int .i64 0]) (by simp [results, Tryz.results7, go_sem, z0, z1, z2, z3, z4, z5, z6]) rfl ⟨rfl, hB9⟩

set_option maxRecDepth 100000 in
theorem of_zero (w : World) : Calls Tryz.prog 7 #[scr 0] w fun e W => e = .returned (.tuple #[rep 0 0 0 0 0 0 0, .int .i64 13]) ∧ Below w.heap.size w W := by
  have hbr := blk_new (w.alloc (scrO 0)) (repO 0 0 0 0 0 0 0)
  simp only [World.size_alloc] at hbr
  replace hbr := Aside0.mk hbr
  have hB := Aside0.mk (((Below.refl w.heap.size w).alloc (Nat.le_refl _) (scrO 0)).alloc (by simp) (repO 0 0 0 0 0 0 0))
  go_enter Tryz.func7, Tryz.ntmps7
  go_upto_region 3 with (go_at_call 8; refine (good_zero _).mono ?_; rintro e w1 ⟨rfl, hb1⟩; have hr1 := Aside0.mk (blk_alloc ((hb1.block _ (blk_lt hbr.out)).trans hbr.out) (scrO 0)); replace hb1 := Aside0.mk ((hB.out.trans (hb1.mono hB.out.size)).alloc (Nat.le_trans hB.out.size hb1.size) (scrO 0)))
  generalize w1.alloc (scrO 0) = W1 at hr1 hb1 ⊢
  generalize w1.heap.size = q
  have r0 := (blk_cell hr1.out 0).trans (show _ = some (Value.int .i64 0) from rfl)
  have f0 := blk_frozen hr1.out 0
  have r1 := (blk_cell hr1.out 1).trans (show _ = some (Value.int .i64 0) from rfl)
  have f1 := blk_frozen hr1.out 1
  have r2 := (blk_cell hr1.out 2).trans (show _ = some (Value.int .i64 0) from rfl)
  have f2 := blk_frozen hr1.out 2
  have r3 := (blk_cell hr1.out 3).trans (show _ = some (Value.int .i64 0) from rfl)
  have f3 := blk_frozen hr1.out 3
  have r4 := (blk_cell hr1.out 4).trans (show _ = some (Value.int .i64 0) from rfl)
  have f4 := blk_frozen hr1.out 4
  have r5 := (blk_cell hr1.out 5).trans (show _ = some (Value.int .i64 0) from rfl)
  have f5 := blk_frozen hr1.out 5
  have r6 := (blk_cell hr1.out 6).trans (show _ = some (Value.int .i64 0) from rfl)
  have f6 := blk_frozen hr1.out 6
  go_wp2
  have hr9 := blk_put (blk_put (blk_put (blk_put (blk_put (blk_put (blk_put (hr1.out) 0 (.int .i64 0) rfl) 1 (.int .i64 0) rfl) 2 (.int .i64 0) rfl) 3 (.int .i64 0) rfl) 4 (.int .i64 0) rfl) 5 (.int .i64 0) rfl) 6 (.int .i64 0) rfl
  have z0 := (blk_cell hr9 0).trans (show _ = some (Value.int .i64 0) from rfl)
  have z1 := (blk_cell hr9 1).trans (show _ = some (Value.int .i64 0) from rfl)
  have z2 := (blk_cell hr9 2).trans (show _ = some (Value.int .i64 0) from rfl)
  have z3 := (blk_cell hr9 3).trans (show _ = some (Value.int .i64 0) from rfl)
  have z4 := (blk_cell hr9 4).trans (show _ = some (Value.int .i64 0) from rfl)
  have z5 := (blk_cell hr9 5).trans (show _ = some (Value.int .i64 0) from rfl)
  have z6 := (blk_cell hr9 6).trans (show _ = some (Value.int .i64 0) from rfl)
  have hB9 := (((((((hb1.out).setCell (p := ⟨w.heap.size + 1, 0, none⟩) (Nat.le_succ _) (.int .i64 0)).setCell (p := ⟨w.heap.size + 1, 1, none⟩) (Nat.le_succ _) (.int .i64 0)).setCell (p := ⟨w.heap.size + 1, 2, none⟩) (Nat.le_succ _) (.int .i64 0)).setCell (p := ⟨w.heap.size + 1, 3, none⟩) (Nat.le_succ _) (.int .i64 0)).setCell (p := ⟨w.heap.size + 1, 4, none⟩) (Nat.le_succ _) (.int .i64 0)).setCell (p := ⟨w.heap.size + 1, 5, none⟩) (Nat.le_succ _) (.int .i64 0)).setCell (p := ⟨w.heap.size + 1, 6, none⟩) (Nat.le_succ _) (.int .i64 0)
  refine bodyPost_ret (v := .tuple #[rep 0 0 0 0 0 0 0, .int .i64 13]) (by simp [results, Tryz.results7, go_sem, z0, z1, z2, z3, z4, z5, z6]) rfl ⟨rfl, hB9⟩
end Go.Proofs.YtahlmllchpfkdaaGreat.S
