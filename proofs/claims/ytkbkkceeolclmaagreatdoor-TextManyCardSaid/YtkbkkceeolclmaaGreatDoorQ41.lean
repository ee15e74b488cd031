/- The document's Same of two equal rules. The document's Same of two equal rules. Small: has a rule few conditions? The law TextRules. -/
import Derived.Test.YtkbkkceeolclmaaGreatDoorQ40
import Derived.Test.YtkbkkceeolclmaaGreatDoorQ35
import Derived.Test.YtkbkkceeolclmaaGreatDoorQv
import Derived.Test.YtkbkkceeolclmaaGreatDoorQ11
import Derived.Test.YtkbkkceeolclmaaGreatDoorQLMap
set_option linter.unusedVariables false
set_option linter.unusedSimpArgs false
namespace Go.Proofs.YtkbkkceeolclmaaGreatDoor.X
open Go.RowKit Go.TX Go.Proofs.YtkbkkceeolclmaaGreatDoorW.PrintWords Go.Proofs.YtkbkkceeolclmaaGreatDoorL
attribute [local go_sem] YReg.envOf
set_option maxRecDepth 100000 in
theorem eq78 (n : Nat) (p q : Int) (x y : Int) (w : World) : (Op.equalIn (n + 2) 78 (.agg #[.int .i64 p, .int .i64 x]) (.agg #[.int .i64 q, .int .i64 y])).run Tryz.prog w = .ok (p == q && x == y) w := by
  have u3 := Tryz.underlying3
  have a3 := Tryz.isAgg3
  have z3 := Tryz.sizeOf3
  refine eqA_of Tryz.underlying78 (by kernel_rfl) ?_
  refine eqf_cons (by rfl) (by go_simp <;> rfl) (by go_simp <;> rfl) (by go_simp) ?_
  exact eqf_last (by rfl) (by go_simp <;> rfl) (by go_simp <;> rfl) (by go_simp)
set_option maxRecDepth 100000 in
theorem eq79 (n : Nat) (a1 b1 c1 a2 b2 c2 : Int) (w : World) : (Op.equalIn (n + 4) 79 (.agg #[.int .i64 a1, .int .i64 a2, .int .i64 b1, .int .i64 b2, .int .i64 c1, .int .i64 c2]) (.agg #[.int .i64 a1, .int .i64 a2, .int .i64 b1, .int .i64 b2, .int .i64 c1, .int .i64 c2])).run Tryz.prog w = .ok true w := by
  have u3 := Tryz.underlying78
  have a3 := Tryz.isAgg78
  have z3 := Tryz.sizeOf78
  have he := eq78
  rw [Op.equalIn]
  simp only [Sem.run_bind, run_underlying Tryz.underlying79, Result.andThen_ok]
  simp only [Std.Legacy.Range.forIn_eq_forIn_range', Std.Legacy.Range.size, Nat.sub_zero, Nat.add_sub_cancel, Nat.div_one, List.range'_succ, List.range'_zero, List.forIn_cons, List.forIn_nil]
  go_simp
attribute [local go_sem high] eq79
set_option maxRecDepth 100000 in
set_option maxHeartbeats 4000000 in
theorem same38 (n : Nat) : ∀ (k : Int) (a b c : Tm) (subs : List Cd) (A1 : Option Addr) (c1 : Nat) (A2 : Option Addr) (c2 : Nat) (w : World) (F1 F2 : Nat → Prop), csizeL subs < n → n ≤ 1000000 → RepL evR w F1 subs A1 0 → RepL evR w F2 subs A2 0 →
    Calls Tryz.prog 38 #[aC evR k a b c (.slice A1 subs.length c1), aC evR k a b c (.slice A2 subs.length c2)] w fun e W => e = .returned (.bool true) ∧ Below w.heap.size w W := by
  induction n with
  | zero => intro k a b c subs A1 c1 A2 c2 w F1 F2 h; omega
  | succ n ih =>
    intro k a b c subs A1 c1 A2 c2 w F1 F2 hn hn1 hR1 hR2
    have hll := csizeL_len subs
    have hB0 := Aside0.mk (((Below.refl w.heap.size w).alloc (Nat.le_refl _) (oC evR 81 k a b c (.slice A1 subs.length c1))).alloc (by simp) (oC evR 81 k a b c (.slice A2 subs.length c2)))
    have hx0 := Aside0.mk (blk_alloc (blk_new w (oC evR 81 k a b c (.slice A1 subs.length c1))) (oC evR 81 k a b c (.slice A2 subs.length c2)))
    have hx1 := blk_new (w.alloc (oC evR 81 k a b c (.slice A1 subs.length c1))) (oC evR 81 k a b c (.slice A2 subs.length c2))
    simp only [World.size_alloc] at hx1
    replace hx1 := Aside0.mk hx1
    replace hR1 := Aside0.mk hR1
    replace hR2 := Aside0.mk hR2
    go_enter Tryz.func38, Tryz.ntmps38
    go_upto_region 1 with fail
    generalize (w.alloc (oC evR 81 k a b c (.slice A1 subs.length c1))).alloc (oC evR 81 k a b c (.slice A2 subs.length c2)) = W0 at hB0 hx0 hx1 ⊢
    obtain ⟨d0, d1, d2, d3, d4, d5, d6, d7⟩ := box8 hx0.out
    obtain ⟨e0, e1, e2, e3, e4, e5, e6, e7⟩ := box8 hx1.out
    go_upto_region 4 with fail
    go_loopw [30] (fun i wr => ∃ j : Nat, i = .int .i64 j ∧ j ≤ subs.length ∧ Below w.heap.size w wr ∧ wr.heap[w.heap.size]? = some (oC evR 81 k a b c (.slice A1 subs.length c1)) ∧ wr.heap[w.heap.size + 1]? = some (oC evR 81 k a b c (.slice A2 subs.length c2))) (fun i _ => subs.length - (intOf i).toNat)
    case atStart => exact ⟨0, rfl, Nat.zero_le _, hB0.out, hx0.out, hx1.out⟩
    case round =>
      obtain ⟨j, rfl, hj, hBw, hy0, hy1⟩ := hrel
      clear hB0 hx0 hx1 d0 d1 d2 d3 d4 d5 d6 d7 e0 e1 e2 e3 e4 e5 e6 e7
      clear W0
      by_cases hlt : j < subs.length
      · obtain ⟨b1, o1, k1, x1, y1, z1, s1, B1, p1, rfl, hbl1, hq1, hlen1, hr1, htk, hle, u0, u1, u2, u3, u4, u5, u6, u7⟩ := sub_at (hR1.out.below hBw) hlt
        obtain ⟨b2, o2, k2, x2, y2, z2, s2, B2, p2, rfl, hbl2, hq2, hlen2, hr2, _, _, v0, v1, v2, v3, v4, v5, v6, v7⟩ := sub_at (hR2.out.below hBw) hlt
        have hqq := hq1.symm.trans hq2
        injection hqq with g1 g2 g3 g4 g5
        subst g1 g2 g3 g4 g5
        have t0 : ∀ W', YReg.Ext wr.drew W' → W'.cell? ⟨w.heap.size, 7, none⟩ = some (.slice (some ⟨b1, o1, none⟩) subs.length c1) := fun W' h => (blk_cell ((h.of_drew.block _ (blk_lt hy0)).trans hy0) 7).trans rfl
        have t1 : ∀ W', YReg.Ext wr.drew W' → W'.cell? ⟨w.heap.size + 1, 7, none⟩ = some (.slice (some ⟨b2, o2, none⟩) subs.length c2) := fun W' h => (blk_cell ((h.of_drew.block _ (blk_lt hy1)).trans hy1) 7).trans rfl
        have u0 : ∀ W', YReg.Ext wr.drew W' → W'.cell? _ = _ := fun W' h => (h.of_drew.cell (p := ⟨b1, _, none⟩) hbl1).trans u0
        have u1 : ∀ W', YReg.Ext wr.drew W' → W'.cell? _ = _ := fun W' h => (h.of_drew.cell (p := ⟨b1, _, none⟩) hbl1).trans u1
        have u2 : ∀ W', YReg.Ext wr.drew W' → W'.cell? _ = _ := fun W' h => (h.of_drew.cell (p := ⟨b1, _, none⟩) hbl1).trans u2
        have u3 : ∀ W', YReg.Ext wr.drew W' → W'.cell? _ = _ := fun W' h => (h.of_drew.cell (p := ⟨b1, _, none⟩) hbl1).trans u3
        have u4 : ∀ W', YReg.Ext wr.drew W' → W'.cell? _ = _ := fun W' h => (h.of_drew.cell (p := ⟨b1, _, none⟩) hbl1).trans u4
        have u5 : ∀ W', YReg.Ext wr.drew W' → W'.cell? _ = _ := fun W' h => (h.of_drew.cell (p := ⟨b1, _, none⟩) hbl1).trans u5
        have u6 : ∀ W', YReg.Ext wr.drew W' → W'.cell? _ = _ := fun W' h => (h.of_drew.cell (p := ⟨b1, _, none⟩) hbl1).trans u6
        have u7 : ∀ W', YReg.Ext wr.drew W' → W'.cell? _ = _ := fun W' h => (h.of_drew.cell (p := ⟨b1, _, none⟩) hbl1).trans u7
        have v0 : ∀ W', YReg.Ext wr.drew W' → W'.cell? _ = _ := fun W' h => (h.of_drew.cell (p := ⟨b2, _, none⟩) hbl2).trans v0
        have v1 : ∀ W', YReg.Ext wr.drew W' → W'.cell? _ = _ := fun W' h => (h.of_drew.cell (p := ⟨b2, _, none⟩) hbl2).trans v1
        have v2 : ∀ W', YReg.Ext wr.drew W' → W'.cell? _ = _ := fun W' h => (h.of_drew.cell (p := ⟨b2, _, none⟩) hbl2).trans v2
        have v3 : ∀ W', YReg.Ext wr.drew W' → W'.cell? _ = _ := fun W' h => (h.of_drew.cell (p := ⟨b2, _, none⟩) hbl2).trans v3
        have v4 : ∀ W', YReg.Ext wr.drew W' → W'.cell? _ = _ := fun W' h => (h.of_drew.cell (p := ⟨b2, _, none⟩) hbl2).trans v4
        have v5 : ∀ W', YReg.Ext wr.drew W' → W'.cell? _ = _ := fun W' h => (h.of_drew.cell (p := ⟨b2, _, none⟩) hbl2).trans v5
        have v6 : ∀ W', YReg.Ext wr.drew W' → W'.cell? _ = _ := fun W' h => (h.of_drew.cell (p := ⟨b2, _, none⟩) hbl2).trans v6
        have v7 : ∀ W', YReg.Ext wr.drew W' → W'.cell? _ = _ := fun W' h => (h.of_drew.cell (p := ⟨b2, _, none⟩) hbl2).trans v7
        have k38 : Aside0 (∀ W', YReg.Ext wr.drew W' → Calls Tryz.prog 38 #[aC evR k1 x1 y1 z1 (.slice B1 s1.length p1), aC evR k1 x1 y1 z1 (.slice B2 s1.length p2)] W' fun e W2 => ∃ u, e = .returned u ∧ YReg.Ext W' W2 ∧ u = .bool true) := ⟨fun W' h => (ih k1 x1 y1 z1 s1 B1 p1 B2 p2 W' F1 F2 (by omega) (by omega) (hr1.below h.of_drew) (hr2.below h.of_drew)).mono fun e W2 ⟨h1, h2⟩ => ⟨_, h1, h2, rfl⟩⟩
        replace hq1 := Aside0.mk hq1
        replace hq2 := Aside0.mk hq2
        clear htk hle hlen1 hlen2 hr1 hr2
        replace hBw := Aside0.mk hBw
        replace hy0 := Aside0.mk hy0
        replace hy1 := Aside0.mk hy1
        go_upto_region 6 with fail
        refine YReg.wp_region_tail 11 none YReg.Ext YReg.Ext YReg.Ext.refl YReg.Ext.trans YReg.Ext.trans (fun _ _ h => h) (by kernel_rfl) (by kernel_rfl) (by kernel_rfl) [(2, .det (.pointer (some ⟨w.heap.size, 0, none⟩))), (3, .det (.pointer (some ⟨w.heap.size + 1, 0, none⟩))), (5, .det (.int .i64 (j : Int)))] (YReg.base_cons rfl (YReg.base_cons rfl (YReg.base_cons rfl YReg.base_nil))) ?_
        simp only [List.take_succ_cons, List.take_zero, List.drop_succ_cons, List.drop_zero]
        repeat (first
          | (refine YReg.walk_calld (by decide) k38.out rfl (by kernel_rfl) (by kernel_rfl) _ rfl (by kernel_rfl) (by kernel_rfl) ?_)
          | (refine YReg.run_1 (by decide) YReg.Ext.refl rfl rfl _ rfl (by kernel_rfl) (by kernel_rfl) ?_; apply Exists.intro; refine ⟨fun ρ W hE h1 => ?_, ?_⟩; (go_simp; try rfl))
          | (refine YReg.run_2 (by decide) YReg.Ext.refl rfl rfl rfl _ rfl (by kernel_rfl) (by kernel_rfl) ?_; apply Exists.intro; refine ⟨fun ρ W hE h1 h2 => ?_, ?_⟩; (go_simp; try rfl)))
        intro ρ W1 hE hn
        simp only [Act.put, List.setIfInBounds_toArray, List.set_cons_zero, List.set_cons_succ]
        have hEb := Aside0.mk hE.of_drew
        clear hn hE t0 t1 u0 u1 u2 u3 u4 u5 u6 u7 v0 v1 v2 v3 v4 v5 v6 v7 k38
        go_wp2
        go_roundw
        case rel => exact ⟨j + 1, by go_num, by omega, hBw.out.trans (hEb.out.mono hBw.out.size), (hEb.out.block _ (blk_lt hy0.out)).trans hy0.out, (hEb.out.block _ (blk_lt hy1.out)).trans hy1.out⟩
        case measure => simp [intOf]; omega
      · obtain rfl : j = subs.length := by omega
        replace hBw := Aside0.mk hBw
        clear hy0 hy1
        go_wp2
        go_ret
        exact ⟨rfl, hBw.out⟩
end Go.Proofs.YtkbkkceeolclmaaGreatDoor.X
namespace Go.Proofs.YtkbkkceeolclmaaGreatDoor.X
open Go.RowKit Go.TX Go.Proofs.YtkbkkceeolclmaaGreatDoorW.PrintWords Go.Proofs.YtkbkkceeolclmaaGreatDoorL
attribute [local go_sem] YReg.envOf
set_option maxRecDepth 100000 in
set_option maxHeartbeats 4000000 in
theorem same15 (nm : List UInt8) (subs : List Cd) (A1 : Option Addr) (c1 : Nat) (A2 : Option Addr) (c2 : Nat) (w : World) (F1 F2 : Nat → Prop) (hn : csizeL subs ≤ 1000) (hR1 : RepL evR w F1 subs A1 0) (hR2 : RepL evR w F2 subs A2 0) :
    Calls Tryz.prog 15 #[.agg #[.string (str nm), .slice A1 subs.length c1], .agg #[.string (str nm), .slice A2 subs.length c2]] w fun e W => e = .returned (.bool true) ∧ Below w.heap.size w W := by
  have hll := csizeL_len subs
  have hB0 := Aside0.mk (((Below.refl w.heap.size w).alloc (Nat.le_refl _) (.cells #[.string (str nm), .slice A1 subs.length c1] 38)).alloc (by simp) (.cells #[.string (str nm), .slice A2 subs.length c2] 38))
  have hx0 := Aside0.mk (blk_alloc (blk_new w (.cells #[.string (str nm), .slice A1 subs.length c1] 38)) (.cells #[.string (str nm), .slice A2 subs.length c2] 38))
  have hx1 := blk_new (w.alloc (.cells #[.string (str nm), .slice A1 subs.length c1] 38)) (.cells #[.string (str nm), .slice A2 subs.length c2] 38)
  simp only [World.size_alloc] at hx1
  replace hx1 := Aside0.mk hx1
  replace hR1 := Aside0.mk hR1
  replace hR2 := Aside0.mk hR2
  go_enter Tryz.func15, Tryz.ntmps15
  go_upto_region 1 with fail
  generalize (w.alloc (.cells #[.string (str nm), .slice A1 subs.length c1] 38)).alloc (.cells #[.string (str nm), .slice A2 subs.length c2] 38) = W0 at hB0 hx0 hx1 ⊢
  have d0 := (blk_cell hx0.out 0).trans (show _ = some (Value.string (str nm)) from rfl)
  have d1 := (blk_cell hx0.out 1).trans (show _ = some (Value.slice A1 subs.length c1) from rfl)
  have e0 := (blk_cell hx1.out 0).trans (show _ = some (Value.string (str nm)) from rfl)
  have e1 := (blk_cell hx1.out 1).trans (show _ = some (Value.slice A2 subs.length c2) from rfl)
  go_upto_region 4 with fail
  go_loopw [23] (fun i wr => ∃ j : Nat, i = .int .i64 j ∧ j ≤ subs.length ∧ Below w.heap.size w wr ∧ wr.heap[w.heap.size]? = some (.cells #[.string (str nm), .slice A1 subs.length c1] 38) ∧ wr.heap[w.heap.size + 1]? = some (.cells #[.string (str nm), .slice A2 subs.length c2] 38)) (fun i _ => subs.length - (intOf i).toNat)
  case atStart => exact ⟨0, rfl, Nat.zero_le _, hB0.out, hx0.out, hx1.out⟩
  case round =>
    obtain ⟨j, rfl, hj, hBw, hy0, hy1⟩ := hrel
    clear hB0 hx0 hx1 d0 d1 e0 e1
    clear W0
    by_cases hlt : j < subs.length
    · obtain ⟨b1, o1, k1, x1, y1, z1, s1, B1, p1, rfl, hbl1, hq1, hlen1, hr1, htk, hle, u0, u1, u2, u3, u4, u5, u6, u7⟩ := sub_at (hR1.out.below hBw) hlt
      obtain ⟨b2, o2, k2, x2, y2, z2, s2, B2, p2, rfl, hbl2, hq2, hlen2, hr2, _, _, v0, v1, v2, v3, v4, v5, v6, v7⟩ := sub_at (hR2.out.below hBw) hlt
      have hqq := hq1.symm.trans hq2
      injection hqq with g1 g2 g3 g4 g5
      subst g1 g2 g3 g4 g5
      have t0 : ∀ W', YReg.Ext wr.drew W' → W'.cell? ⟨w.heap.size, 1, none⟩ = some (.slice (some ⟨b1, o1, none⟩) subs.length c1) := fun W' h => (blk_cell ((h.of_drew.block _ (blk_lt hy0)).trans hy0) 1).trans rfl
      have t1 : ∀ W', YReg.Ext wr.drew W' → W'.cell? ⟨w.heap.size + 1, 1, none⟩ = some (.slice (some ⟨b2, o2, none⟩) subs.length c2) := fun W' h => (blk_cell ((h.of_drew.block _ (blk_lt hy1)).trans hy1) 1).trans rfl
      have u0 : ∀ W', YReg.Ext wr.drew W' → W'.cell? _ = _ := fun W' h => (h.of_drew.cell (p := ⟨b1, _, none⟩) hbl1).trans u0
      have u1 : ∀ W', YReg.Ext wr.drew W' → W'.cell? _ = _ := fun W' h => (h.of_drew.cell (p := ⟨b1, _, none⟩) hbl1).trans u1
      have u2 : ∀ W', YReg.Ext wr.drew W' → W'.cell? _ = _ := fun W' h => (h.of_drew.cell (p := ⟨b1, _, none⟩) hbl1).trans u2
      have u3 : ∀ W', YReg.Ext wr.drew W' → W'.cell? _ = _ := fun W' h => (h.of_drew.cell (p := ⟨b1, _, none⟩) hbl1).trans u3
      have u4 : ∀ W', YReg.Ext wr.drew W' → W'.cell? _ = _ := fun W' h => (h.of_drew.cell (p := ⟨b1, _, none⟩) hbl1).trans u4
      have u5 : ∀ W', YReg.Ext wr.drew W' → W'.cell? _ = _ := fun W' h => (h.of_drew.cell (p := ⟨b1, _, none⟩) hbl1).trans u5
      have u6 : ∀ W', YReg.Ext wr.drew W' → W'.cell? _ = _ := fun W' h => (h.of_drew.cell (p := ⟨b1, _, none⟩) hbl1).trans u6
      have u7 : ∀ W', YReg.Ext wr.drew W' → W'.cell? _ = _ := fun W' h => (h.of_drew.cell (p := ⟨b1, _, none⟩) hbl1).trans u7
      have v0 : ∀ W', YReg.Ext wr.drew W' → W'.cell? _ = _ := fun W' h => (h.of_drew.cell (p := ⟨b2, _, none⟩) hbl2).trans v0
      have v1 : ∀ W', YReg.Ext wr.drew W' → W'.cell? _ = _ := fun W' h => (h.of_drew.cell (p := ⟨b2, _, none⟩) hbl2).trans v1
      have v2 : ∀ W', YReg.Ext wr.drew W' → W'.cell? _ = _ := fun W' h => (h.of_drew.cell (p := ⟨b2, _, none⟩) hbl2).trans v2
      have v3 : ∀ W', YReg.Ext wr.drew W' → W'.cell? _ = _ := fun W' h => (h.of_drew.cell (p := ⟨b2, _, none⟩) hbl2).trans v3
      have v4 : ∀ W', YReg.Ext wr.drew W' → W'.cell? _ = _ := fun W' h => (h.of_drew.cell (p := ⟨b2, _, none⟩) hbl2).trans v4
      have v5 : ∀ W', YReg.Ext wr.drew W' → W'.cell? _ = _ := fun W' h => (h.of_drew.cell (p := ⟨b2, _, none⟩) hbl2).trans v5
      have v6 : ∀ W', YReg.Ext wr.drew W' → W'.cell? _ = _ := fun W' h => (h.of_drew.cell (p := ⟨b2, _, none⟩) hbl2).trans v6
      have v7 : ∀ W', YReg.Ext wr.drew W' → W'.cell? _ = _ := fun W' h => (h.of_drew.cell (p := ⟨b2, _, none⟩) hbl2).trans v7
      have k38 : Aside0 (∀ W', YReg.Ext wr.drew W' → Calls Tryz.prog 38 #[aC evR k1 x1 y1 z1 (.slice B1 s1.length p1), aC evR k1 x1 y1 z1 (.slice B2 s1.length p2)] W' fun e W2 => ∃ u, e = .returned u ∧ YReg.Ext W' W2 ∧ u = .bool true) := ⟨fun W' h => (same38 (csizeL s1 + 1) k1 x1 y1 z1 s1 B1 p1 B2 p2 W' F1 F2 (by omega) (by omega) (hr1.below h.of_drew) (hr2.below h.of_drew)).mono fun e W2 ⟨h1, h2⟩ => ⟨_, h1, h2, rfl⟩⟩
      replace hq1 := Aside0.mk hq1
      replace hq2 := Aside0.mk hq2
      clear htk hle hlen1 hlen2 hr1 hr2
      replace hBw := Aside0.mk hBw
      replace hy0 := Aside0.mk hy0
      replace hy1 := Aside0.mk hy1
      go_upto_region 6 with fail
      refine YReg.wp_region_tail 11 none YReg.Ext YReg.Ext YReg.Ext.refl YReg.Ext.trans YReg.Ext.trans (fun _ _ h => h) (by kernel_rfl) (by kernel_rfl) (by kernel_rfl) [(2, .det (.pointer (some ⟨w.heap.size, 0, none⟩))), (3, .det (.pointer (some ⟨w.heap.size + 1, 0, none⟩))), (5, .det (.int .i64 (j : Int)))] (YReg.base_cons rfl (YReg.base_cons rfl (YReg.base_cons rfl YReg.base_nil))) ?_
      simp only [List.take_succ_cons, List.take_zero, List.drop_succ_cons, List.drop_zero]
      repeat (first
        | (refine YReg.walk_calld (by decide) k38.out rfl (by kernel_rfl) (by kernel_rfl) _ rfl (by kernel_rfl) (by kernel_rfl) ?_)
        | (refine YReg.run_1 (by decide) YReg.Ext.refl rfl rfl _ rfl (by kernel_rfl) (by kernel_rfl) ?_; apply Exists.intro; refine ⟨fun ρ W hE h1 => ?_, ?_⟩; (go_simp; try rfl))
        | (refine YReg.run_2 (by decide) YReg.Ext.refl rfl rfl rfl _ rfl (by kernel_rfl) (by kernel_rfl) ?_; apply Exists.intro; refine ⟨fun ρ W hE h1 h2 => ?_, ?_⟩; (go_simp; try rfl)))
      intro ρ W1 hE hn
      simp only [Act.put, List.setIfInBounds_toArray, List.set_cons_zero, List.set_cons_succ]
      have hEb := Aside0.mk hE.of_drew
      clear hn hE t0 t1 u0 u1 u2 u3 u4 u5 u6 u7 v0 v1 v2 v3 v4 v5 v6 v7 k38
      go_wp2
      go_roundw
      case rel => exact ⟨j + 1, by go_num, by omega, hBw.out.trans (hEb.out.mono hBw.out.size), (hEb.out.block _ (blk_lt hy0.out)).trans hy0.out, (hEb.out.block _ (blk_lt hy1.out)).trans hy1.out⟩
      case measure => simp [intOf]; omega
    · obtain rfl : j = subs.length := by omega
      replace hBw := Aside0.mk hBw
      clear hy0 hy1
      go_wp2
      go_ret
      exact ⟨rfl, hBw.out⟩
end Go.Proofs.YtkbkkceeolclmaaGreatDoor.X
namespace Go.Proofs.YtkbkkceeolclmaaGreatDoor.X
open Go.RowKit Go.TX Go.Proofs.YtkbkkceeolclmaaGreatDoorW.PrintWords Go.Proofs.YtkbkkceeolclmaaGreatDoorL
end Go.Proofs.YtkbkkceeolclmaaGreatDoor.X
namespace Go.TX
end Go.TX
namespace Go.Proofs.YtkbkkceeolclmaaGreatDoor.X
open Go.RowKit Go.TX Go.Proofs.YtkbkkceeolclmaaGreatDoorW.PrintWords Go.Proofs.YtkbkkceeolclmaaGreatDoorL
attribute [local go_sem] YReg.envOf
/-- The document's rule, as a call gives it. -/
def IsRl (nm : List UInt8) (l : List Cd) (u : Value) (W : World) : Prop := ∃ S n, u = .agg #[.string (str nm), S] ∧ BR n W S l
theorem IsRl.up {nm : List UInt8} {l : List Cd} : ∀ u w w', IsRl nm l u w → YReg.Ext w w' → IsRl nm l u w' := fun _ _ _ ⟨S, n, e, h⟩ hb => ⟨S, n, e, h.below hb⟩
end Go.Proofs.YtkbkkceeolclmaaGreatDoor.X
