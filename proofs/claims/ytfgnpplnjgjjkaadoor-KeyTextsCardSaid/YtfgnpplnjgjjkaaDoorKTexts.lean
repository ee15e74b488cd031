/- The walk of the law KeyTexts. -/
import Derived.Test.YtfgnpplnjgjjkaaDoorKRText
namespace Go.Proofs.YtfgnpplnjgjjkaaDoor.T
open Go.RowKit Go.Lib Go.Proofs.YtfgnpplnjgjjkaaDoorW.PrintWords Go.Proofs.YtfgnpplnjgjjkaaDoor.K

attribute [local go_sem high] eqB_run build23 build23z

theorem eqB_self (a b c : Int) : eqB a b c a b c = true := by simp [eqB]

set_option maxHeartbeats 2000000 in
set_option maxRecDepth 100000 in
theorem ktexts_no (a b c : Int) (hR : rightR 0 a b c = false) (w : World) (hE : Env w) :
    Calls Tryd.prog 8 #[.agg #[.int .i64 a, .int .i64 b, .int .i64 c]] w fun e w' => e = .returned (.bool true) ∧ Below w.heap.size w w' := by
  have HT := Aside0.mk (fun w => ktext_no a b c hR w)
  have HR := Aside0.mk (fun w => right07_walk a b c w)
  have HR2 := Aside0.mk (fun w => keyRight_walk a b c w)
  rw [hR] at HR HR2
  have hT0 : TC w w.heap.size a b c (w.alloc (.cells #[.int .i64 a, .int .i64 b, .int .i64 c] 23)) :=
    TB.full ⟨blk_new w _, (Below.refl _ _).alloc (Nat.le_refl _) _, by rw [World.size_alloc]; omega, hE.below ((Below.refl _ _).alloc (Nat.le_refl _) _)⟩
  obtain ⟨qb, hqb⟩ : ∃ q, w.heap.size = q := ⟨_, rfl⟩
  replace hT0 := Aside0.mk (show TC w qb a b c _ from hqb ▸ hT0)
  replace hqb := Aside0.mk hqb
  clear hE hR
  go_enter Tryd.func8, Tryd.ntmps8
  go_upto_region 1 with fail
  rw [hqb.out] at ⊢
  generalize w.alloc (.cells #[.int .i64 a, .int .i64 b, .int .i64 c] 23) = W0 at hT0 ⊢
  obtain ⟨x0, x1, x2, -⟩ := hT0.out
  go_wp2_with (first | (go_at_call 29; refine (HT.out _).mono ?_; rintro e w1 ⟨rfl, hb⟩; have hT1 := Aside0.mk (hT0.out.keep hb); clear x0 x1 x2 hb; obtain ⟨x0, x1, x2, -⟩ := hT1.out) | (go_at_call 14; refine (HR.out _).mono ?_; rintro e w2 ⟨rfl, hb⟩; have hT2 := Aside0.mk (hT1.out.keep hb); clear x0 x1 x2 hb; obtain ⟨x0, x1, x2, -⟩ := hT2.out) | (go_at_call 30; refine (HR2.out _).mono ?_; rintro e w3 ⟨rfl, hb⟩; have hT3 := Aside0.mk (hT2.out.keep hb); clear x0 x1 x2 hb) | (go_at_call 15; refine (awake_walk _).mono ?_; rintro e w9 ⟨rfl, hb9⟩; replace hb9 := Aside0.mk hb9))
  go_ret
  exact ⟨rfl, hT3.out.2.2.2.2.1.trans (hb9.out.mono hT3.out.2.2.2.2.2.1)⟩

set_option maxHeartbeats 4000000 in
set_option maxRecDepth 100000 in
theorem ktexts_yes (a b c : Int) (hR : rightR 0 a b c = true) (w : World) (hE : Env w) :
    Calls Tryd.prog 8 #[.agg #[.int .i64 a, .int .i64 b, .int .i64 c]] w fun e w' => e = .returned (.bool true) ∧ Below w.heap.size w w' := by
  have HT := Aside0.mk (fun w h => ktext_ok a b c hR w h)
  have HP := Aside0.mk (fun w h => kparse_yes a b c hR w h)
  have HR := Aside0.mk (fun w => right07_walk a b c w)
  have HR2 := Aside0.mk (fun w => keyRight_walk a b c w)
  rw [hR] at HR HR2
  have HX := Aside0.mk (fun w => refText_walk a b c hR w)
  generalize str (ktext3 a.toNat b.toNat c.toNat) = S at HT HP HX
  have hT0 : TC w w.heap.size a b c (w.alloc (.cells #[.int .i64 a, .int .i64 b, .int .i64 c] 23)) :=
    TB.full ⟨blk_new w _, (Below.refl _ _).alloc (Nat.le_refl _) _, by rw [World.size_alloc]; omega, hE.below ((Below.refl _ _).alloc (Nat.le_refl _) _)⟩
  obtain ⟨qb, hqb⟩ : ∃ q, w.heap.size = q := ⟨_, rfl⟩
  replace hT0 := Aside0.mk (show TC w qb a b c _ from hqb ▸ hT0)
  replace hqb := Aside0.mk hqb
  have hee := eqB_self a b c
  clear hE hR
  go_enter Tryd.func8, Tryd.ntmps8
  go_upto_region 1 with fail
  rw [hqb.out] at ⊢
  generalize w.alloc (.cells #[.int .i64 a, .int .i64 b, .int .i64 c] 23) = W0 at hT0 ⊢
  obtain ⟨x0, x1, x2, -⟩ := hT0.out
  go_wp2_with (first | (go_at_call 29; refine (HT.out _ hT0.out.2.2.2.2.2.2).mono ?_; rintro e w1 ⟨rfl, hb⟩; have hT1 := Aside0.mk (hT0.out.keep hb); clear x0 x1 x2 hb; obtain ⟨x0, x1, x2, -⟩ := hT1.out) | (go_at_call 14; refine (HR.out _).mono ?_; rintro e w2 ⟨rfl, hb⟩; have hT2 := Aside0.mk (hT1.out.keep hb); clear x0 x1 x2 hb) | (go_at_call 31; refine (HP.out _ hT2.out.2.2.2.2.2.2).mono ?_; rintro e w10 ⟨rfl, hb⟩; have hG := hT2.out.keep (hb.alloc hb.size (.cells #[.int .i64 a, .int .i64 b, .int .i64 c] 23)); have hN := blk_new w10 (.cells #[.int .i64 a, .int .i64 b, .int .i64 c] 23); replace hG := Aside0.mk hG; obtain ⟨y0, y1, y2, -⟩ := hG.out; replace hN := Aside0.mk hN; clear hb) | (go_at_call 32; refine (HX.out _).mono ?_; rintro e w13 ⟨rfl, hb⟩; have hG2 := Aside0.mk (hG.out.keep hb); have hN2 := Aside0.mk (blk_below hN.out hb); clear y0 y1 y2 hb; obtain ⟨y0, y1, y2, -⟩ := hG2.out) | (go_at_call 30; refine (HR2.out _).mono ?_; rintro e w11 ⟨rfl, hb⟩; have hH := hG2.out.keep hb; have hM := blk_below hN2.out hb; clear y0 y1 y2 hb; replace hH := Aside0.mk hH; obtain ⟨y0, y1, y2, -⟩ := hH.out; have m0 : w11.cell? ⟨w10.heap.size, 0, none⟩ = some (.int .i64 a) := (blk_cell hM 0).trans rfl; have m1 : w11.cell? ⟨w10.heap.size, 1, none⟩ = some (.int .i64 b) := (blk_cell hM 1).trans rfl; have m2 : w11.cell? ⟨w10.heap.size, 2, none⟩ = some (.int .i64 c) := (blk_cell hM 2).trans rfl; clear hM) | (go_at_call 15; refine (awake_walk _).mono ?_; rintro e w12 ⟨rfl, hb12⟩; replace hb12 := Aside0.mk hb12))
  go_ret
  exact ⟨rfl, hH.out.2.2.2.2.1.trans (hb12.out.mono hH.out.2.2.2.2.2.1)⟩

theorem ktexts_walk (a b c : Int) (w : World) (hE : Env w) :
    Calls Tryd.prog 8 #[.agg #[.int .i64 a, .int .i64 b, .int .i64 c]] w fun e w' => e = .returned (.bool true) ∧ Below w.heap.size w w' := by
  cases h : rightR 0 a b c with
  | false => exact ktexts_no a b c h w hE
  | true => exact ktexts_yes a b c h w hE
end Go.Proofs.YtfgnpplnjgjjkaaDoor.T
