/- The walk of the law TripleTexts. -/
import Derived.Test.YtfgnpplnjgjjkaaDoorTDigits
import Derived.Test.YtfgnpplnjgjjkaaDoorTOrder
namespace Go.Proofs.YtfgnpplnjgjjkaaDoor.T
open Go.RowKit Go.Lib Go.Proofs.YtfgnpplnjgjjkaaDoorW.PrintWords Go.Proofs.YtfgnpplnjgjjkaaDoor.K

attribute [local go_sem high] eqB_run build23 build23z

theorem eqB_same (a b c : Int) : eqB a b c a b c = true := by simp [eqB]

set_option maxHeartbeats 2000000 in
set_option maxRecDepth 100000 in
theorem texts_no (a b c : Int) (hR : rightR 1 a b c = false) (w : World) (hE : Env w) :
    Calls Tryd.prog 6 #[.agg #[.int .i64 a, .int .i64 b, .int .i64 c]] w fun e w' => e = .returned (.bool true) ∧ Below w.heap.size w w' := by
  have HT := Aside0.mk (fun w => text_no a b c hR w)
  have HR := Aside0.mk (fun w => right02_walk a b c w)
  have HR2 := Aside0.mk (fun w => triRight_walk a b c w)
  rw [hR] at HR HR2
  have hT0 : TC w w.heap.size a b c (w.alloc (.cells #[.int .i64 a, .int .i64 b, .int .i64 c] 23)) :=
    TB.full ⟨blk_new w _, (Below.refl _ _).alloc (Nat.le_refl _) _, by rw [World.size_alloc]; omega, hE.below ((Below.refl _ _).alloc (Nat.le_refl _) _)⟩
  obtain ⟨qb, hqb⟩ : ∃ q, w.heap.size = q := ⟨_, rfl⟩
  replace hT0 := Aside0.mk (show TC w qb a b c _ from hqb ▸ hT0)
  replace hqb := Aside0.mk hqb
  clear hE hR
  go_enter Tryd.func6, Tryd.ntmps6
  go_upto_region 1 with fail
  rw [hqb.out] at ⊢
  generalize w.alloc (.cells #[.int .i64 a, .int .i64 b, .int .i64 c] 23) = W0 at hT0 ⊢
  obtain ⟨x0, x1, x2, -⟩ := hT0.out
  go_wp2_with (first | (go_at_call 23; refine (HT.out _).mono ?_; rintro e w1 ⟨rfl, hb⟩; have hT1 := Aside0.mk (hT0.out.keep hb); clear x0 x1 x2 hb; obtain ⟨x0, x1, x2, -⟩ := hT1.out) | (go_at_call 13; refine (HR.out _).mono ?_; rintro e w2 ⟨rfl, hb⟩; have hT2 := Aside0.mk (hT1.out.keep hb); clear x0 x1 x2 hb; obtain ⟨x0, x1, x2, -⟩ := hT2.out) | (go_at_call 24; refine (HR2.out _).mono ?_; rintro e w3 ⟨rfl, hb⟩; have hT3 := Aside0.mk (hT2.out.keep hb); clear x0 x1 x2 hb) | (go_at_call 25; refine (awake02_walk _ hT3.out.2.2.2.2.2.2).mono ?_; rintro e w9 ⟨rfl, hb9⟩; replace hb9 := Aside0.mk hb9))
  go_ret
  exact ⟨rfl, hT3.out.2.2.2.2.1.trans (hb9.out.mono hT3.out.2.2.2.2.2.1)⟩

set_option maxHeartbeats 4000000 in
set_option maxRecDepth 100000 in
theorem texts_yes (a b c : Int) (hR : rightR 1 a b c = true) (w : World) (hE : Env w) :
    Calls Tryd.prog 6 #[.agg #[.int .i64 a, .int .i64 b, .int .i64 c]] w fun e w' => e = .returned (.bool true) ∧ Below w.heap.size w w' := by
  have hpa := right_parts hR
  have HT := Aside0.mk (fun w h => text_ok a b c hR w h)
  have HP := Aside0.mk (fun w h => parse_yes a b c hR w h)
  have HR := Aside0.mk (fun w => right02_walk a b c w)
  have HR2 := Aside0.mk (fun w => triRight_walk a b c w)
  rw [hR] at HR HR2
  have ca := Aside0.mk (fun w => digits_any a (by omega) (by omega) w)
  have cb := Aside0.mk (fun w => digits_any b (by omega) (by omega) w)
  have cc := Aside0.mk (fun w => digits_any c (by omega) (by omega) w)
  have ha := dd_len (n := a.toNat) (by omega)
  have hb := dd_len (n := b.toNat) (by omega)
  have hc := dd_len (n := c.toNat) (by omega)
  have e3 := text3_app a.toNat b.toNat c.toNat
  rw [← str_size] at ha hb hc
  generalize str (text3 a.toNat b.toNat c.toNat) = S at e3 HT HP
  generalize str (decDigits a.toNat) = sa at ca ha e3
  generalize str (decDigits b.toNat) = sb at cb hb e3
  generalize str (decDigits c.toNat) = sc at cc hc e3
  replace e3 := Aside0.mk e3
  have f1 : ¬ 9223372036854775807 < sa.size + 1 := by omega
  have f2 : ¬ 9223372036854775807 < sa.size + 1 + sb.size := by omega
  have f3 : ¬ 9223372036854775807 < sa.size + 1 + sb.size + 1 := by omega
  have f4 : ¬ 9223372036854775807 < sa.size + 1 + sb.size + 1 + sc.size := by omega
  have hT0 : TC w w.heap.size a b c (w.alloc (.cells #[.int .i64 a, .int .i64 b, .int .i64 c] 23)) :=
    TB.full ⟨blk_new w _, (Below.refl _ _).alloc (Nat.le_refl _) _, by rw [World.size_alloc]; omega, hE.below ((Below.refl _ _).alloc (Nat.le_refl _) _)⟩
  obtain ⟨qb, hqb⟩ : ∃ q, w.heap.size = q := ⟨_, rfl⟩
  replace hT0 := Aside0.mk (show TC w qb a b c _ from hqb ▸ hT0)
  replace hqb := Aside0.mk hqb
  have hee := eqB_same a b c
  clear ha hb hc hE hR hpa
  go_enter Tryd.func6, Tryd.ntmps6
  go_upto_region 1 with fail
  rw [hqb.out] at ⊢
  generalize w.alloc (.cells #[.int .i64 a, .int .i64 b, .int .i64 c] 23) = W0 at hT0 ⊢
  obtain ⟨x0, x1, x2, -⟩ := hT0.out
  go_upto_region 4 with (first | (go_at_call 23; refine (HT.out _ hT0.out.2.2.2.2.2.2).mono ?_; rintro e w1 ⟨rfl, hb⟩; have hT1 := Aside0.mk (hT0.out.keep hb); clear x0 x1 x2 hb; obtain ⟨x0, x1, x2, -⟩ := hT1.out) | (go_at_call 13; refine (HR.out _).mono ?_; rintro e w2 ⟨rfl, hb⟩; have hT2 := Aside0.mk (hT1.out.keep hb); clear x0 x1 x2 hb))
  have hT : TC w qb a b c w2.drew := hT2.out.keep (Below.refl _ _).drew
  clear hT0 hT1 hT2
  go_region_held3 (fun W => W.cell? ⟨qb, 0, none⟩ = some (.int .i64 a) ∧ W.cell? ⟨qb, 1, none⟩ = some (.int .i64 b) ∧ W.cell? ⟨qb, 2, none⟩ = some (.int .i64 c) ∧ TB w qb a b c W) (assumption) (first | (go_at_call 26; (with_reducible show Calls Tryd.prog 26 #[.int .i64 a] _ _); refine (ca.out _).mono ?_; rintro e w9 ⟨rfl, hb9⟩; have hT9 := TC.keep (by assumption : TC w qb a b c _) hb9; clear hb9) | (go_at_call 26; (with_reducible show Calls Tryd.prog 26 #[.int .i64 b] _ _); refine (cb.out _).mono ?_; rintro e w9 ⟨rfl, hb9⟩; have hT9 := TC.keep (by assumption : TC w qb a b c _) hb9; clear hb9) | (go_at_call 26; (with_reducible show Calls Tryd.prog 26 #[.int .i64 c] _ _); refine (cc.out _).mono ?_; rintro e w9 ⟨rfl, hb9⟩; have hT9 := TC.keep (by assumption : TC w qb a b c _) hb9; clear hb9))
  all_goals
    have hF := (‹TC w qb a b c _›)
    rw [e3.out]
    replace hF := Aside0.mk hF
    go_wp2_with (first | (go_at_call 27; refine (HP.out _ hF.out.2.2.2.2.2.2).mono ?_; rintro e w10 ⟨rfl, hb⟩; have hG := hF.out.keep (hb.alloc hb.size (.cells #[.int .i64 a, .int .i64 b, .int .i64 c] 23)); have hN := blk_new w10 (.cells #[.int .i64 a, .int .i64 b, .int .i64 c] 23); replace hG := Aside0.mk hG; obtain ⟨y0, y1, y2, -⟩ := hG.out; replace hN := Aside0.mk hN; clear hb) | (go_at_call 24; refine (HR2.out _).mono ?_; rintro e w11 ⟨rfl, hb⟩; have hH := hG.out.keep hb; have hM := blk_below hN.out hb; clear y0 y1 y2 hb; replace hH := Aside0.mk hH; obtain ⟨y0, y1, y2, -⟩ := hH.out; have m0 : w11.cell? ⟨w10.heap.size, 0, none⟩ = some (.int .i64 a) := (blk_cell hM 0).trans rfl; have m1 : w11.cell? ⟨w10.heap.size, 1, none⟩ = some (.int .i64 b) := (blk_cell hM 1).trans rfl; have m2 : w11.cell? ⟨w10.heap.size, 2, none⟩ = some (.int .i64 c) := (blk_cell hM 2).trans rfl; clear hM) | (go_at_call 25; refine (awake02_walk _ hH.out.2.2.2.2.2.2).mono ?_; rintro e w12 ⟨rfl, hb12⟩; replace hb12 := Aside0.mk hb12))
    go_ret
    exact ⟨rfl, hH.out.2.2.2.2.1.trans (hb12.out.mono hH.out.2.2.2.2.2.1)⟩

theorem texts_walk (a b c : Int) (w : World) (hE : Env w) :
    Calls Tryd.prog 6 #[.agg #[.int .i64 a, .int .i64 b, .int .i64 c]] w fun e w' => e = .returned (.bool true) ∧ Below w.heap.size w w' := by
  cases h : rightR 1 a b c with
  | false => exact texts_no a b c h w hE
  | true => exact texts_yes a b c h w hE
end Go.Proofs.YtfgnpplnjgjjkaaDoor.T
