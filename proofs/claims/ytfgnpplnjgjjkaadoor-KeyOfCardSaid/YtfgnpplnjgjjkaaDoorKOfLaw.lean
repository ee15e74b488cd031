/- The walk of the law KeyOf. -/
import Derived.Test.YtfgnpplnjgjjkaaDoorKOf
import Derived.Deep.QuietTactic
import Derived.BigQuiet
namespace Go.Proofs.YtfgnpplnjgjjkaaDoor.K
open Go.RowKit Go.Proofs.YtfgnpplnjgjjkaaDoorW.PrintWords

attribute [local go_sem high] ixT0 ixT1 ixT2
def fineR (v0 v1 v2 : Bool) (n0 n1 n2 : Int) : Bool := termR (bi v0) n0 && (termR (bi v1) n1 && termR (bi v2) n2)
set_option maxHeartbeats 4000000 in
set_option maxRecDepth 100000 in
theorem fine_walk (v0 v1 v2 : Bool) (n0 n1 n2 : Int) (w : World) : Calls Tryd.prog 21 #[.agg #[.bool v0, .int .i64 n0, .bool v1, .int .i64 n1, .bool v2, .int .i64 n2]] w fun e w' => e = .returned (.bool (fineR v0 v1 v2 n0 n1 n2)) ∧ Below w.heap.size w w' := by
  have HR := Aside0.mk (fun w => ref_walk v0 v1 v2 n0 n1 n2 w)
  have H0 := Aside0.mk (fun w => termRight_walk (bi v0) n0 w)
  have H1 := Aside0.mk (fun w => termRight_walk (bi v1) n1 w)
  have H2 := Aside0.mk (fun w => termRight_walk (bi v2) n2 w)
  unfold fineR
  generalize termR (bi v0) n0 = b0 at H0 ⊢
  generalize termR (bi v1) n1 = b1 at H1 ⊢
  generalize termR (bi v2) n2 = b2 at H2 ⊢
  generalize bi v0 = u0 at HR H0
  generalize bi v1 = u1 at HR H1
  generalize bi v2 = u2 at HR H2
  go_enter Tryd.func21, Tryd.ntmps21
  go_upto_region 2 with (go_at_call 38; refine (HR.out _).mono ?_; rintro e w1 ⟨rfl, hb⟩; have hB1 := Aside0.mk ((((Below.refl w.heap.size w).alloc (Nat.le_refl _) (.cells #[.bool v0, .int .i64 n0, .bool v1, .int .i64 n1, .bool v2, .int .i64 n2] 34)).trans (hb.mono (by rw [World.size_alloc]; omega)))); clear hb)
  have hq := blk_new w1 (.cells #[.int .i64 u0, .int .i64 n0, .int .i64 u1, .int .i64 n1, .int .i64 u2, .int .i64 n2] 57)
  have hB := Aside0.mk (hB1.out.alloc hB1.out.size (.cells #[.int .i64 u0, .int .i64 n0, .int .i64 u1, .int .i64 n1, .int .i64 u2, .int .i64 n2] 57))
  have hS := Aside0.mk (Nat.le_trans hB1.out.size (show w1.heap.size ≤ (w1.alloc (.cells #[.int .i64 u0, .int .i64 n0, .int .i64 u1, .int .i64 n1, .int .i64 u2, .int .i64 n2] 57)).heap.size by rw [World.size_alloc]; omega))
  generalize w1.alloc (.cells #[.int .i64 u0, .int .i64 n0, .int .i64 u1, .int .i64 n1, .int .i64 u2, .int .i64 n2] 57) = W at hq hB hS ⊢
  generalize w1.heap.size = nb at hq ⊢
  have x0 : W.cell? ⟨nb, 0, none⟩ = some (.int .i64 u0) := (blk_cell hq 0).trans rfl
  have x1 : W.cell? ⟨nb, 1, none⟩ = some (.int .i64 n0) := (blk_cell hq 1).trans rfl
  have x2 : W.cell? ⟨nb, 2, none⟩ = some (.int .i64 u1) := (blk_cell hq 2).trans rfl
  have x3 : W.cell? ⟨nb, 3, none⟩ = some (.int .i64 n1) := (blk_cell hq 3).trans rfl
  have x4 : W.cell? ⟨nb, 4, none⟩ = some (.int .i64 u2) := (blk_cell hq 4).trans rfl
  have x5 : W.cell? ⟨nb, 5, none⟩ = some (.int .i64 n2) := (blk_cell hq 5).trans rfl
  replace hq := Aside0.mk hq
  cases b0
  · go_wp2_with (go_at_call 39; (with_reducible show Calls Tryd.prog 39 #[.agg #[.int .i64 u0, _]] _ _); refine (H0.out _).mono ?_; rintro e wa ⟨rfl, hb⟩; have hB0 := Aside0.mk (hB.out.trans (hb.mono hS.out)); have hS0 := Aside0.mk (Nat.le_trans hS.out hb.size); have hq0 := blk_below hq.out hb; clear x0 x1 x2 x3 x4 x5 hb; have x0 : wa.cell? ⟨nb, 0, none⟩ = some (.int .i64 u0) := (blk_cell hq0 0).trans rfl; have x1 : wa.cell? ⟨nb, 1, none⟩ = some (.int .i64 n0) := (blk_cell hq0 1).trans rfl; have x2 : wa.cell? ⟨nb, 2, none⟩ = some (.int .i64 u1) := (blk_cell hq0 2).trans rfl; have x3 : wa.cell? ⟨nb, 3, none⟩ = some (.int .i64 n1) := (blk_cell hq0 3).trans rfl; have x4 : wa.cell? ⟨nb, 4, none⟩ = some (.int .i64 u2) := (blk_cell hq0 4).trans rfl; have x5 : wa.cell? ⟨nb, 5, none⟩ = some (.int .i64 n2) := (blk_cell hq0 5).trans rfl; replace hq0 := Aside0.mk hq0)
    go_ret
    exact ⟨rfl, hB0.out⟩
  · cases b1
    · go_wp2_with (first | (go_at_call 39; (with_reducible show Calls Tryd.prog 39 #[.agg #[.int .i64 u0, _]] _ _); refine (H0.out _).mono ?_; rintro e wa ⟨rfl, hb⟩; have hB0 := Aside0.mk (hB.out.trans (hb.mono hS.out)); have hS0 := Aside0.mk (Nat.le_trans hS.out hb.size); have hq0 := blk_below hq.out hb; clear x0 x1 x2 x3 x4 x5 hb; have x0 : wa.cell? ⟨nb, 0, none⟩ = some (.int .i64 u0) := (blk_cell hq0 0).trans rfl; have x1 : wa.cell? ⟨nb, 1, none⟩ = some (.int .i64 n0) := (blk_cell hq0 1).trans rfl; have x2 : wa.cell? ⟨nb, 2, none⟩ = some (.int .i64 u1) := (blk_cell hq0 2).trans rfl; have x3 : wa.cell? ⟨nb, 3, none⟩ = some (.int .i64 n1) := (blk_cell hq0 3).trans rfl; have x4 : wa.cell? ⟨nb, 4, none⟩ = some (.int .i64 u2) := (blk_cell hq0 4).trans rfl; have x5 : wa.cell? ⟨nb, 5, none⟩ = some (.int .i64 n2) := (blk_cell hq0 5).trans rfl; replace hq0 := Aside0.mk hq0) | (go_at_call 39; (with_reducible show Calls Tryd.prog 39 #[.agg #[.int .i64 u1, _]] _ _); refine (H1.out _).mono ?_; rintro e wb ⟨rfl, hb⟩; have hBb := Aside0.mk (hB0.out.trans (hb.mono hS0.out)); have hSb := Aside0.mk (Nat.le_trans hS0.out hb.size); have hqb := blk_below hq0.out hb; clear x0 x1 x2 x3 x4 x5 hb; have x0 : wb.cell? ⟨nb, 0, none⟩ = some (.int .i64 u0) := (blk_cell hqb 0).trans rfl; have x1 : wb.cell? ⟨nb, 1, none⟩ = some (.int .i64 n0) := (blk_cell hqb 1).trans rfl; have x2 : wb.cell? ⟨nb, 2, none⟩ = some (.int .i64 u1) := (blk_cell hqb 2).trans rfl; have x3 : wb.cell? ⟨nb, 3, none⟩ = some (.int .i64 n1) := (blk_cell hqb 3).trans rfl; have x4 : wb.cell? ⟨nb, 4, none⟩ = some (.int .i64 u2) := (blk_cell hqb 4).trans rfl; have x5 : wb.cell? ⟨nb, 5, none⟩ = some (.int .i64 n2) := (blk_cell hqb 5).trans rfl; replace hqb := Aside0.mk hqb))
      go_ret
      exact ⟨rfl, hBb.out⟩
    · go_wp2_with (first | (go_at_call 39; (with_reducible show Calls Tryd.prog 39 #[.agg #[.int .i64 u0, _]] _ _); refine (H0.out _).mono ?_; rintro e wa ⟨rfl, hb⟩; have hB0 := Aside0.mk (hB.out.trans (hb.mono hS.out)); have hS0 := Aside0.mk (Nat.le_trans hS.out hb.size); have hq0 := blk_below hq.out hb; clear x0 x1 x2 x3 x4 x5 hb; have x0 : wa.cell? ⟨nb, 0, none⟩ = some (.int .i64 u0) := (blk_cell hq0 0).trans rfl; have x1 : wa.cell? ⟨nb, 1, none⟩ = some (.int .i64 n0) := (blk_cell hq0 1).trans rfl; have x2 : wa.cell? ⟨nb, 2, none⟩ = some (.int .i64 u1) := (blk_cell hq0 2).trans rfl; have x3 : wa.cell? ⟨nb, 3, none⟩ = some (.int .i64 n1) := (blk_cell hq0 3).trans rfl; have x4 : wa.cell? ⟨nb, 4, none⟩ = some (.int .i64 u2) := (blk_cell hq0 4).trans rfl; have x5 : wa.cell? ⟨nb, 5, none⟩ = some (.int .i64 n2) := (blk_cell hq0 5).trans rfl; replace hq0 := Aside0.mk hq0) | (go_at_call 39; (with_reducible show Calls Tryd.prog 39 #[.agg #[.int .i64 u1, _]] _ _); refine (H1.out _).mono ?_; rintro e wb ⟨rfl, hb⟩; have hBb := Aside0.mk (hB0.out.trans (hb.mono hS0.out)); have hSb := Aside0.mk (Nat.le_trans hS0.out hb.size); have hqb := blk_below hq0.out hb; clear x0 x1 x2 x3 x4 x5 hb; have x0 : wb.cell? ⟨nb, 0, none⟩ = some (.int .i64 u0) := (blk_cell hqb 0).trans rfl; have x1 : wb.cell? ⟨nb, 1, none⟩ = some (.int .i64 n0) := (blk_cell hqb 1).trans rfl; have x2 : wb.cell? ⟨nb, 2, none⟩ = some (.int .i64 u1) := (blk_cell hqb 2).trans rfl; have x3 : wb.cell? ⟨nb, 3, none⟩ = some (.int .i64 n1) := (blk_cell hqb 3).trans rfl; have x4 : wb.cell? ⟨nb, 4, none⟩ = some (.int .i64 u2) := (blk_cell hqb 4).trans rfl; have x5 : wb.cell? ⟨nb, 5, none⟩ = some (.int .i64 n2) := (blk_cell hqb 5).trans rfl; replace hqb := Aside0.mk hqb) | (go_at_call 39; (with_reducible show Calls Tryd.prog 39 #[.agg #[.int .i64 u2, _]] _ _); refine (H2.out _).mono ?_; rintro e wc ⟨rfl, hb⟩; have hBc := Aside0.mk (hBb.out.trans (hb.mono hSb.out)); have hS2 := Aside0.mk (Nat.le_trans hSb.out hb.size); have hq2 := blk_below hqb.out hb; clear x0 x1 x2 x3 x4 x5 hb; have x0 : wc.cell? ⟨nb, 0, none⟩ = some (.int .i64 u0) := (blk_cell hq2 0).trans rfl; have x1 : wc.cell? ⟨nb, 1, none⟩ = some (.int .i64 n0) := (blk_cell hq2 1).trans rfl; have x2 : wc.cell? ⟨nb, 2, none⟩ = some (.int .i64 u1) := (blk_cell hq2 2).trans rfl; have x3 : wc.cell? ⟨nb, 3, none⟩ = some (.int .i64 n1) := (blk_cell hq2 3).trans rfl; have x4 : wc.cell? ⟨nb, 4, none⟩ = some (.int .i64 u2) := (blk_cell hq2 4).trans rfl; have x5 : wc.cell? ⟨nb, 5, none⟩ = some (.int .i64 n2) := (blk_cell hq2 5).trans rfl; replace hq2 := Aside0.mk hq2))
      go_ret
      exact ⟨by simp, hBc.out⟩

def itR (v : Bool) (n t : Int) : Bool := v || n == t
theorem ok_it {v : Bool} {n t : Int} (h : termR (bi v) n = true) : ok1 (kt v n) t = itR v n t := by
  have hn : 1 ≤ n := by
    unfold termR at h
    split at h <;> simp at h <;> omega
  unfold ok1 kt itR
  cases v
  · rw [Bool.eq_iff_iff]
    simp
    omega
  · simp
theorem has_of (v0 v1 v2 : Bool) (n0 n1 n2 : Int) (t0 t1 t2 : Int) (h : fineR v0 v1 v2 n0 n1 n2 = true) : hasR t0 t1 t2 (kt v0 n0) (kt v1 n1) (kt v2 n2) = (((true && itR v0 n0 t0) && itR v1 n1 t1) && itR v2 n2 t2) := by
  unfold fineR at h
  simp only [Bool.and_eq_true] at h
  unfold hasR
  rw [ok_it h.1, ok_it h.2.1, ok_it h.2.2]
  cases itR v0 n0 t0 <;> cases itR v1 n1 t1 <;> cases itR v2 n2 t2 <;> rfl


def LB (w : World) (qa : Nat) (v0 v1 v2 : Bool) (n0 n1 n2 t0 t1 t2 : Int) (W : World) : Prop := W.heap[qa]? = some (.cells #[.bool v0, .int .i64 n0, .bool v1, .int .i64 n1, .bool v2, .int .i64 n2] 34 (0, 0)) ∧ W.heap[qa + 1]? = some (.cells #[.int .i64 t0, .int .i64 t1, .int .i64 t2] 23 (0, 0)) ∧ Below w.heap.size w W ∧ w.heap.size ≤ W.heap.size
theorem LB.keep {w W W' : World} {qa : Nat} {v0 v1 v2 : Bool} {n0 n1 n2 t0 t1 t2 : Int} (h : LB w qa v0 v1 v2 n0 n1 n2 t0 t1 t2 W) (hb : Below W.heap.size W W') : LB w qa v0 v1 v2 n0 n1 n2 t0 t1 t2 W' :=
  ⟨blk_below h.1 hb, blk_below h.2.1 hb, h.2.2.1.trans (hb.mono h.2.2.2), Nat.le_trans h.2.2.2 hb.size⟩
theorem below_dN (W : World) (n : Nat) : Below W.heap.size W (W.drewN n) := ⟨rfl, rfl, rfl, Nat.le_refl _, fun _ _ => rfl⟩

set_option maxHeartbeats 8000000 in
set_option maxRecDepth 100000 in
theorem of_law (v0 v1 v2 : Bool) (n0 n1 n2 t0 t1 t2 : Int) (w : World) : Calls Tryd.prog 5 #[.agg #[.bool v0, .int .i64 n0, .bool v1, .int .i64 n1, .bool v2, .int .i64 n2], .agg #[.int .i64 t0, .int .i64 t1, .int .i64 t2]] w fun e w' => e = .returned (.bool true) ∧ Below w.heap.size w w' := by
  have HF := Aside0.mk (fun w => fine_walk v0 v1 v2 n0 n1 n2 w)
  have HR := Aside0.mk (fun w => right02_walk t0 t1 t2 w)
  have HO := Aside0.mk (fun w => of_walk v0 v1 v2 n0 n1 n2 w)
  have HH := Aside0.mk (fun w => has_walk t0 t1 t2 (kt v0 n0) (kt v1 n1) (kt v2 n2) w)
  have heq := Aside0.mk (fun h => has_of v0 v1 v2 n0 n1 n2 t0 t1 t2 h)
  generalize hasR t0 t1 t2 (kt v0 n0) (kt v1 n1) (kt v2 n2) = hr at HH heq
  generalize fineR v0 v1 v2 n0 n1 n2 = fr at HF heq
  generalize rightR 1 t0 t1 t2 = rr at HR
  have hI : LB w w.heap.size v0 v1 v2 n0 n1 n2 t0 t1 t2 ((w.alloc (.cells #[.bool v0, .int .i64 n0, .bool v1, .int .i64 n1, .bool v2, .int .i64 n2] 34)).alloc (.cells #[.int .i64 t0, .int .i64 t1, .int .i64 t2] 23)) := by
    have hB := below_two w (.cells #[.bool v0, .int .i64 n0, .bool v1, .int .i64 n1, .bool v2, .int .i64 n2] 34) (.cells #[.int .i64 t0, .int .i64 t1, .int .i64 t2] 23)
    refine ⟨blk_alloc (blk_new w _) _, ?_, hB, hB.size⟩
    have := blk_new (w.alloc (.cells #[.bool v0, .int .i64 n0, .bool v1, .int .i64 n1, .bool v2, .int .i64 n2] 34)) (.cells #[.int .i64 t0, .int .i64 t1, .int .i64 t2] 23)
    rw [World.size_alloc] at this
    exact this
  obtain ⟨qa, hqa⟩ : ∃ q, w.heap.size = q := ⟨_, rfl⟩
  replace hI := Aside0.mk (show LB w qa v0 v1 v2 n0 n1 n2 t0 t1 t2 _ from hqa ▸ hI)
  replace hqa := Aside0.mk hqa
  go_enter Tryd.func5, Tryd.ntmps5
  go_upto_region 1 with fail
  rw [hqa.out] at ⊢
  generalize ((w.alloc (.cells #[.bool v0, .int .i64 n0, .bool v1, .int .i64 n1, .bool v2, .int .i64 n2] 34)).alloc (.cells #[.int .i64 t0, .int .i64 t1, .int .i64 t2] 23)) = W0 at hI ⊢
  have a0 : W0.cell? ⟨qa, 0, none⟩ = some (.bool v0) := (blk_cell hI.out.1 0).trans rfl
  have a1 : W0.cell? ⟨qa, 1, none⟩ = some (.int .i64 n0) := (blk_cell hI.out.1 1).trans rfl
  have a2 : W0.cell? ⟨qa, 2, none⟩ = some (.bool v1) := (blk_cell hI.out.1 2).trans rfl
  have a3 : W0.cell? ⟨qa, 3, none⟩ = some (.int .i64 n1) := (blk_cell hI.out.1 3).trans rfl
  have a4 : W0.cell? ⟨qa, 4, none⟩ = some (.bool v2) := (blk_cell hI.out.1 4).trans rfl
  have a5 : W0.cell? ⟨qa, 5, none⟩ = some (.int .i64 n2) := (blk_cell hI.out.1 5).trans rfl
  have b0 : W0.cell? ⟨qa + 1, 0, none⟩ = some (.int .i64 t0) := (blk_cell hI.out.2.1 0).trans rfl
  have b1 : W0.cell? ⟨qa + 1, 1, none⟩ = some (.int .i64 t1) := (blk_cell hI.out.2.1 1).trans rfl
  have b2 : W0.cell? ⟨qa + 1, 2, none⟩ = some (.int .i64 t2) := (blk_cell hI.out.2.1 2).trans rfl
  cases fr
  · go_wp2_with (first | (go_at_call 21; refine (HF.out _).mono ?_; rintro e w1 ⟨rfl, hb⟩; have hI1 := Aside0.mk (hI.out.keep hb); clear a0 a1 a2 a3 a4 a5 b0 b1 b2 hb; have a0 : w1.cell? ⟨qa, 0, none⟩ = some (.bool v0) := (blk_cell hI1.out.1 0).trans rfl; have a1 : w1.cell? ⟨qa, 1, none⟩ = some (.int .i64 n0) := (blk_cell hI1.out.1 1).trans rfl; have a2 : w1.cell? ⟨qa, 2, none⟩ = some (.bool v1) := (blk_cell hI1.out.1 2).trans rfl; have a3 : w1.cell? ⟨qa, 3, none⟩ = some (.int .i64 n1) := (blk_cell hI1.out.1 3).trans rfl; have a4 : w1.cell? ⟨qa, 4, none⟩ = some (.bool v2) := (blk_cell hI1.out.1 4).trans rfl; have a5 : w1.cell? ⟨qa, 5, none⟩ = some (.int .i64 n2) := (blk_cell hI1.out.1 5).trans rfl; have b0 : w1.cell? ⟨qa + 1, 0, none⟩ = some (.int .i64 t0) := (blk_cell hI1.out.2.1 0).trans rfl; have b1 : w1.cell? ⟨qa + 1, 1, none⟩ = some (.int .i64 t1) := (blk_cell hI1.out.2.1 1).trans rfl; have b2 : w1.cell? ⟨qa + 1, 2, none⟩ = some (.int .i64 t2) := (blk_cell hI1.out.2.1 2).trans rfl) | (go_at_call 15; refine (awake_walk _).mono ?_; rintro e w9 ⟨rfl, hb9⟩; replace hb9 := Aside0.mk hb9))
    go_ret
    exact ⟨rfl, hI1.out.2.2.1.trans (hb9.out.mono hI1.out.2.2.2)⟩
  cases rr
  · go_wp2_with (first | (go_at_call 21; refine (HF.out _).mono ?_; rintro e w1 ⟨rfl, hb⟩; have hI1 := Aside0.mk (hI.out.keep hb); clear a0 a1 a2 a3 a4 a5 b0 b1 b2 hb; have a0 : w1.cell? ⟨qa, 0, none⟩ = some (.bool v0) := (blk_cell hI1.out.1 0).trans rfl; have a1 : w1.cell? ⟨qa, 1, none⟩ = some (.int .i64 n0) := (blk_cell hI1.out.1 1).trans rfl; have a2 : w1.cell? ⟨qa, 2, none⟩ = some (.bool v1) := (blk_cell hI1.out.1 2).trans rfl; have a3 : w1.cell? ⟨qa, 3, none⟩ = some (.int .i64 n1) := (blk_cell hI1.out.1 3).trans rfl; have a4 : w1.cell? ⟨qa, 4, none⟩ = some (.bool v2) := (blk_cell hI1.out.1 4).trans rfl; have a5 : w1.cell? ⟨qa, 5, none⟩ = some (.int .i64 n2) := (blk_cell hI1.out.1 5).trans rfl; have b0 : w1.cell? ⟨qa + 1, 0, none⟩ = some (.int .i64 t0) := (blk_cell hI1.out.2.1 0).trans rfl; have b1 : w1.cell? ⟨qa + 1, 1, none⟩ = some (.int .i64 t1) := (blk_cell hI1.out.2.1 1).trans rfl; have b2 : w1.cell? ⟨qa + 1, 2, none⟩ = some (.int .i64 t2) := (blk_cell hI1.out.2.1 2).trans rfl) | (go_at_call 13; refine (HR.out _).mono ?_; rintro e w2 ⟨rfl, hb⟩; have hI2 := Aside0.mk (hI1.out.keep hb); clear a0 a1 a2 a3 a4 a5 b0 b1 b2 hb; have a0 : w2.cell? ⟨qa, 0, none⟩ = some (.bool v0) := (blk_cell hI2.out.1 0).trans rfl; have a1 : w2.cell? ⟨qa, 1, none⟩ = some (.int .i64 n0) := (blk_cell hI2.out.1 1).trans rfl; have a2 : w2.cell? ⟨qa, 2, none⟩ = some (.bool v1) := (blk_cell hI2.out.1 2).trans rfl; have a3 : w2.cell? ⟨qa, 3, none⟩ = some (.int .i64 n1) := (blk_cell hI2.out.1 3).trans rfl; have a4 : w2.cell? ⟨qa, 4, none⟩ = some (.bool v2) := (blk_cell hI2.out.1 4).trans rfl; have a5 : w2.cell? ⟨qa, 5, none⟩ = some (.int .i64 n2) := (blk_cell hI2.out.1 5).trans rfl; have b0 : w2.cell? ⟨qa + 1, 0, none⟩ = some (.int .i64 t0) := (blk_cell hI2.out.2.1 0).trans rfl; have b1 : w2.cell? ⟨qa + 1, 1, none⟩ = some (.int .i64 t1) := (blk_cell hI2.out.2.1 1).trans rfl; have b2 : w2.cell? ⟨qa + 1, 2, none⟩ = some (.int .i64 t2) := (blk_cell hI2.out.2.1 2).trans rfl) | (go_at_call 15; refine (awake_walk _).mono ?_; rintro e w9 ⟨rfl, hb9⟩; replace hb9 := Aside0.mk hb9))
    go_ret
    exact ⟨rfl, hI2.out.2.2.1.trans (hb9.out.mono hI2.out.2.2.2)⟩
  replace heq := Aside0.mk (heq.out rfl)
  go_upto_region 5 with (first | (go_at_call 21; refine (HF.out _).mono ?_; rintro e w1 ⟨rfl, hb⟩; have hI1 := Aside0.mk (hI.out.keep hb); clear a0 a1 a2 a3 a4 a5 b0 b1 b2 hb; have a0 : w1.cell? ⟨qa, 0, none⟩ = some (.bool v0) := (blk_cell hI1.out.1 0).trans rfl; have a1 : w1.cell? ⟨qa, 1, none⟩ = some (.int .i64 n0) := (blk_cell hI1.out.1 1).trans rfl; have a2 : w1.cell? ⟨qa, 2, none⟩ = some (.bool v1) := (blk_cell hI1.out.1 2).trans rfl; have a3 : w1.cell? ⟨qa, 3, none⟩ = some (.int .i64 n1) := (blk_cell hI1.out.1 3).trans rfl; have a4 : w1.cell? ⟨qa, 4, none⟩ = some (.bool v2) := (blk_cell hI1.out.1 4).trans rfl; have a5 : w1.cell? ⟨qa, 5, none⟩ = some (.int .i64 n2) := (blk_cell hI1.out.1 5).trans rfl; have b0 : w1.cell? ⟨qa + 1, 0, none⟩ = some (.int .i64 t0) := (blk_cell hI1.out.2.1 0).trans rfl; have b1 : w1.cell? ⟨qa + 1, 1, none⟩ = some (.int .i64 t1) := (blk_cell hI1.out.2.1 1).trans rfl; have b2 : w1.cell? ⟨qa + 1, 2, none⟩ = some (.int .i64 t2) := (blk_cell hI1.out.2.1 2).trans rfl) | (go_at_call 13; refine (HR.out _).mono ?_; rintro e w2 ⟨rfl, hb⟩; have hI2 := Aside0.mk (hI1.out.keep hb); clear a0 a1 a2 a3 a4 a5 b0 b1 b2 hb; have a0 : w2.cell? ⟨qa, 0, none⟩ = some (.bool v0) := (blk_cell hI2.out.1 0).trans rfl; have a1 : w2.cell? ⟨qa, 1, none⟩ = some (.int .i64 n0) := (blk_cell hI2.out.1 1).trans rfl; have a2 : w2.cell? ⟨qa, 2, none⟩ = some (.bool v1) := (blk_cell hI2.out.1 2).trans rfl; have a3 : w2.cell? ⟨qa, 3, none⟩ = some (.int .i64 n1) := (blk_cell hI2.out.1 3).trans rfl; have a4 : w2.cell? ⟨qa, 4, none⟩ = some (.bool v2) := (blk_cell hI2.out.1 4).trans rfl; have a5 : w2.cell? ⟨qa, 5, none⟩ = some (.int .i64 n2) := (blk_cell hI2.out.1 5).trans rfl; have b0 : w2.cell? ⟨qa + 1, 0, none⟩ = some (.int .i64 t0) := (blk_cell hI2.out.2.1 0).trans rfl; have b1 : w2.cell? ⟨qa + 1, 1, none⟩ = some (.int .i64 t1) := (blk_cell hI2.out.2.1 1).trans rfl; have b2 : w2.cell? ⟨qa + 1, 2, none⟩ = some (.int .i64 t2) := (blk_cell hI2.out.2.1 2).trans rfl) | (go_at_call 22; refine (HO.out _).mono ?_; rintro e w3 ⟨rfl, hb⟩; have hI3 := Aside0.mk (hI2.out.keep hb); clear a0 a1 a2 a3 a4 a5 b0 b1 b2 hb))
  have hI4 := Aside0.mk (hI3.out.keep ((Below.refl w3.heap.size w3).alloc (Nat.le_refl _) (.cells #[.int .i64 (kt v0 n0), .int .i64 (kt v1 n1), .int .i64 (kt v2 n2)] 23)))
  have hK4 := Aside0.mk (blk_new w3 (.cells #[.int .i64 (kt v0 n0), .int .i64 (kt v1 n1), .int .i64 (kt v2 n2)] 23))
  clear hI hI1 hI2 hI3 HF HR HO
  generalize w3.alloc (.cells #[.int .i64 (kt v0 n0), .int .i64 (kt v1 n1), .int .i64 (kt v2 n2)] 23) = W4 at hI4 hK4 ⊢
  generalize w3.heap.size = kb at hK4 ⊢
  have a0 : W4.cell? ⟨qa, 0, none⟩ = some (.bool v0) := (blk_cell hI4.out.1 0).trans rfl
  have a1 : W4.cell? ⟨qa, 1, none⟩ = some (.int .i64 n0) := (blk_cell hI4.out.1 1).trans rfl
  have a2 : W4.cell? ⟨qa, 2, none⟩ = some (.bool v1) := (blk_cell hI4.out.1 2).trans rfl
  have a3 : W4.cell? ⟨qa, 3, none⟩ = some (.int .i64 n1) := (blk_cell hI4.out.1 3).trans rfl
  have a4 : W4.cell? ⟨qa, 4, none⟩ = some (.bool v2) := (blk_cell hI4.out.1 4).trans rfl
  have a5 : W4.cell? ⟨qa, 5, none⟩ = some (.int .i64 n2) := (blk_cell hI4.out.1 5).trans rfl
  have b0 : W4.cell? ⟨qa + 1, 0, none⟩ = some (.int .i64 t0) := (blk_cell hI4.out.2.1 0).trans rfl
  have b1 : W4.cell? ⟨qa + 1, 1, none⟩ = some (.int .i64 t1) := (blk_cell hI4.out.2.1 1).trans rfl
  have b2 : W4.cell? ⟨qa + 1, 2, none⟩ = some (.int .i64 t2) := (blk_cell hI4.out.2.1 2).trans rfl
  go_wp2_with fail
  go_loopw [6, 21] (fun s i wr => (LB w qa v0 v1 v2 n0 n1 n2 t0 t1 t2 wr ∧ wr.heap[kb]? = some (.cells #[.int .i64 (kt v0 n0), .int .i64 (kt v1 n1), .int .i64 (kt v2 n2)] 23 (0, 0))) ∧ ((i = .int .i64 0 ∧ s = .bool true) ∨ (i = .int .i64 1 ∧ s = .bool (true && itR v0 n0 t0)) ∨ (i = .int .i64 2 ∧ s = .bool ((true && itR v0 n0 t0) && itR v1 n1 t1)) ∨ (i = .int .i64 3 ∧ s = .bool (((true && itR v0 n0 t0) && itR v1 n1 t1) && itR v2 n2 t2)))) (fun _ i _ => 3 - (intOf i).toNat)
  case atStart => exact ⟨⟨hI4.out, hK4.out⟩, .inl ⟨rfl, rfl⟩⟩
  case round =>
    clear a0 a1 a2 a3 a4 a5 b0 b1 b2 hI4 hK4
    obtain ⟨⟨hI, hK⟩, hrel⟩ := hrel
    rcases hrel with ⟨rfl, rfl⟩ | ⟨rfl, rfl⟩ | ⟨rfl, rfl⟩ | ⟨rfl, rfl⟩
    · replace hI := Aside0.mk hI
      replace hK := Aside0.mk hK
      go_upto_region 8 with fail
      have hb := (Below.refl wr.heap.size wr).alloc (Nat.le_refl _) (.cells #[.bool v0, .int .i64 n0] 33)
      have hI2 := Aside0.mk (hI.out.keep hb)
      have hK2 := Aside0.mk (blk_below hK.out hb)
      have hN := Aside0.mk (blk_new wr (.cells #[.bool v0, .int .i64 n0] 33))
      clear hb hI hK
      generalize wr.alloc (.cells #[.bool v0, .int .i64 n0] 33) = W2 at hI2 hK2 hN ⊢
      generalize wr.heap.size = nb at hN ⊢
      have x0 : W2.cell? ⟨nb, 0, none⟩ = some (.bool v0) := (blk_cell hN.out 0).trans rfl
      have x1 : W2.cell? ⟨nb, 1, none⟩ = some (.int .i64 n0) := (blk_cell hN.out 1).trans rfl
      have y0 : W2.cell? ⟨kb, 0, none⟩ = some (.int .i64 (kt v0 n0)) := (blk_cell hK2.out 0).trans rfl
      have y1 : W2.cell? ⟨qa + 1, 0, none⟩ = some (.int .i64 t0) := (blk_cell hI2.out.2.1 0).trans rfl
      have hKK : ∀ n, LB w qa v0 v1 v2 n0 n1 n2 t0 t1 t2 (W2.drewN n) ∧ (W2.drewN n).heap[kb]? = some (.cells #[.int .i64 (kt v0 n0), .int .i64 (kt v1 n1), .int .i64 (kt v2 n2)] 23 (0, 0)) := fun n => ⟨hI2.out.keep (below_dN _ _), hK2.out⟩
      replace hKK := Aside0.mk hKK
      clear hN hI2 hK2
      skip
      rcases (by cases v0 <;> simp : v0 = false ∨ v0 = true) with hv | hv
      · have hkt : kt v0 n0 = n0 := by rw [hv]; rfl
        rw [hkt] at y0
        rw [hv] at x0
        replace hv := Aside0.mk hv
        clear hkt
        skip
        all_goals
          go_quiet (fail)
          go_wp2_with fail
          go_quiet (fail)
          go_wp2_with fail
          go_roundw
          case rel => exact ⟨hKK.out _, .inr (.inl ⟨rfl, by simp [itR, hv.out]⟩)⟩
          case measure => simp [intOf]
      · have hkt : kt v0 n0 = 0 := by rw [hv]; rfl
        rw [hkt] at y0
        rw [hv] at x0
        replace hv := Aside0.mk hv
        clear hkt
        skip
        all_goals
          go_quiet (fail)
          go_wp2_with fail
          go_quiet (fail)
          go_wp2_with fail
          go_roundw
          case rel => exact ⟨hKK.out _, .inr (.inl ⟨rfl, by simp [itR, hv.out]⟩)⟩
          case measure => simp [intOf]
    · replace hI := Aside0.mk hI
      replace hK := Aside0.mk hK
      go_upto_region 8 with fail
      have hb := (Below.refl wr.heap.size wr).alloc (Nat.le_refl _) (.cells #[.bool v1, .int .i64 n1] 33)
      have hI2 := Aside0.mk (hI.out.keep hb)
      have hK2 := Aside0.mk (blk_below hK.out hb)
      have hN := Aside0.mk (blk_new wr (.cells #[.bool v1, .int .i64 n1] 33))
      clear hb hI hK
      generalize wr.alloc (.cells #[.bool v1, .int .i64 n1] 33) = W2 at hI2 hK2 hN ⊢
      generalize wr.heap.size = nb at hN ⊢
      have x0 : W2.cell? ⟨nb, 0, none⟩ = some (.bool v1) := (blk_cell hN.out 0).trans rfl
      have x1 : W2.cell? ⟨nb, 1, none⟩ = some (.int .i64 n1) := (blk_cell hN.out 1).trans rfl
      have y0 : W2.cell? ⟨kb, 1, none⟩ = some (.int .i64 (kt v1 n1)) := (blk_cell hK2.out 1).trans rfl
      have y1 : W2.cell? ⟨qa + 1, 1, none⟩ = some (.int .i64 t1) := (blk_cell hI2.out.2.1 1).trans rfl
      have hKK : ∀ n, LB w qa v0 v1 v2 n0 n1 n2 t0 t1 t2 (W2.drewN n) ∧ (W2.drewN n).heap[kb]? = some (.cells #[.int .i64 (kt v0 n0), .int .i64 (kt v1 n1), .int .i64 (kt v2 n2)] 23 (0, 0)) := fun n => ⟨hI2.out.keep (below_dN _ _), hK2.out⟩
      replace hKK := Aside0.mk hKK
      clear hN hI2 hK2
      generalize hS : (true && itR v0 n0 t0) = s
      replace hS := Aside0.mk hS
      rcases (by cases v1 <;> simp : v1 = false ∨ v1 = true) with hv | hv
      · have hkt : kt v1 n1 = n1 := by rw [hv]; rfl
        rw [hkt] at y0
        rw [hv] at x0
        replace hv := Aside0.mk hv
        clear hkt
        cases s
        all_goals
          go_quiet (fail)
          go_wp2_with fail
          go_quiet (fail)
          go_wp2_with fail
          go_roundw
          case rel => exact ⟨hKK.out _, .inr (.inr (.inl ⟨rfl, by rw [hS.out]; simp [itR, hv.out]⟩))⟩
          case measure => simp [intOf]
      · have hkt : kt v1 n1 = 0 := by rw [hv]; rfl
        rw [hkt] at y0
        rw [hv] at x0
        replace hv := Aside0.mk hv
        clear hkt
        cases s
        all_goals
          go_quiet (fail)
          go_wp2_with fail
          go_quiet (fail)
          go_wp2_with fail
          go_roundw
          case rel => exact ⟨hKK.out _, .inr (.inr (.inl ⟨rfl, by rw [hS.out]; simp [itR, hv.out]⟩))⟩
          case measure => simp [intOf]
    · replace hI := Aside0.mk hI
      replace hK := Aside0.mk hK
      go_upto_region 8 with fail
      have hb := (Below.refl wr.heap.size wr).alloc (Nat.le_refl _) (.cells #[.bool v2, .int .i64 n2] 33)
      have hI2 := Aside0.mk (hI.out.keep hb)
      have hK2 := Aside0.mk (blk_below hK.out hb)
      have hN := Aside0.mk (blk_new wr (.cells #[.bool v2, .int .i64 n2] 33))
      clear hb hI hK
      generalize wr.alloc (.cells #[.bool v2, .int .i64 n2] 33) = W2 at hI2 hK2 hN ⊢
      generalize wr.heap.size = nb at hN ⊢
      have x0 : W2.cell? ⟨nb, 0, none⟩ = some (.bool v2) := (blk_cell hN.out 0).trans rfl
      have x1 : W2.cell? ⟨nb, 1, none⟩ = some (.int .i64 n2) := (blk_cell hN.out 1).trans rfl
      have y0 : W2.cell? ⟨kb, 2, none⟩ = some (.int .i64 (kt v2 n2)) := (blk_cell hK2.out 2).trans rfl
      have y1 : W2.cell? ⟨qa + 1, 2, none⟩ = some (.int .i64 t2) := (blk_cell hI2.out.2.1 2).trans rfl
      have hKK : ∀ n, LB w qa v0 v1 v2 n0 n1 n2 t0 t1 t2 (W2.drewN n) ∧ (W2.drewN n).heap[kb]? = some (.cells #[.int .i64 (kt v0 n0), .int .i64 (kt v1 n1), .int .i64 (kt v2 n2)] 23 (0, 0)) := fun n => ⟨hI2.out.keep (below_dN _ _), hK2.out⟩
      replace hKK := Aside0.mk hKK
      clear hN hI2 hK2
      generalize hS : ((true && itR v0 n0 t0) && itR v1 n1 t1) = s
      replace hS := Aside0.mk hS
      rcases (by cases v2 <;> simp : v2 = false ∨ v2 = true) with hv | hv
      · have hkt : kt v2 n2 = n2 := by rw [hv]; rfl
        rw [hkt] at y0
        rw [hv] at x0
        replace hv := Aside0.mk hv
        clear hkt
        cases s
        all_goals
          go_quiet (fail)
          go_wp2_with fail
          go_quiet (fail)
          go_wp2_with fail
          go_roundw
          case rel => exact ⟨hKK.out _, .inr (.inr (.inr ⟨rfl, by rw [hS.out]; simp [itR, hv.out]⟩))⟩
          case measure => simp [intOf]
      · have hkt : kt v2 n2 = 0 := by rw [hv]; rfl
        rw [hkt] at y0
        rw [hv] at x0
        replace hv := Aside0.mk hv
        clear hkt
        cases s
        all_goals
          go_quiet (fail)
          go_wp2_with fail
          go_quiet (fail)
          go_wp2_with fail
          go_roundw
          case rel => exact ⟨hKK.out _, .inr (.inr (.inr ⟨rfl, by rw [hS.out]; simp [itR, hv.out]⟩))⟩
          case measure => simp [intOf]
    · rw [← heq.out]
      have a0 : wr.cell? ⟨qa, 0, none⟩ = some (.bool v0) := (blk_cell (Aside0.mk hI).out.1 0).trans rfl
      have a1 : wr.cell? ⟨qa, 1, none⟩ = some (.int .i64 n0) := (blk_cell (Aside0.mk hI).out.1 1).trans rfl
      have a2 : wr.cell? ⟨qa, 2, none⟩ = some (.bool v1) := (blk_cell (Aside0.mk hI).out.1 2).trans rfl
      have a3 : wr.cell? ⟨qa, 3, none⟩ = some (.int .i64 n1) := (blk_cell (Aside0.mk hI).out.1 3).trans rfl
      have a4 : wr.cell? ⟨qa, 4, none⟩ = some (.bool v2) := (blk_cell (Aside0.mk hI).out.1 4).trans rfl
      have a5 : wr.cell? ⟨qa, 5, none⟩ = some (.int .i64 n2) := (blk_cell (Aside0.mk hI).out.1 5).trans rfl
      have b0 : wr.cell? ⟨qa + 1, 0, none⟩ = some (.int .i64 t0) := (blk_cell (Aside0.mk hI).out.2.1 0).trans rfl
      have b1 : wr.cell? ⟨qa + 1, 1, none⟩ = some (.int .i64 t1) := (blk_cell (Aside0.mk hI).out.2.1 1).trans rfl
      have b2 : wr.cell? ⟨qa + 1, 2, none⟩ = some (.int .i64 t2) := (blk_cell (Aside0.mk hI).out.2.1 2).trans rfl
      have y0 : wr.cell? ⟨kb, 0, none⟩ = some (.int .i64 (kt v0 n0)) := (blk_cell hK 0).trans rfl
      have y1 : wr.cell? ⟨kb, 1, none⟩ = some (.int .i64 (kt v1 n1)) := (blk_cell hK 1).trans rfl
      have y2 : wr.cell? ⟨kb, 2, none⟩ = some (.int .i64 (kt v2 n2)) := (blk_cell hK 2).trans rfl
      replace hI := Aside0.mk hI
      clear hK
      go_wp2_with (first | (go_at_call 16; refine (HH.out _).mono ?_; rintro e w8 ⟨rfl, hb⟩; have hI8 := Aside0.mk (hI.out.keep hb); clear hb) | (go_at_call 15; refine (awake_walk _).mono ?_; rintro e w9 ⟨rfl, hb9⟩; replace hb9 := Aside0.mk hb9))
      go_ret
      exact ⟨rfl, hI8.out.2.2.1.trans (hb9.out.mono hI8.out.2.2.2)⟩
end Go.Proofs.YtfgnpplnjgjjkaaDoor.K
