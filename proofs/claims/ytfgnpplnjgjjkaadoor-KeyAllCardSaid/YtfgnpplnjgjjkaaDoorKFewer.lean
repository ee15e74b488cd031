/- The walk of the law KeyFewer. -/
import Derived.Test.YtfgnpplnjgjjkaaDoorKAwake
namespace Go.Proofs.YtfgnpplnjgjjkaaDoor.K
open Go.RowKit Go.Proofs.YtfgnpplnjgjjkaaDoorW.PrintWords

attribute [local go_sem high] build23z
/-- The two boxes of the law, and what lies below them. -/
def Boxes (w : World) (qb qc : Nat) (t0 t1 t2 k0 k1 k2 : Int) (W : World) : Prop :=
  W.heap[qb]? = some (.cells #[.int .i64 t0, .int .i64 t1, .int .i64 t2] 23 (0, 0)) ∧ W.heap[qc]? = some (.cells #[.int .i64 k0, .int .i64 k1, .int .i64 k2] 23 (0, 0)) ∧ Below w.heap.size w W ∧ w.heap.size ≤ W.heap.size
theorem Boxes.keep {w W W' : World} {qb qc : Nat} {t0 t1 t2 k0 k1 k2 : Int} (h : Boxes w qb qc t0 t1 t2 k0 k1 k2 W) (hb : Below W.heap.size W W') : Boxes w qb qc t0 t1 t2 k0 k1 k2 W' :=
  ⟨blk_below h.1 hb, blk_below h.2.1 hb, h.2.2.1.trans (hb.mono h.2.2.2), Nat.le_trans h.2.2.2 hb.size⟩
theorem Boxes.set {w W : World} {qb qc x : Nat} {t0 t1 t2 k0 k1 k2 : Int} (h : Boxes w qb qc t0 t1 t2 k0 k1 k2 W) (hx : w.heap.size ≤ x) (h1 : qb ≠ x) (h2 : qc ≠ x) (i : Nat) (u : Value) : Boxes w qb qc t0 t1 t2 k0 k1 k2 (W.setCell ⟨x, i, none⟩ u) :=
  ⟨blk_far h.1 h1 u, blk_far h.2.1 h2 u, h.2.2.1.setCell hx u, by rw [show (W.setCell ⟨x, i, none⟩ u).heap.size = W.heap.size by simp [World.setCell]]; exact h.2.2.2⟩

set_option maxHeartbeats 8000000 in
set_option maxRecDepth 100000 in
theorem fewer_walk (t0 t1 t2 k0 k1 k2 : Int) (w : World) : Calls Tryd.prog 3 #[.agg #[.int .i64 t0, .int .i64 t1, .int .i64 t2], .agg #[.int .i64 k0, .int .i64 k1, .int .i64 k2]] w fun e w' => e = .returned (.bool true) ∧ Below w.heap.size w w' := by
  obtain ⟨ri1, hr1⟩ : ∃ r, rightR 1 t0 t1 t2 = r := ⟨_, rfl⟩
  obtain ⟨ri2, hr2⟩ : ∃ r, rightR 0 k0 k1 k2 = r := ⟨_, rfl⟩
  obtain ⟨hs, hhs⟩ : ∃ r, hasR t0 t1 t2 k0 k1 k2 = r := ⟨_, rfl⟩
  replace hr1 := Aside0.mk hr1
  replace hr2 := Aside0.mk hr2
  replace hhs := Aside0.mk hhs
  go_enter Tryd.func3, Tryd.ntmps3
  go_upto_region 1 with fail
  have hA : (w.alloc (.cells #[.int .i64 t0, .int .i64 t1, .int .i64 t2] 23)).heap.size = w.heap.size + 1 := World.size_alloc _ _
  have hI : Boxes w w.heap.size (w.heap.size + 1) t0 t1 t2 k0 k1 k2 ((w.alloc (.cells #[.int .i64 t0, .int .i64 t1, .int .i64 t2] 23)).alloc (.cells #[.int .i64 k0, .int .i64 k1, .int .i64 k2] 23)) := by
    refine ⟨blk_alloc (blk_new w _) _, ?_, below_two _ _ _, by rw [World.size_alloc, hA]; omega⟩
    have := blk_new (w.alloc (.cells #[.int .i64 t0, .int .i64 t1, .int .i64 t2] 23)) (.cells #[.int .i64 k0, .int .i64 k1, .int .i64 k2] 23)
    rw [hA] at this
    exact this
  obtain ⟨qb, hqb⟩ : ∃ q, w.heap.size = q := ⟨_, rfl⟩
  have hlo : w.heap.size ≤ qb := by omega
  have hql : qb + 1 < ((w.alloc (.cells #[.int .i64 t0, .int .i64 t1, .int .i64 t2] 23)).alloc (.cells #[.int .i64 k0, .int .i64 k1, .int .i64 k2] 23)).heap.size := by rw [World.size_alloc, hA]; omega
  rw [hqb] at hI ⊢
  replace hqb := Aside0.mk hqb
  clear hA
  replace hI := Aside0.mk hI
  generalize (w.alloc (.cells #[.int .i64 t0, .int .i64 t1, .int .i64 t2] 23)).alloc (.cells #[.int .i64 k0, .int .i64 k1, .int .i64 k2] 23) = W0 at hI hql ⊢
  have x0 : W0.cell? ⟨qb, 0, none⟩ = some (.int .i64 t0) := (blk_cell hI.out.1 0).trans rfl
  have x1 : W0.cell? ⟨qb, 1, none⟩ = some (.int .i64 t1) := (blk_cell hI.out.1 1).trans rfl
  have x2 : W0.cell? ⟨qb, 2, none⟩ = some (.int .i64 t2) := (blk_cell hI.out.1 2).trans rfl
  cases ri1
  · go_wp2_with (first | (go_at_call 13; refine (right02_walk t0 t1 t2 _).mono ?_; rintro e w1 ⟨rfl, hb⟩; rw [hr1.out]; have hI1 := Aside0.mk (hI.out.keep hb); clear hb) | (go_at_call 15; refine (awake_walk _).mono ?_; rintro e w9 ⟨rfl, hb9⟩; replace hb9 := Aside0.mk hb9))
    go_ret
    exact ⟨rfl, hI1.out.2.2.1.trans (hb9.out.mono hI1.out.2.2.2)⟩
  · cases ri2
    · go_wp2_with (first | (go_at_call 13; refine (right02_walk t0 t1 t2 _).mono ?_; rintro e w1 ⟨rfl, hb⟩; rw [hr1.out]; have hI1 := hI.out.keep hb; clear x0 x1 x2 hb; have x0 : w1.cell? ⟨qb, 0, none⟩ = some (.int .i64 t0) := (blk_cell hI1.1 0).trans rfl; have x1 : w1.cell? ⟨qb, 1, none⟩ = some (.int .i64 t1) := (blk_cell hI1.1 1).trans rfl; have x2 : w1.cell? ⟨qb, 2, none⟩ = some (.int .i64 t2) := (blk_cell hI1.1 2).trans rfl; have y0 : w1.cell? ⟨qb + 1, 0, none⟩ = some (.int .i64 k0) := (blk_cell hI1.2.1 0).trans rfl; have y1 : w1.cell? ⟨qb + 1, 1, none⟩ = some (.int .i64 k1) := (blk_cell hI1.2.1 1).trans rfl; have y2 : w1.cell? ⟨qb + 1, 2, none⟩ = some (.int .i64 k2) := (blk_cell hI1.2.1 2).trans rfl;  replace hI1 := Aside0.mk hI1) | (go_at_call 14; refine (right07_walk k0 k1 k2 _).mono ?_; rintro e w2 ⟨rfl, hb⟩; rw [hr2.out]; have hI2 := Aside0.mk (hI1.out.keep hb); clear hb) | (go_at_call 15; refine (awake_walk _).mono ?_; rintro e w9 ⟨rfl, hb9⟩; replace hb9 := Aside0.mk hb9))
      go_ret
      exact ⟨rfl, hI2.out.2.2.1.trans (hb9.out.mono hI2.out.2.2.2)⟩
    · go_upto_region 4 with (first | (go_at_call 13; refine (right02_walk t0 t1 t2 _).mono ?_; rintro e w1 ⟨rfl, hb⟩; rw [hr1.out]; have hI1 := hI.out.keep hb; have hl1 := hb.size; clear x0 x1 x2 hb; have x0 : w1.cell? ⟨qb, 0, none⟩ = some (.int .i64 t0) := (blk_cell hI1.1 0).trans rfl; have x1 : w1.cell? ⟨qb, 1, none⟩ = some (.int .i64 t1) := (blk_cell hI1.1 1).trans rfl; have x2 : w1.cell? ⟨qb, 2, none⟩ = some (.int .i64 t2) := (blk_cell hI1.1 2).trans rfl; have y0 : w1.cell? ⟨qb + 1, 0, none⟩ = some (.int .i64 k0) := (blk_cell hI1.2.1 0).trans rfl; have y1 : w1.cell? ⟨qb + 1, 1, none⟩ = some (.int .i64 k1) := (blk_cell hI1.2.1 1).trans rfl; have y2 : w1.cell? ⟨qb + 1, 2, none⟩ = some (.int .i64 k2) := (blk_cell hI1.2.1 2).trans rfl;  replace hI1 := Aside0.mk hI1) | (go_at_call 14; refine (right07_walk k0 k1 k2 _).mono ?_; rintro e w2 ⟨rfl, hb⟩; rw [hr2.out]; have hI2 := hI1.out.keep hb; have hl2 := hb.size; clear x0 x1 x2 y0 y1 y2 hb; have x0 : w2.cell? ⟨qb, 0, none⟩ = some (.int .i64 t0) := (blk_cell hI2.1 0).trans rfl; have x1 : w2.cell? ⟨qb, 1, none⟩ = some (.int .i64 t1) := (blk_cell hI2.1 1).trans rfl; have x2 : w2.cell? ⟨qb, 2, none⟩ = some (.int .i64 t2) := (blk_cell hI2.1 2).trans rfl; have y0 : w2.cell? ⟨qb + 1, 0, none⟩ = some (.int .i64 k0) := (blk_cell hI2.2.1 0).trans rfl; have y1 : w2.cell? ⟨qb + 1, 1, none⟩ = some (.int .i64 k1) := (blk_cell hI2.2.1 1).trans rfl; have y2 : w2.cell? ⟨qb + 1, 2, none⟩ = some (.int .i64 k2) := (blk_cell hI2.2.1 2).trans rfl;  replace hI2 := Aside0.mk hI2) | (go_at_call 16; refine (has_walk t0 t1 t2 k0 k1 k2 _).mono ?_; rintro e w3 ⟨rfl, hb⟩; rw [hhs.out]; have hI3 := Aside0.mk (hI2.out.keep hb); have hl3 := hb.size; clear x0 x1 x2 y0 y1 y2 hb))
      have hlw : qb + 1 < w3.heap.size := by omega
      clear hl1 hl2 hl3 hql hI hI1 hI2
      go_wp2_with fail
      go_loopw [20] (fun i wr => (i = .int .i64 0 ∨ i = .int .i64 1 ∨ i = .int .i64 2 ∨ i = .int .i64 3) ∧ Boxes w qb (qb + 1) t0 t1 t2 k0 k1 k2 wr ∧ qb + 1 < wr.heap.size) (fun i _ => 3 - (intOf i).toNat)
      case atStart => exact ⟨.inl rfl, hI3.out, hlw⟩
      case round =>
        clear hI3 hlw
        obtain ⟨hi, hI, hlw⟩ := hrel
        have x0 : wr.cell? ⟨qb, 0, none⟩ = some (.int .i64 t0) := (blk_cell hI.1 0).trans rfl; have x1 : wr.cell? ⟨qb, 1, none⟩ = some (.int .i64 t1) := (blk_cell hI.1 1).trans rfl; have x2 : wr.cell? ⟨qb, 2, none⟩ = some (.int .i64 t2) := (blk_cell hI.1 2).trans rfl; have y0 : wr.cell? ⟨qb + 1, 0, none⟩ = some (.int .i64 k0) := (blk_cell hI.2.1 0).trans rfl; have y1 : wr.cell? ⟨qb + 1, 1, none⟩ = some (.int .i64 k1) := (blk_cell hI.2.1 1).trans rfl; have y2 : wr.cell? ⟨qb + 1, 2, none⟩ = some (.int .i64 k2) := (blk_cell hI.2.1 2).trans rfl
        have hxn : wr.heap.size ≠ qb := by omega
        have hq1 : qb < wr.heap.size := by omega
        replace hI := Aside0.mk hI
        rcases hi with rfl | rfl | rfl | rfl
        · cases hs
          · go_wp2_with fail
            go_roundw
            case rel => exact ⟨.inr (.inl rfl), hI.out.keep ((Below.refl _ _).alloc (Nat.le_refl _) _), by rw [World.size_alloc]; omega⟩
            case measure => simp [intOf]
          · have e1 : hasR t0 t1 t2 0 k1 k2 = true := by have := hhs.out; simp [hasR, ok1] at this ⊢; exact this.2
            have e2 : hasR t0 t1 t2 t0 k1 k2 = true := by have := hhs.out; simp [hasR, ok1] at this ⊢; exact this.2
            replace e1 := Aside0.mk e1
            replace e2 := Aside0.mk e2
            have hxn' : qb ≠ wr.heap.size := by omega
            have hxn2 : qb + 1 ≠ wr.heap.size := by omega
            have hlx : w.heap.size ≤ wr.heap.size := hI.out.2.2.2
            go_wp2_with (first | (go_at_call 16; (with_reducible show Calls Tryd.prog 16 #[_, .agg #[.int .i64 0, .int .i64 k1, .int .i64 k2]] _ _); refine (has_walk t0 t1 t2 0 k1 k2 _).mono ?_; rintro e w5 ⟨rfl, hb5⟩; rw [e1.out]; clear x0 x1 x2 y0 y1 y2; have hx5 := blk_below (blk_new wr (.cells #[.int .i64 0, .int .i64 k1, .int .i64 k2] 23)) hb5; have hI5 := (hI.out.keep ((Below.refl _ _).alloc (Nat.le_refl _) (.cells #[.int .i64 0, .int .i64 k1, .int .i64 k2] 23))).keep hb5; have hl5 := hb5.size; have u0 : w5.cell? ⟨wr.heap.size, 0, none⟩ = some (.int .i64 0) := (blk_cell hx5 0).trans rfl; have u1 : w5.cell? ⟨wr.heap.size, 1, none⟩ = some (.int .i64 k1) := (blk_cell hx5 1).trans rfl; have u2 : w5.cell? ⟨wr.heap.size, 2, none⟩ = some (.int .i64 k2) := (blk_cell hx5 2).trans rfl; have v := blk_frozen hx5 0; have x0 : w5.cell? ⟨qb, 0, none⟩ = some (.int .i64 t0) := (blk_cell hI5.1 0).trans rfl; have x1 : w5.cell? ⟨qb, 1, none⟩ = some (.int .i64 t1) := (blk_cell hI5.1 1).trans rfl; have x2 : w5.cell? ⟨qb, 2, none⟩ = some (.int .i64 t2) := (blk_cell hI5.1 2).trans rfl; replace hI5 := Aside0.mk hI5; clear hx5 hb5) | (go_at_call 16; (with_reducible show Calls Tryd.prog 16 #[_, .agg #[.int .i64 t0, .int .i64 k1, .int .i64 k2]] _ _); refine (has_walk t0 t1 t2 t0 k1 k2 _).mono ?_; rintro e w6 ⟨rfl, hb6⟩; rw [e2.out]; have hl6 := hb6.size; have hI6 := Aside0.mk ((hI5.out.set hlx hxn' hxn2 0 (.int .i64 t0)).keep hb6); clear hb6))
            go_roundw
            case rel => exact ⟨.inr (.inl rfl), hI6.out, by rw [World.size_alloc] at hl5; simp [World.setCell] at hl6; omega⟩
            case measure => simp [intOf]
        · cases hs
          · go_wp2_with fail
            go_roundw
            case rel => exact ⟨.inr (.inr (.inl rfl)), hI.out.keep ((Below.refl _ _).alloc (Nat.le_refl _) _), by rw [World.size_alloc]; omega⟩
            case measure => simp [intOf]
          · have e1 : hasR t0 t1 t2 k0 0 k2 = true := by have := hhs.out; simp [hasR, ok1] at this ⊢; exact ⟨this.1, this.2.2⟩
            have e2 : hasR t0 t1 t2 k0 t1 k2 = true := by have := hhs.out; simp [hasR, ok1] at this ⊢; exact ⟨this.1, this.2.2⟩
            replace e1 := Aside0.mk e1
            replace e2 := Aside0.mk e2
            have hxn' : qb ≠ wr.heap.size := by omega
            have hxn2 : qb + 1 ≠ wr.heap.size := by omega
            have hlx : w.heap.size ≤ wr.heap.size := hI.out.2.2.2
            go_wp2_with (first | (go_at_call 16; (with_reducible show Calls Tryd.prog 16 #[_, .agg #[.int .i64 k0, .int .i64 0, .int .i64 k2]] _ _); refine (has_walk t0 t1 t2 k0 0 k2 _).mono ?_; rintro e w5 ⟨rfl, hb5⟩; rw [e1.out]; clear x0 x1 x2 y0 y1 y2; have hx5 := blk_below (blk_new wr (.cells #[.int .i64 k0, .int .i64 0, .int .i64 k2] 23)) hb5; have hI5 := (hI.out.keep ((Below.refl _ _).alloc (Nat.le_refl _) (.cells #[.int .i64 k0, .int .i64 0, .int .i64 k2] 23))).keep hb5; have hl5 := hb5.size; have u0 : w5.cell? ⟨wr.heap.size, 0, none⟩ = some (.int .i64 k0) := (blk_cell hx5 0).trans rfl; have u1 : w5.cell? ⟨wr.heap.size, 1, none⟩ = some (.int .i64 0) := (blk_cell hx5 1).trans rfl; have u2 : w5.cell? ⟨wr.heap.size, 2, none⟩ = some (.int .i64 k2) := (blk_cell hx5 2).trans rfl; have v := blk_frozen hx5 1; have x0 : w5.cell? ⟨qb, 0, none⟩ = some (.int .i64 t0) := (blk_cell hI5.1 0).trans rfl; have x1 : w5.cell? ⟨qb, 1, none⟩ = some (.int .i64 t1) := (blk_cell hI5.1 1).trans rfl; have x2 : w5.cell? ⟨qb, 2, none⟩ = some (.int .i64 t2) := (blk_cell hI5.1 2).trans rfl; replace hI5 := Aside0.mk hI5; clear hx5 hb5) | (go_at_call 16; (with_reducible show Calls Tryd.prog 16 #[_, .agg #[.int .i64 k0, .int .i64 t1, .int .i64 k2]] _ _); refine (has_walk t0 t1 t2 k0 t1 k2 _).mono ?_; rintro e w6 ⟨rfl, hb6⟩; rw [e2.out]; have hl6 := hb6.size; have hI6 := Aside0.mk ((hI5.out.set hlx hxn' hxn2 1 (.int .i64 t1)).keep hb6); clear hb6))
            go_roundw
            case rel => exact ⟨.inr (.inr (.inl rfl)), hI6.out, by rw [World.size_alloc] at hl5; simp [World.setCell] at hl6; omega⟩
            case measure => simp [intOf]
        · cases hs
          · go_wp2_with fail
            go_roundw
            case rel => exact ⟨.inr (.inr (.inr rfl)), hI.out.keep ((Below.refl _ _).alloc (Nat.le_refl _) _), by rw [World.size_alloc]; omega⟩
            case measure => simp [intOf]
          · have e1 : hasR t0 t1 t2 k0 k1 0 = true := by have := hhs.out; simp [hasR, ok1] at this ⊢; exact ⟨this.1, this.2.1⟩
            have e2 : hasR t0 t1 t2 k0 k1 t2 = true := by have := hhs.out; simp [hasR, ok1] at this ⊢; exact ⟨this.1, this.2.1⟩
            replace e1 := Aside0.mk e1
            replace e2 := Aside0.mk e2
            have hxn' : qb ≠ wr.heap.size := by omega
            have hxn2 : qb + 1 ≠ wr.heap.size := by omega
            have hlx : w.heap.size ≤ wr.heap.size := hI.out.2.2.2
            go_wp2_with (first | (go_at_call 16; (with_reducible show Calls Tryd.prog 16 #[_, .agg #[.int .i64 k0, .int .i64 k1, .int .i64 0]] _ _); refine (has_walk t0 t1 t2 k0 k1 0 _).mono ?_; rintro e w5 ⟨rfl, hb5⟩; rw [e1.out]; clear x0 x1 x2 y0 y1 y2; have hx5 := blk_below (blk_new wr (.cells #[.int .i64 k0, .int .i64 k1, .int .i64 0] 23)) hb5; have hI5 := (hI.out.keep ((Below.refl _ _).alloc (Nat.le_refl _) (.cells #[.int .i64 k0, .int .i64 k1, .int .i64 0] 23))).keep hb5; have hl5 := hb5.size; have u0 : w5.cell? ⟨wr.heap.size, 0, none⟩ = some (.int .i64 k0) := (blk_cell hx5 0).trans rfl; have u1 : w5.cell? ⟨wr.heap.size, 1, none⟩ = some (.int .i64 k1) := (blk_cell hx5 1).trans rfl; have u2 : w5.cell? ⟨wr.heap.size, 2, none⟩ = some (.int .i64 0) := (blk_cell hx5 2).trans rfl; have v := blk_frozen hx5 2; have x0 : w5.cell? ⟨qb, 0, none⟩ = some (.int .i64 t0) := (blk_cell hI5.1 0).trans rfl; have x1 : w5.cell? ⟨qb, 1, none⟩ = some (.int .i64 t1) := (blk_cell hI5.1 1).trans rfl; have x2 : w5.cell? ⟨qb, 2, none⟩ = some (.int .i64 t2) := (blk_cell hI5.1 2).trans rfl; replace hI5 := Aside0.mk hI5; clear hx5 hb5) | (go_at_call 16; (with_reducible show Calls Tryd.prog 16 #[_, .agg #[.int .i64 k0, .int .i64 k1, .int .i64 t2]] _ _); refine (has_walk t0 t1 t2 k0 k1 t2 _).mono ?_; rintro e w6 ⟨rfl, hb6⟩; rw [e2.out]; have hl6 := hb6.size; have hI6 := Aside0.mk ((hI5.out.set hlx hxn' hxn2 2 (.int .i64 t2)).keep hb6); clear hb6))
            go_roundw
            case rel => exact ⟨.inr (.inr (.inr rfl)), hI6.out, by rw [World.size_alloc] at hl5; simp [World.setCell] at hl6; omega⟩
            case measure => simp [intOf]
        · have hz := Aside0.mk (show hasR t0 t1 t2 0 0 0 = true by simp [hasR, ok1])
          have ht := Aside0.mk (show hasR t0 t1 t2 t0 t1 t2 = true by simp [hasR, ok1])
          go_wp2_with (first | (go_at_call 16; (with_reducible show Calls Tryd.prog 16 #[_, .agg #[.int .i64 0, .int .i64 0, .int .i64 0]] _ _); refine (has_walk t0 t1 t2 0 0 0 _).mono ?_; rintro e w5 ⟨rfl, hb5⟩; rw [hz.out]; have hI5 := hI.out.keep hb5; clear x0 x1 x2 y0 y1 y2 hb5; have x0 : w5.cell? ⟨qb, 0, none⟩ = some (.int .i64 t0) := (blk_cell hI5.1 0).trans rfl; have x1 : w5.cell? ⟨qb, 1, none⟩ = some (.int .i64 t1) := (blk_cell hI5.1 1).trans rfl; have x2 : w5.cell? ⟨qb, 2, none⟩ = some (.int .i64 t2) := (blk_cell hI5.1 2).trans rfl; have y0 : w5.cell? ⟨qb + 1, 0, none⟩ = some (.int .i64 k0) := (blk_cell hI5.2.1 0).trans rfl; have y1 : w5.cell? ⟨qb + 1, 1, none⟩ = some (.int .i64 k1) := (blk_cell hI5.2.1 1).trans rfl; have y2 : w5.cell? ⟨qb + 1, 2, none⟩ = some (.int .i64 k2) := (blk_cell hI5.2.1 2).trans rfl;  replace hI5 := Aside0.mk hI5) | (go_at_call 16; (with_reducible show Calls Tryd.prog 16 #[_, .agg #[.int .i64 t0, .int .i64 t1, .int .i64 t2]] _ _); refine (has_walk t0 t1 t2 t0 t1 t2 _).mono ?_; rintro e w6 ⟨rfl, hb6⟩; rw [ht.out]; have hI6 := Aside0.mk (hI5.out.keep hb6); clear hb6) | (go_at_call 15; refine (awake_walk _).mono ?_; rintro e w9 ⟨rfl, hb9⟩; replace hb9 := Aside0.mk hb9))
          go_ret
          exact ⟨rfl, hI6.out.2.2.1.trans (hb9.out.mono hI6.out.2.2.2)⟩
end Go.Proofs.YtfgnpplnjgjjkaaDoor.K
