/- The walk of the law TripleCompares. -/
import Derived.Test.YtfgnpplnjgjjkaaDoorTOrder
import Derived.Deep.QuietTactic
import Derived.BigQuiet
import Derived.Deep.DeepCutAuto
import Derived.Deep.CutBlock
namespace Go.Proofs.YtfgnpplnjgjjkaaDoor.T
open Go.RowKit Go.Lib Go.Proofs.YtfgnpplnjgjjkaaDoorW.PrintWords Go.Proofs.YtfgnpplnjgjjkaaDoor.K

theorem below_drewN {B : Nat} {a w : World} (h : Below B a w) (n : Nat) : Below B a (w.drewN n) := ⟨h.os, h.tape, h.output, h.size, h.block⟩
def lessB (a0 a1 a2 b0 b1 b2 : Int) : Bool := if a0 = b0 then (if a1 = b1 then decide (a2 < b2) else decide (a1 < b1)) else decide (a0 < b0)

set_option maxRecDepth 100000 in
theorem less_walk (a0 a1 a2 b0 b1 b2 : Int) (w : World) :
    Calls Tryd.prog 35 #[.agg #[.int .i64 a0, .int .i64 a1, .int .i64 a2], .agg #[.int .i64 b0, .int .i64 b1, .int .i64 b2]] w fun e w' => e = .returned (.bool (lessB a0 a1 a2 b0 b1 b2)) ∧ Below w.heap.size w w' := by
  by_cases h0 : a0 = b0
  · subst h0
    by_cases h1 : a1 = b1
    · subst h1
      go_enter Tryd.func35, Tryd.ntmps35
      go_wp2_with fail
      go_ret
      exact ⟨by simp [lessB], below_two _ _ _⟩
    · have hb : (a1 != b1) = true := bne_iff_ne.2 h1
      go_enter Tryd.func35, Tryd.ntmps35
      go_wp2_with fail
      go_ret
      exact ⟨by simp [lessB, h1], below_two _ _ _⟩
  · have hb : (a0 != b0) = true := bne_iff_ne.2 h0
    go_enter Tryd.func35, Tryd.ntmps35
    go_wp2_with fail
    go_ret
    exact ⟨by simp [lessB, h0], below_two _ _ _⟩

/-- Are two fields alike? -/
def sameB (a0 a1 a2 f g : Int) : Bool := if 0 ≤ f then (if f ≤ 2 then (if 0 ≤ g then (if g ≤ 2 then fn3 a0 a1 a2 f.toNat == fn3 a0 a1 a2 g.toNat else false) else false) else false) else false

set_option maxHeartbeats 4000000 in
set_option maxRecDepth 100000 in
theorem same_walk (a0 a1 a2 f g : Int) (w : World) :
    Calls Tryd.prog 36 #[.agg #[.int .i64 a0, .int .i64 a1, .int .i64 a2], .int .i64 f, .int .i64 g] w fun e w' => e = .returned (.bool (sameB a0 a1 a2 f g)) ∧ Below w.heap.size w w' := by
  have hB : Below w.heap.size w (w.alloc (.cells #[.int .i64 a0, .int .i64 a1, .int .i64 a2] 23)) := (Below.refl _ _).alloc (Nat.le_refl _) _
  replace hB := Aside0.mk hB
  by_cases f0 : 0 ≤ f
  · by_cases f2 : f ≤ 2
    · have f3 : f < 3 := by omega
      by_cases g0 : 0 ≤ g
      · by_cases g2 : g ≤ 2
        · have g3 : g < 3 := by omega
          rcases (by omega : f = 0 ∨ f = 1 ∨ f = 2) with rfl | rfl | rfl <;> rcases (by omega : g = 0 ∨ g = 1 ∨ g = 2) with rfl | rfl | rfl
          all_goals
            clear f0 f2 f3 g0 g2 g3
            go_enter Tryd.func36, Tryd.ntmps36
            go_wp2_with fail
            go_quiet (fail)
            go_wp2_with fail
            go_ret
            exact ⟨by simp [sameB, fn3], below_drewN hB.out _⟩
        · have g3 : ¬ g < 3 := by omega
          have hd : decide (g < 3) = false := by simp; omega
          go_enter Tryd.func36, Tryd.ntmps36
          go_wp2_with fail
          go_quiet (fail)
          go_wp2_with fail
          go_ret
          exact ⟨by simp [sameB]; intros; omega, below_drewN hB.out _⟩
      · have hd : decide (0 ≤ g) = false := by simp; omega
        go_enter Tryd.func36, Tryd.ntmps36
        go_wp2_with fail
        go_quiet (fail)
        go_wp2_with fail
        go_ret
        exact ⟨by simp [sameB]; intros; omega, below_drewN hB.out _⟩
    · have f3 : ¬ f < 3 := by omega
      have hd : decide (f < 3) = false := by simp; omega
      go_enter Tryd.func36, Tryd.ntmps36
      go_wp2_with fail
      go_quiet (fail)
      go_wp2_with fail
      go_ret
      exact ⟨by simp [sameB]; intros; omega, below_drewN hB.out _⟩
  · have hd : decide (0 ≤ f) = false := by simp; omega
    go_enter Tryd.func36, Tryd.ntmps36
    go_wp2_with fail
    go_quiet (fail)
    go_wp2_with fail
    go_ret
    exact ⟨by simp [sameB]; intros; omega, below_drewN hB.out _⟩

theorem tmax2 (k k' : IntKind) (x y : Int) : Builtin.max2 (.int k x) (.int k' y) = pure (.int k (if x < y then y else x)) := by simp only [Builtin.max2, gt_iff_lt]
theorem tmin2 (k k' : IntKind) (x y : Int) : Builtin.min2 (.int k x) (.int k' y) = pure (.int k (if y < x then y else x)) := by simp only [Builtin.min2]
theorem tmax (ats : Array TypeId) (ty : TypeId) (a b : Value) : Builtin.max_ ats ty #[a, b] = (Builtin.max2 a b >>= fun s => pure s) := by simp only [Builtin.max_, List.foldlM_cons, List.foldlM_nil]
theorem tmin (ats : Array TypeId) (ty : TypeId) (a b : Value) : Builtin.min_ ats ty #[a, b] = (Builtin.min2 a b >>= fun s => pure s) := by simp only [Builtin.min_, List.foldlM_cons, List.foldlM_nil]
attribute [local go_sem] tmax2 tmin2 tmax tmin
theorem cmpZ_neg (a0 a1 a2 b0 b1 b2 : Int) : cmpZ b0 b1 b2 a0 a1 a2 = -cmpZ a0 a1 a2 b0 b1 b2 := by
  rw [cmpZ_eq, cmpZ_eq]
  have h0 := cmpI_cases a0 b0
  have h1 := cmpI_cases a1 b1
  have h2 := cmpI_cases a2 b2
  have k0 := cmpI_cases b0 a0
  have k1 := cmpI_cases b1 a1
  have k2 := cmpI_cases b2 a2
  by_cases e0 : a0 = b0
  · rw [if_pos e0, if_pos e0.symm]
    by_cases e1 : a1 = b1
    · rw [if_pos e1, if_pos e1.symm]; omega
    · rw [if_neg e1, if_neg (fun h => e1 h.symm)]; omega
  · rw [if_neg e0, if_neg (fun h => e0 h.symm)]; omega
theorem less_cmp (a0 a1 a2 b0 b1 b2 : Int) : (lessB a0 a1 a2 b0 b1 b2 = true ↔ cmpZ a0 a1 a2 b0 b1 b2 = -1) ∧ -1 ≤ cmpZ a0 a1 a2 b0 b1 b2 ∧ cmpZ a0 a1 a2 b0 b1 b2 ≤ 1 := by
  rw [cmpZ_eq]
  unfold lessB
  have h0 := cmpI_cases a0 b0
  have h1 := cmpI_cases a1 b1
  have h2 := cmpI_cases a2 b2
  split
  · split
    · simp only [decide_eq_true_iff]; omega
    · simp only [decide_eq_true_iff]; omega
  · simp only [decide_eq_true_iff]; omega

def HB2 (w : World) (qa : Nat) (a0 a1 a2 b0 b1 b2 : Int) (W : World) : Prop :=
  W.heap[qa]? = some (.cells #[.int .i64 a0, .int .i64 a1, .int .i64 a2] 23 (0, 0)) ∧ W.heap[qa + 1]? = some (.cells #[.int .i64 b0, .int .i64 b1, .int .i64 b2] 23 (0, 0)) ∧ Below w.heap.size w W ∧ w.heap.size ≤ W.heap.size ∧ Env W
theorem HB2.keep {w W W' : World} {qa : Nat} {a0 a1 a2 b0 b1 b2 : Int} (h : HB2 w qa a0 a1 a2 b0 b1 b2 W) (hb : Below W.heap.size W W') : HB2 w qa a0 a1 a2 b0 b1 b2 W' :=
  ⟨blk_below h.1 hb, blk_below h.2.1 hb, h.2.2.1.trans (hb.mono h.2.2.2.1), Nat.le_trans h.2.2.2.1 hb.size, h.2.2.2.2.below hb⟩

set_option maxHeartbeats 8000000 in
set_option maxRecDepth 100000 in
theorem compares_walk (a0 a1 a2 b0 b1 b2 f : Int) (w : World) (hE : Env w) :
    Calls Tryd.prog 11 #[.agg #[.int .i64 a0, .int .i64 a1, .int .i64 a2], .agg #[.int .i64 b0, .int .i64 b1, .int .i64 b2], .int .i64 f] w fun e w' => e = .returned (.bool true) ∧ Below w.heap.size w w' := by
  have Cab := Aside0.mk (fun w => compare_any a0 a1 a2 b0 b1 b2 w)
  have Cba := Aside0.mk (fun w => compare_any b0 b1 b2 a0 a1 a2 w)
  have Lab := Aside0.mk (fun w => less_walk a0 a1 a2 b0 b1 b2 w)
  have Lba := Aside0.mk (fun w => less_walk b0 b1 b2 a0 a1 a2 w)
  have z1 := less_cmp a0 a1 a2 b0 b1 b2
  have z2 := (less_cmp b0 b1 b2 a0 a1 a2).1
  rw [cmpZ_neg a0 a1 a2 b0 b1 b2] at Cba z2
  generalize cmpZ a0 a1 a2 b0 b1 b2 = x at Cab Cba z1 z2
  generalize lessB a0 a1 a2 b0 b1 b2 = l1 at Lab z1
  generalize lessB b0 b1 b2 a0 a1 a2 = l2 at Lba z2
  have hI : HB2 w w.heap.size a0 a1 a2 b0 b1 b2 ((w.alloc (.cells #[.int .i64 a0, .int .i64 a1, .int .i64 a2] 23)).alloc (.cells #[.int .i64 b0, .int .i64 b1, .int .i64 b2] 23)) := by
    have hB := below_two w (.cells #[.int .i64 a0, .int .i64 a1, .int .i64 a2] 23) (.cells #[.int .i64 b0, .int .i64 b1, .int .i64 b2] 23)
    refine ⟨blk_alloc (blk_new w _) _, ?_, hB, hB.size, hE.below hB⟩
    have := blk_new (w.alloc (.cells #[.int .i64 a0, .int .i64 a1, .int .i64 a2] 23)) (.cells #[.int .i64 b0, .int .i64 b1, .int .i64 b2] 23)
    rw [World.size_alloc] at this
    exact this
  obtain ⟨qa, hqa⟩ : ∃ q, w.heap.size = q := ⟨_, rfl⟩
  replace hI : HB2 w qa a0 a1 a2 b0 b1 b2 _ := hqa ▸ hI
  replace hI := Aside0.mk hI
  obtain ⟨x0, x1⟩ := z1.2
  replace z1 := Aside0.mk z1.1
  replace z2 := Aside0.mk z2
  replace hqa := Aside0.mk hqa
  clear hE
  go_enter Tryd.func11, Tryd.ntmps11
  go_upto_region 2 with fail
  rw [hqa.out] at ⊢
  generalize ((w.alloc (.cells #[.int .i64 a0, .int .i64 a1, .int .i64 a2] 23)).alloc (.cells #[.int .i64 b0, .int .i64 b1, .int .i64 b2] 23)) = W0 at hI ⊢
  have f0 : W0.cell? ⟨qa, 0, none⟩ = some (.int .i64 a0) := (blk_cell hI.out.1 0).trans rfl
  have f1 : W0.cell? ⟨qa, 1, none⟩ = some (.int .i64 a1) := (blk_cell hI.out.1 1).trans rfl
  have f2 : W0.cell? ⟨qa, 2, none⟩ = some (.int .i64 a2) := (blk_cell hI.out.1 2).trans rfl
  have f3 : W0.cell? ⟨qa + 1, 0, none⟩ = some (.int .i64 b0) := (blk_cell hI.out.2.1 0).trans rfl
  have f4 : W0.cell? ⟨qa + 1, 1, none⟩ = some (.int .i64 b1) := (blk_cell hI.out.2.1 1).trans rfl
  have f5 : W0.cell? ⟨qa + 1, 2, none⟩ = some (.int .i64 b2) := (blk_cell hI.out.2.1 2).trans rfl
  obtain ⟨y0, hy0⟩ : ∃ y, (if l1 = true then (-1 : Int) else 0) = y := ⟨_, rfl⟩
  have hx2 : (if l2 = true then (1 : Int) else y0) = x := by
    have e1 := z1.out
    have e2 := z2.out
    rw [← hy0]
    cases l1 <;> cases l2 <;> simp at e1 e2 ⊢ <;> omega
  replace hy0 := Aside0.mk hy0
  replace hx2 := Aside0.mk hx2
  go_upto_if 12 with (go_at_call 35; (with_reducible show Calls Tryd.prog 35 #[.agg #[.int .i64 a0, _, _], .agg #[.int .i64 b0, _, _]] _ _); refine (Lab.out _).mono ?_; rintro e w1 ⟨rfl, hb⟩; have hI' := Aside0.mk (hI.out.keep hb); clear hb f0 f1 f2 f3 f4 f5)
  go_cut [7] from 10 to 12 (fun v W => v = .int .i64 y0 ∧ HB2 w qa a0 a1 a2 b0 b1 b2 W)
  case first =>
    cases l1
    all_goals
      go_wp2_with fail
      go_meet
      exact ⟨by rw [← hy0.out]; rfl, hI'.out⟩
  case rest =>
    obtain ⟨rfl, hI2⟩ := hcut
    clear hI hI'
    replace hI2 := Aside0.mk hI2
    have f0 : wc.cell? ⟨qa, 0, none⟩ = some (.int .i64 a0) := (blk_cell hI2.out.1 0).trans rfl
    have f1 : wc.cell? ⟨qa, 1, none⟩ = some (.int .i64 a1) := (blk_cell hI2.out.1 1).trans rfl
    have f2 : wc.cell? ⟨qa, 2, none⟩ = some (.int .i64 a2) := (blk_cell hI2.out.1 2).trans rfl
    have f3 : wc.cell? ⟨qa + 1, 0, none⟩ = some (.int .i64 b0) := (blk_cell hI2.out.2.1 0).trans rfl
    have f4 : wc.cell? ⟨qa + 1, 1, none⟩ = some (.int .i64 b1) := (blk_cell hI2.out.2.1 1).trans rfl
    have f5 : wc.cell? ⟨qa + 1, 2, none⟩ = some (.int .i64 b2) := (blk_cell hI2.out.2.1 2).trans rfl
    go_upto_if 15 with (go_at_call 35; (with_reducible show Calls Tryd.prog 35 #[.agg #[.int .i64 b0, _, _], .agg #[.int .i64 a0, _, _]] _ _); refine (Lba.out _).mono ?_; rintro e w2 ⟨rfl, hb⟩; have hI2' := Aside0.mk (hI2.out.keep hb); clear hb f0 f1 f2 f3 f4 f5)
    go_cut [7] from 13 to 15 (fun v W => v = .int .i64 x ∧ HB2 w qa a0 a1 a2 b0 b1 b2 W)
    case first =>
      cases l2
      all_goals
        go_wp2_with fail
        go_meet
        exact ⟨by rw [← hx2.out]; rfl, hI2'.out⟩
    case rest =>
      obtain ⟨rfl, hI3⟩ := hcut
      clear hI2 hI2' hy0 hx2 z1 z2 Lab Lba
      replace hI3 := Aside0.mk hI3
      have f0 : wc.cell? ⟨qa, 0, none⟩ = some (.int .i64 a0) := (blk_cell hI3.out.1 0).trans rfl
      have f1 : wc.cell? ⟨qa, 1, none⟩ = some (.int .i64 a1) := (blk_cell hI3.out.1 1).trans rfl
      have f2 : wc.cell? ⟨qa, 2, none⟩ = some (.int .i64 a2) := (blk_cell hI3.out.1 2).trans rfl
      have f3 : wc.cell? ⟨qa + 1, 0, none⟩ = some (.int .i64 b0) := (blk_cell hI3.out.2.1 0).trans rfl
      have f4 : wc.cell? ⟨qa + 1, 1, none⟩ = some (.int .i64 b1) := (blk_cell hI3.out.2.1 1).trans rfl
      have f5 : wc.cell? ⟨qa + 1, 2, none⟩ = some (.int .i64 b2) := (blk_cell hI3.out.2.1 2).trans rfl
      go_wp2_with (first | (go_at_call 34; (with_reducible show Calls Tryd.prog 34 #[.agg #[.int .i64 a0, _, _], .agg #[.int .i64 b0, _, _]] _ _); refine (Cab.out _).mono ?_; rintro e w3 ⟨rfl, hb⟩; have hI4 := Aside0.mk (hI3.out.keep hb); clear hb f0 f1 f2 f3 f4 f5; have f0 : w3.cell? ⟨qa, 0, none⟩ = some (.int .i64 a0) := (blk_cell hI4.out.1 0).trans rfl; have f1 : w3.cell? ⟨qa, 1, none⟩ = some (.int .i64 a1) := (blk_cell hI4.out.1 1).trans rfl; have f2 : w3.cell? ⟨qa, 2, none⟩ = some (.int .i64 a2) := (blk_cell hI4.out.1 2).trans rfl; have f3 : w3.cell? ⟨qa + 1, 0, none⟩ = some (.int .i64 b0) := (blk_cell hI4.out.2.1 0).trans rfl; have f4 : w3.cell? ⟨qa + 1, 1, none⟩ = some (.int .i64 b1) := (blk_cell hI4.out.2.1 1).trans rfl; have f5 : w3.cell? ⟨qa + 1, 2, none⟩ = some (.int .i64 b2) := (blk_cell hI4.out.2.1 2).trans rfl) | (go_at_call 34; (with_reducible show Calls Tryd.prog 34 #[.agg #[.int .i64 b0, _, _], .agg #[.int .i64 a0, _, _]] _ _); refine (Cba.out _).mono ?_; rintro e w4 ⟨rfl, hb⟩; have hI5 := Aside0.mk (hI4.out.keep hb); clear hb f0 f1 f2 f3 f4 f5))
      clear hI3 hI4 Cab Cba
      go_loopw [8] (fun g W => ∃ k : Nat, g = .int .i64 ((k : Int) - 1) ∧ k ≤ 5 ∧ HB2 w qa a0 a1 a2 b0 b1 b2 W) (fun g _ => 5 - ((RowKit.intOf g) + 1).toNat)
      case atStart => exact ⟨0, rfl, by omega, hI5.out⟩
      case round =>
        clear hI5
        obtain ⟨k, rfl, hk, hI⟩ := hrel
        replace hI := Aside0.mk hI
        obtain ⟨g, hg⟩ : ∃ g : Int, (k : Int) - 1 = g := ⟨_, rfl⟩
        rw [hg]
        by_cases hlt : k < 5
        · have g4 : g ≤ 3 := by omega
          have hg2 : g + 1 = ((k + 1 : Nat) : Int) - 1 := by omega
          have gl : -1 ≤ g := by omega
          replace hg := Aside0.mk hg
          replace hg2 := Aside0.mk hg2
          go_upto_region 11 with fail
          go_cut [9] from 33 to 59 (fun v W => v = .bool (sameB a0 a1 a2 f g) ∧ HB2 w qa a0 a1 a2 b0 b1 b2 W)
          case first =>
            have f0 : wr.cell? ⟨qa, 0, none⟩ = some (.int .i64 a0) := (blk_cell hI.out.1 0).trans rfl
            have f1 : wr.cell? ⟨qa, 1, none⟩ = some (.int .i64 a1) := (blk_cell hI.out.1 1).trans rfl
            have f2 : wr.cell? ⟨qa, 2, none⟩ = some (.int .i64 a2) := (blk_cell hI.out.1 2).trans rfl
            have hK : ∀ n, HB2 w qa a0 a1 a2 b0 b1 b2 (wr.drewN n) := fun n => hI.out.keep (below_drewN (Below.refl _ _) n)
            replace hK := Aside0.mk hK
            clear hlt hk g4 gl
            by_cases q0 : 0 ≤ f
            · by_cases q2 : f ≤ 2
              · by_cases r0 : 0 ≤ g
                · by_cases r2 : g ≤ 2
                  · clear hg hg2
                    rcases (by omega : f = 0 ∨ f = 1 ∨ f = 2) with rfl | rfl | rfl <;> rcases (by omega : g = 0 ∨ g = 1 ∨ g = 2) with rfl | rfl | rfl
                    all_goals
                      clear q0 q2 r0 r2
                      go_quiet (fail)
                      go_wp2_with fail
                      go_meet
                      exact ⟨by simp [sameB, fn3], hK.out _⟩
                  · have hv : sameB a0 a1 a2 f g = false := by simp [sameB]; intros; omega
                    have hd : decide (g ≤ 2) = false := by simp; omega
                    replace hv := Aside0.mk hv
                    go_quiet (fail)
                    go_wp2_with fail
                    go_meet
                    exact ⟨by rw [hv.out], hK.out _⟩
                · have hv : sameB a0 a1 a2 f g = false := by simp [sameB]; intros; omega
                  have hd : decide (0 ≤ g) = false := by simp; omega
                  replace hv := Aside0.mk hv
                  go_quiet (fail)
                  go_wp2_with fail
                  go_meet
                  exact ⟨by rw [hv.out], hK.out _⟩
              · have hv : sameB a0 a1 a2 f g = false := by simp [sameB]; intros; omega
                have hd : decide (f ≤ 2) = false := by simp; omega
                replace hv := Aside0.mk hv
                go_quiet (fail)
                go_wp2_with fail
                go_meet
                exact ⟨by rw [hv.out], hK.out _⟩
            · have hv : sameB a0 a1 a2 f g = false := by simp [sameB]; intros; omega
              have hd : decide (0 ≤ f) = false := by simp; omega
              replace hv := Aside0.mk hv
              go_quiet (fail)
              go_wp2_with fail
              go_meet
              exact ⟨by rw [hv.out], hK.out _⟩
          case rest =>
            obtain ⟨rfl, hI6⟩ := hcut
            replace hI6 := Aside0.mk hI6
            have HS := Aside0.mk (fun w => same_walk a0 a1 a2 f g w)
            generalize sameB a0 a1 a2 f g = t at HS
            have f0 : wc.cell? ⟨qa, 0, none⟩ = some (.int .i64 a0) := (blk_cell hI6.out.1 0).trans rfl
            have f1 : wc.cell? ⟨qa, 1, none⟩ = some (.int .i64 a1) := (blk_cell hI6.out.1 1).trans rfl
            have f2 : wc.cell? ⟨qa, 2, none⟩ = some (.int .i64 a2) := (blk_cell hI6.out.1 2).trans rfl
            go_wp2_with (go_at_call 36; refine (HS.out _).mono ?_; rintro e w7 ⟨rfl, hb⟩; have hI7 := Aside0.mk (hI6.out.keep hb); clear hb f0 f1 f2)
            go_roundw
            case rel => exact ⟨k + 1, by rw [← hg2.out], by omega, hI7.out⟩
            case measure => have := hg.out; simp [RowKit.intOf]; omega
        · have g4 : ¬ g ≤ 3 := by omega
          go_wp2_with (go_at_call 25; refine (awake02_walk _ hI.out.2.2.2.2).mono ?_; rintro e w10 ⟨rfl, hb10⟩; replace hb10 := Aside0.mk hb10)
          go_ret
          exact ⟨rfl, hI.out.2.2.1.trans (hb10.out.mono hI.out.2.2.2.1)⟩
end Go.Proofs.YtfgnpplnjgjjkaaDoor.T
