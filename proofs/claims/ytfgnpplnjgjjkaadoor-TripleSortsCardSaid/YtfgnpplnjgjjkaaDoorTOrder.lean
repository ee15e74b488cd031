/- The walk of the law TripleOrder. -/
import Derived.Test.YtfgnpplnjgjjkaaDoorTAwake
import Derived.Test.YtfgnpplnjgjjkaaDoorTCmp
namespace Go.Proofs.YtfgnpplnjgjjkaaDoor.T
open Go.RowKit Go.Lib Go.Proofs.YtfgnpplnjgjjkaaDoorW.PrintWords Go.Proofs.YtfgnpplnjgjjkaaDoor.K

/-- Three numbers, by their place. -/
def fn3 (a b c : Int) (j : Nat) : Int := match j with
  | 0 => a
  | 1 => b
  | _ => c
def cmpZ (a0 a1 a2 b0 b1 b2 : Int) : Int := cmp3 (fn3 a0 a1 a2) (fn3 b0 b1 b2)
theorem cmpZ_eq (a0 a1 a2 b0 b1 b2 : Int) : cmpZ a0 a1 a2 b0 b1 b2 = if a0 = b0 then (if a1 = b1 then compareInt a2 b2 else compareInt a1 b1) else compareInt a0 b0 := rfl
theorem compare_any (a0 a1 a2 b0 b1 b2 : Int) (w : World) :
    Calls Tryd.prog 34 #[.agg #[.int .i64 a0, .int .i64 a1, .int .i64 a2], .agg #[.int .i64 b0, .int .i64 b1, .int .i64 b2]] w fun e w' => e = .returned (.int .i64 (cmpZ a0 a1 a2 b0 b1 b2)) ∧ Below w.heap.size w w' :=
  compare_walk (fn3 a0 a1 a2) (fn3 b0 b1 b2) w
/-- Are two triples one? -/
def eqB (a0 a1 a2 b0 b1 b2 : Int) : Bool := a0 == b0 && (a1 == b1 && a2 == b2)
theorem eqB_run (n : Nat) (a b c d e f : Int) (w : World) : (Op.equalIn (n + 2) 23 (.agg #[.int .i64 a, .int .i64 b, .int .i64 c]) (.agg #[.int .i64 d, .int .i64 e, .int .i64 f])).run Tryd.prog w = .ok (eqB a b c d e f) w := eq23 n a b c d e f w
theorem cmpI_cases (x y : Int) : (x < y ∧ compareInt x y = -1) ∨ (x = y ∧ compareInt x y = 0) ∨ (y < x ∧ compareInt x y = 1) := by
  unfold compareInt
  by_cases h1 : x < y
  · exact .inl ⟨h1, if_pos h1⟩
  · by_cases h2 : x > y
    · exact .inr (.inr ⟨h2, by rw [if_neg h1, if_pos h2]⟩)
    · exact .inr (.inl ⟨by omega, by rw [if_neg h1, if_neg h2]⟩)
theorem cmpZ_zero (a0 a1 a2 b0 b1 b2 : Int) : cmpZ a0 a1 a2 b0 b1 b2 = 0 ↔ eqB a0 a1 a2 b0 b1 b2 = true := by
  rw [cmpZ_eq]
  simp only [eqB, Bool.and_eq_true, beq_iff_eq]
  have h0 := cmpI_cases a0 b0
  have h1 := cmpI_cases a1 b1
  have h2 := cmpI_cases a2 b2
  split
  · split <;> omega
  · omega
theorem cmpZ_le (a0 a1 a2 b0 b1 b2 c0 c1 c2 : Int) (h : cmpZ a0 a1 a2 b0 b1 b2 ≤ 0) (k : cmpZ b0 b1 b2 c0 c1 c2 ≤ 0) : cmpZ a0 a1 a2 c0 c1 c2 ≤ 0 := by
  rw [cmpZ_eq] at *
  have h0 := cmpI_cases a0 b0
  have h1 := cmpI_cases a1 b1
  have h2 := cmpI_cases a2 b2
  have k0 := cmpI_cases b0 c0
  have k1 := cmpI_cases b1 c1
  have k2 := cmpI_cases b2 c2
  have l0 := cmpI_cases a0 c0
  have l1 := cmpI_cases a1 c1
  have l2 := cmpI_cases a2 c2
  by_cases e0 : a0 = c0
  · rw [if_pos e0]
    split at h
    · rw [if_pos (by omega)] at k
      by_cases e1 : a1 = c1
      · rw [if_pos e1]
        split at h <;> split at k <;> omega
      · rw [if_neg e1]
        split at h <;> split at k <;> omega
    · split at k <;> omega
  · rw [if_neg e0]
    split at h <;> split at k <;> omega
theorem cmpZ_eqs (a0 a1 a2 b0 b1 b2 c0 c1 c2 : Int) (h : cmpZ a0 a1 a2 b0 b1 b2 = 0) : cmpZ a0 a1 a2 c0 c1 c2 = cmpZ b0 b1 b2 c0 c1 c2 := by
  have := (cmpZ_zero _ _ _ _ _ _).1 h
  simp only [eqB, Bool.and_eq_true, beq_iff_eq] at this
  obtain ⟨rfl, rfl, rfl⟩ := this
  rfl

attribute [local go_sem high] eqB_run build23 build23z

def OB (w : World) (qa : Nat) (a0 a1 a2 b0 b1 b2 c0 c1 c2 : Int) (W : World) : Prop :=
  W.heap[qa]? = some (.cells #[.int .i64 a0, .int .i64 a1, .int .i64 a2] 23 (0, 0)) ∧ W.heap[qa + 1]? = some (.cells #[.int .i64 b0, .int .i64 b1, .int .i64 b2] 23 (0, 0)) ∧ W.heap[qa + 1 + 1]? = some (.cells #[.int .i64 c0, .int .i64 c1, .int .i64 c2] 23 (0, 0)) ∧ Below w.heap.size w W ∧ w.heap.size ≤ W.heap.size ∧ Env W
abbrev OC (w : World) (qa : Nat) (a0 a1 a2 b0 b1 b2 c0 c1 c2 : Int) (W : World) : Prop :=
  W.cell? ⟨qa, 0, none⟩ = some (.int .i64 a0) ∧ W.cell? ⟨qa, 1, none⟩ = some (.int .i64 a1) ∧ W.cell? ⟨qa, 2, none⟩ = some (.int .i64 a2) ∧
  W.cell? ⟨qa + 1, 0, none⟩ = some (.int .i64 b0) ∧ W.cell? ⟨qa + 1, 1, none⟩ = some (.int .i64 b1) ∧ W.cell? ⟨qa + 1, 2, none⟩ = some (.int .i64 b2) ∧
  W.cell? ⟨qa + 1 + 1, 0, none⟩ = some (.int .i64 c0) ∧ W.cell? ⟨qa + 1 + 1, 1, none⟩ = some (.int .i64 c1) ∧ W.cell? ⟨qa + 1 + 1, 2, none⟩ = some (.int .i64 c2) ∧
  OB w qa a0 a1 a2 b0 b1 b2 c0 c1 c2 W
theorem OB.full {w W : World} {qa : Nat} {a0 a1 a2 b0 b1 b2 c0 c1 c2 : Int} (h : OB w qa a0 a1 a2 b0 b1 b2 c0 c1 c2 W) : OC w qa a0 a1 a2 b0 b1 b2 c0 c1 c2 W :=
  ⟨(blk_cell h.1 0).trans rfl, (blk_cell h.1 1).trans rfl, (blk_cell h.1 2).trans rfl, (blk_cell h.2.1 0).trans rfl, (blk_cell h.2.1 1).trans rfl, (blk_cell h.2.1 2).trans rfl, (blk_cell h.2.2.1 0).trans rfl, (blk_cell h.2.2.1 1).trans rfl, (blk_cell h.2.2.1 2).trans rfl, h⟩
theorem OB.keep {w W W' : World} {qa : Nat} {a0 a1 a2 b0 b1 b2 c0 c1 c2 : Int} (h : OB w qa a0 a1 a2 b0 b1 b2 c0 c1 c2 W) (hb : Below W.heap.size W W') : OB w qa a0 a1 a2 b0 b1 b2 c0 c1 c2 W' :=
  ⟨blk_below h.1 hb, blk_below h.2.1 hb, blk_below h.2.2.1 hb, h.2.2.2.1.trans (hb.mono h.2.2.2.2.1), Nat.le_trans h.2.2.2.2.1 hb.size, h.2.2.2.2.2.below hb⟩
theorem OC.keep {w W W' : World} {qa : Nat} {a0 a1 a2 b0 b1 b2 c0 c1 c2 : Int} (h : OC w qa a0 a1 a2 b0 b1 b2 c0 c1 c2 W) (hb : Below W.heap.size W W') : OC w qa a0 a1 a2 b0 b1 b2 c0 c1 c2 W' := (h.2.2.2.2.2.2.2.2.2.keep hb).full

set_option maxHeartbeats 8000000 in
set_option maxRecDepth 100000 in
theorem order_walk (a0 a1 a2 b0 b1 b2 c0 c1 c2 : Int) (w : World) (hE : Env w) :
    Calls Tryd.prog 10 #[.agg #[.int .i64 a0, .int .i64 a1, .int .i64 a2], .agg #[.int .i64 b0, .int .i64 b1, .int .i64 b2], .agg #[.int .i64 c0, .int .i64 c1, .int .i64 c2]] w fun e w' => e = .returned (.bool true) ∧ Below w.heap.size w w' := by
  have Cab := Aside0.mk (fun w => compare_any a0 a1 a2 b0 b1 b2 w)
  have Cbc := Aside0.mk (fun w => compare_any b0 b1 b2 c0 c1 c2 w)
  have Cac := Aside0.mk (fun w => compare_any a0 a1 a2 c0 c1 c2 w)
  have z1 := cmpZ_zero a0 a1 a2 b0 b1 b2
  have z2 := cmpZ_le a0 a1 a2 b0 b1 b2 c0 c1 c2
  have z3 := cmpZ_eqs a0 a1 a2 b0 b1 b2 c0 c1 c2
  generalize cmpZ a0 a1 a2 b0 b1 b2 = x at Cab z1 z2 z3
  generalize cmpZ b0 b1 b2 c0 c1 c2 = y at Cbc z2 z3
  generalize cmpZ a0 a1 a2 c0 c1 c2 = z at Cac z2 z3
  have hI : OB w w.heap.size a0 a1 a2 b0 b1 b2 c0 c1 c2 (((w.alloc (.cells #[.int .i64 a0, .int .i64 a1, .int .i64 a2] 23)).alloc (.cells #[.int .i64 b0, .int .i64 b1, .int .i64 b2] 23)).alloc (.cells #[.int .i64 c0, .int .i64 c1, .int .i64 c2] 23)) := by
    have hB := below_three w (.cells #[.int .i64 a0, .int .i64 a1, .int .i64 a2] 23) (.cells #[.int .i64 b0, .int .i64 b1, .int .i64 b2] 23) (.cells #[.int .i64 c0, .int .i64 c1, .int .i64 c2] 23)
    refine ⟨blk_alloc (blk_alloc (blk_new w _) _) _, ?_, ?_, hB, hB.size, hE.below hB⟩
    · have := blk_alloc (blk_new (w.alloc (.cells #[.int .i64 a0, .int .i64 a1, .int .i64 a2] 23)) (.cells #[.int .i64 b0, .int .i64 b1, .int .i64 b2] 23)) (.cells #[.int .i64 c0, .int .i64 c1, .int .i64 c2] 23)
      rw [World.size_alloc] at this
      exact this
    · have := blk_new ((w.alloc (.cells #[.int .i64 a0, .int .i64 a1, .int .i64 a2] 23)).alloc (.cells #[.int .i64 b0, .int .i64 b1, .int .i64 b2] 23)) (.cells #[.int .i64 c0, .int .i64 c1, .int .i64 c2] 23)
      rw [World.size_alloc, World.size_alloc] at this
      exact this
  obtain ⟨qa, hqa⟩ : ∃ q, w.heap.size = q := ⟨_, rfl⟩
  replace hI : OB w qa a0 a1 a2 b0 b1 b2 c0 c1 c2 _ := hqa ▸ hI
  replace hI := Aside0.mk hI
  replace z1 := Aside0.mk z1
  replace z2 := Aside0.mk z2
  replace z3 := Aside0.mk z3
  clear hE
  replace hqa := Aside0.mk hqa
  go_enter Tryd.func10, Tryd.ntmps10
  go_upto_region 1 with fail
  rw [hqa.out] at ⊢
  generalize (((w.alloc (.cells #[.int .i64 a0, .int .i64 a1, .int .i64 a2] 23)).alloc (.cells #[.int .i64 b0, .int .i64 b1, .int .i64 b2] 23)).alloc (.cells #[.int .i64 c0, .int .i64 c1, .int .i64 c2] 23)) = W0 at hI ⊢
  have hT : OC w qa a0 a1 a2 b0 b1 b2 c0 c1 c2 W0.drew := hI.out.full.keep (Below.refl _ _).drew
  clear hI
  go_region_held3 (fun W => W.cell? ⟨qa, 0, none⟩ = some (.int .i64 a0) ∧ W.cell? ⟨qa, 1, none⟩ = some (.int .i64 a1) ∧ W.cell? ⟨qa, 2, none⟩ = some (.int .i64 a2) ∧ W.cell? ⟨qa + 1, 0, none⟩ = some (.int .i64 b0) ∧ W.cell? ⟨qa + 1, 1, none⟩ = some (.int .i64 b1) ∧ W.cell? ⟨qa + 1, 2, none⟩ = some (.int .i64 b2) ∧ W.cell? ⟨qa + 1 + 1, 0, none⟩ = some (.int .i64 c0) ∧ W.cell? ⟨qa + 1 + 1, 1, none⟩ = some (.int .i64 c1) ∧ W.cell? ⟨qa + 1 + 1, 2, none⟩ = some (.int .i64 c2) ∧ OB w qa a0 a1 a2 b0 b1 b2 c0 c1 c2 W) (assumption) (first | (go_at_call 34; (with_reducible show Calls Tryd.prog 34 #[.agg #[.int .i64 a0, _, _], .agg #[.int .i64 b0, _, _]] _ _); refine (Cab.out _).mono ?_; rintro e w9 ⟨rfl, hb9⟩; have hT9 := OC.keep (by assumption : OC w qa a0 a1 a2 b0 b1 b2 c0 c1 c2 _) hb9; clear hb9) | (go_at_call 34; (with_reducible show Calls Tryd.prog 34 #[.agg #[.int .i64 b0, _, _], .agg #[.int .i64 c0, _, _]] _ _); refine (Cbc.out _).mono ?_; rintro e w9 ⟨rfl, hb9⟩; have hT9 := OC.keep (by assumption : OC w qa a0 a1 a2 b0 b1 b2 c0 c1 c2 _) hb9; clear hb9) | (go_at_call 34; (with_reducible show Calls Tryd.prog 34 #[.agg #[.int .i64 a0, _, _], .agg #[.int .i64 c0, _, _]] _ _); refine (Cac.out _).mono ?_; rintro e w9 ⟨rfl, hb9⟩; have hT9 := OC.keep (by assumption : OC w qa a0 a1 a2 b0 b1 b2 c0 c1 c2 _) hb9; clear hb9))
  have hF := (‹OC w qa a0 a1 a2 b0 b1 b2 c0 c1 c2 _›)
  have f0 := hF.1
  have f1 := hF.2.1
  have f2 := hF.2.2.1
  have f3 := hF.2.2.2.1
  have f4 := hF.2.2.2.2.1
  have f5 := hF.2.2.2.2.2.1
  have hO := Aside0.mk hF.2.2.2.2.2.2.2.2.2
  clear hT hF
  rcases (by omega : x < 0 ∨ x = 0 ∨ 0 < x) with hx | hx | hx
  · have he : eqB a0 a1 a2 b0 b1 b2 = false := by
      cases h : eqB a0 a1 a2 b0 b1 b2 with
      | false => rfl
      | true => have := z1.out.2 h; omega
    have hx0 : (x == 0) = false := beq_eq_false_iff_ne.2 (by omega)
    have hx1 : x ≤ 0 := by omega
    by_cases hy : y ≤ 0
    · have hz : z ≤ 0 := z2.out hx1 hy
      clear hx
      go_wp2_with (go_at_call 25; refine (awake02_walk _ hO.out.2.2.2.2.2).mono ?_; rintro e w10 ⟨rfl, hb10⟩; replace hb10 := Aside0.mk hb10)
      go_ret
      exact ⟨rfl, hO.out.2.2.2.1.trans (hb10.out.mono hO.out.2.2.2.2.1)⟩
    · clear hx
      go_wp2_with (go_at_call 25; refine (awake02_walk _ hO.out.2.2.2.2.2).mono ?_; rintro e w10 ⟨rfl, hb10⟩; replace hb10 := Aside0.mk hb10)
      go_ret
      exact ⟨rfl, hO.out.2.2.2.1.trans (hb10.out.mono hO.out.2.2.2.2.1)⟩
  · subst hx
    have he : eqB a0 a1 a2 b0 b1 b2 = true := z1.out.1 rfl
    have hz := z3.out rfl
    subst hz
    by_cases hy : z ≤ 0
    · go_wp2_with (go_at_call 25; refine (awake02_walk _ hO.out.2.2.2.2.2).mono ?_; rintro e w10 ⟨rfl, hb10⟩; replace hb10 := Aside0.mk hb10)
      go_ret
      exact ⟨rfl, hO.out.2.2.2.1.trans (hb10.out.mono hO.out.2.2.2.2.1)⟩
    · go_wp2_with (go_at_call 25; refine (awake02_walk _ hO.out.2.2.2.2.2).mono ?_; rintro e w10 ⟨rfl, hb10⟩; replace hb10 := Aside0.mk hb10)
      go_ret
      exact ⟨rfl, hO.out.2.2.2.1.trans (hb10.out.mono hO.out.2.2.2.2.1)⟩
  · have he : eqB a0 a1 a2 b0 b1 b2 = false := by
      cases h : eqB a0 a1 a2 b0 b1 b2 with
      | false => rfl
      | true => have := z1.out.2 h; omega
    have hx0 : (x == 0) = false := beq_eq_false_iff_ne.2 (by omega)
    have hx1 : ¬ x ≤ 0 := by omega
    clear hx
    go_wp2_with (go_at_call 25; refine (awake02_walk _ hO.out.2.2.2.2.2).mono ?_; rintro e w10 ⟨rfl, hb10⟩; replace hb10 := Aside0.mk hb10)
    go_ret
    exact ⟨rfl, hO.out.2.2.2.1.trans (hb10.out.mono hO.out.2.2.2.2.1)⟩
end Go.Proofs.YtfgnpplnjgjjkaaDoor.T
