/- The walk of the law KeyAll. -/
import Derived.Test.YtfgnpplnjgjjkaaDoorKFewer
import Derived.Test.YtfgnpplnjgjjkaaDoorKKey
import Derived.Test.YtfgnpplnjgjjkaaDoorKNum
namespace Go.Proofs.YtfgnpplnjgjjkaaDoor.K
open Go.RowKit Go.Proofs.YtfgnpplnjgjjkaaDoorW.PrintWords

attribute [local go_sem high] eq23
def isK (t0 t1 t2 k0 k1 k2 : Int) (m : Nat) : Bool := kOf t0 m 0 == k0 && (kOf t1 m 1 == k1 && kOf t2 m 2 == k2)
def isR (t0 t1 t2 k0 k1 k2 : Int) (n : Nat) : Bool := (List.range n).any (isK t0 t1 t2 k0 k1 k2)
theorem isR_succ (t0 t1 t2 k0 k1 k2 : Int) (n : Nat) : isR t0 t1 t2 k0 k1 k2 (n + 1) = (isR t0 t1 t2 k0 k1 k2 n || isK t0 t1 t2 k0 k1 k2 n) := by simp [isR, List.range_succ]
theorem beq_flip (a b : Int) : (a == b) = decide (b = a) := by
  by_cases h : b = a
  · simp [h]
  · have h2 : ¬ a = b := fun e => h e.symm
    simp [h, h2]
theorem bool_eight : ∀ z0 s0 z1 s1 z2 s2 : Bool, ((z0 && (z1 && z2)) || ((s0 && (z1 && z2)) || ((z0 && (s1 && z2)) || ((s0 && (s1 && z2)) || ((z0 && (z1 && s2)) || ((s0 && (z1 && s2)) || ((z0 && (s1 && s2)) || ((s0 && (s1 && s2)) || false)))))))) = ((z0 || s0) && ((z1 || s1) && (z2 || s2))) := by decide
theorem isR_all (t0 t1 t2 k0 k1 k2 : Int) : isR t0 t1 t2 k0 k1 k2 8 = hasR t0 t1 t2 k0 k1 k2 := by
  change ((((0 : Int) == k0) && (((0 : Int) == k1) && ((0 : Int) == k2))) || ((((t0 : Int) == k0) && (((0 : Int) == k1) && ((0 : Int) == k2))) || ((((0 : Int) == k0) && (((t1 : Int) == k1) && ((0 : Int) == k2))) || ((((t0 : Int) == k0) && (((t1 : Int) == k1) && ((0 : Int) == k2))) || ((((0 : Int) == k0) && (((0 : Int) == k1) && ((t2 : Int) == k2))) || ((((t0 : Int) == k0) && (((0 : Int) == k1) && ((t2 : Int) == k2))) || ((((0 : Int) == k0) && (((t1 : Int) == k1) && ((t2 : Int) == k2))) || ((((t0 : Int) == k0) && (((t1 : Int) == k1) && ((t2 : Int) == k2))) || false)))))))) = _
  simp only [beq_flip, hasR, ok1]
  exact bool_eight _ _ _ _ _ _
theorem has_key (t0 t1 t2 : Int) (n : Nat) : hasR t0 t1 t2 (kOf t0 n 0) (kOf t1 n 1) (kOf t2 n 2) = true := by
  unfold hasR ok1 kOf
  split <;> split <;> split <;> simp
theorem number_key (t0 t1 t2 : Int) (h0 : t0 ≠ 0) (h1 : t1 ≠ 0) (h2 : t2 ≠ 0) (n : Nat) (hn : n < 8) : nb (kOf t0 n 0) 1 + nb (kOf t1 n 1) 2 + nb (kOf t2 n 2) 4 = n := by
  have hc : n = 0 ∨ n = 1 ∨ n = 2 ∨ n = 3 ∨ n = 4 ∨ n = 5 ∨ n = 6 ∨ n = 7 := by omega
  rcases hc with rfl | rfl | rfl | rfl | rfl | rfl | rfl | rfl <;> simp [nb, kOf, h0, h1, h2]
theorem kc_kOf (t0 t1 t2 : Int) (n j : Nat) (hn : n < 8) (hj : j < 3) : kc t0 t1 t2 24 (n * 3 + j) = .int .i64 (kOf (tv t0 t1 t2 j) n j) := by
  have e1 : (n * 3 + j) / 3 = n := by omega
  have e2 : (n * 3 + j) % 3 = j := by omega
  have e3 : n * 3 + j < 24 := by omega
  simp [kc, kOf, e1, e2, e3]

/-- What stands while the law looks at one key. -/
def HB (w : World) (qb g qx : Nat) (t0 t1 t2 k0 k1 k2 a b c : Int) (W : World) : Prop :=
  Boxes w qb (qb + 1) t0 t1 t2 k0 k1 k2 W ∧ W.heap[g]? = some (.cells (kcs t0 t1 t2 24) 23 (0, 0)) ∧ W.heap[qx]? = some (.cells #[.int .i64 a, .int .i64 b, .int .i64 c] 23 (0, 0)) ∧ qb + 1 < W.heap.size
abbrev HA (w : World) (qb g qx : Nat) (t0 t1 t2 k0 k1 k2 a b c : Int) (W : World) : Prop :=
  W.cell? ⟨qx, 0, none⟩ = some (.int .i64 a) ∧ W.cell? ⟨qx, 1, none⟩ = some (.int .i64 b) ∧ W.cell? ⟨qx, 2, none⟩ = some (.int .i64 c) ∧ W.cell? ⟨qb, 0, none⟩ = some (.int .i64 t0) ∧ W.cell? ⟨qb, 1, none⟩ = some (.int .i64 t1) ∧ W.cell? ⟨qb, 2, none⟩ = some (.int .i64 t2) ∧ HB w qb g qx t0 t1 t2 k0 k1 k2 a b c W
theorem HB.full {w W : World} {qb g qx : Nat} {t0 t1 t2 k0 k1 k2 a b c : Int} (h : HB w qb g qx t0 t1 t2 k0 k1 k2 a b c W) : HA w qb g qx t0 t1 t2 k0 k1 k2 a b c W :=
  ⟨(blk_cell h.2.2.1 0).trans rfl, (blk_cell h.2.2.1 1).trans rfl, (blk_cell h.2.2.1 2).trans rfl, (blk_cell h.1.1 0).trans rfl, (blk_cell h.1.1 1).trans rfl, (blk_cell h.1.1 2).trans rfl, h⟩
theorem HA.keep {w W W' : World} {qb g qx : Nat} {t0 t1 t2 k0 k1 k2 a b c : Int} (h : HA w qb g qx t0 t1 t2 k0 k1 k2 a b c W) (hb : Below W.heap.size W W') : HA w qb g qx t0 t1 t2 k0 k1 k2 a b c W' :=
  HB.full ⟨h.2.2.2.2.2.2.1.keep hb, blk_below h.2.2.2.2.2.2.2.1 hb, blk_below h.2.2.2.2.2.2.2.2.1 hb, Nat.lt_of_lt_of_le h.2.2.2.2.2.2.2.2.2 hb.size⟩

abbrev HC (w : World) (qb : Nat) (t0 t1 t2 k0 k1 k2 : Int) (W : World) : Prop :=
  W.cell? ⟨qb, 0, none⟩ = some (.int .i64 t0) ∧ W.cell? ⟨qb, 1, none⟩ = some (.int .i64 t1) ∧ W.cell? ⟨qb, 2, none⟩ = some (.int .i64 t2) ∧ W.cell? ⟨qb + 1, 0, none⟩ = some (.int .i64 k0) ∧ W.cell? ⟨qb + 1, 1, none⟩ = some (.int .i64 k1) ∧ W.cell? ⟨qb + 1, 2, none⟩ = some (.int .i64 k2) ∧ Boxes w qb (qb + 1) t0 t1 t2 k0 k1 k2 W
theorem HC.mk' {w W : World} {qb : Nat} {t0 t1 t2 k0 k1 k2 : Int} (h : Boxes w qb (qb + 1) t0 t1 t2 k0 k1 k2 W) : HC w qb t0 t1 t2 k0 k1 k2 W :=
  ⟨(blk_cell h.1 0).trans rfl, (blk_cell h.1 1).trans rfl, (blk_cell h.1 2).trans rfl, (blk_cell h.2.1 0).trans rfl, (blk_cell h.2.1 1).trans rfl, (blk_cell h.2.1 2).trans rfl, h⟩
theorem HC.keep {w W W' : World} {qb : Nat} {t0 t1 t2 k0 k1 k2 : Int} (h : HC w qb t0 t1 t2 k0 k1 k2 W) (hb : Below W.heap.size W W') : HC w qb t0 t1 t2 k0 k1 k2 W' := HC.mk' (h.2.2.2.2.2.2.keep hb)

set_option maxHeartbeats 8000000 in
set_option maxRecDepth 100000 in
theorem all_law (t0 t1 t2 k0 k1 k2 : Int) (w : World) : Calls Tryd.prog 4 #[.agg #[.int .i64 t0, .int .i64 t1, .int .i64 t2], .agg #[.int .i64 k0, .int .i64 k1, .int .i64 k2]] w fun e w' => e = .returned (.bool true) ∧ Below w.heap.size w w' := by
  obtain ⟨ri1, hr1⟩ : ∃ r, rightR 1 t0 t1 t2 = r := ⟨_, rfl⟩
  obtain ⟨ri2, hr2⟩ : ∃ r, rightR 0 k0 k1 k2 = r := ⟨_, rfl⟩
  replace hr1 := Aside0.mk hr1
  replace hr2 := Aside0.mk hr2
  go_enter Tryd.func4, Tryd.ntmps4
  go_upto_region 1 with fail
  have hA : (w.alloc (.cells #[.int .i64 t0, .int .i64 t1, .int .i64 t2] 23)).heap.size = w.heap.size + 1 := World.size_alloc _ _
  have hI : Boxes w w.heap.size (w.heap.size + 1) t0 t1 t2 k0 k1 k2 ((w.alloc (.cells #[.int .i64 t0, .int .i64 t1, .int .i64 t2] 23)).alloc (.cells #[.int .i64 k0, .int .i64 k1, .int .i64 k2] 23)) := by
    refine ⟨blk_alloc (blk_new w _) _, ?_, below_two _ _ _, by rw [World.size_alloc, hA]; omega⟩
    have := blk_new (w.alloc (.cells #[.int .i64 t0, .int .i64 t1, .int .i64 t2] 23)) (.cells #[.int .i64 k0, .int .i64 k1, .int .i64 k2] 23)
    rw [hA] at this
    exact this
  obtain ⟨qb, hqb⟩ : ∃ q, w.heap.size = q := ⟨_, rfl⟩
  have hlo : w.heap.size ≤ qb := by omega
  have hql : qb + 1 < ((w.alloc (.cells #[.int .i64 t0, .int .i64 t1, .int .i64 t2] 23)).alloc (.cells #[.int .i64 k0, .int .i64 k1, .int .i64 k2] 23)).heap.size := by rw [World.size_alloc, hA]; omega
  rw [hqb] at hI ⊢
  replace hqb := Aside0.mk hqb
  clear hA
  replace hI := Aside0.mk hI
  generalize (w.alloc (.cells #[.int .i64 t0, .int .i64 t1, .int .i64 t2] 23)).alloc (.cells #[.int .i64 k0, .int .i64 k1, .int .i64 k2] 23) = W0 at hI hql ⊢
  have x0 : W0.cell? ⟨qb, 0, none⟩ = some (.int .i64 t0) := (blk_cell hI.out.1 0).trans rfl
  have x1 : W0.cell? ⟨qb, 1, none⟩ = some (.int .i64 t1) := (blk_cell hI.out.1 1).trans rfl
  have x2 : W0.cell? ⟨qb, 2, none⟩ = some (.int .i64 t2) := (blk_cell hI.out.1 2).trans rfl
  cases ri1
  · go_wp2_with (first | (go_at_call 13; refine (right02_walk t0 t1 t2 _).mono ?_; rintro e w1 ⟨rfl, hb⟩; rw [hr1.out]; have hI1 := Aside0.mk (hI.out.keep hb); clear hb) | (go_at_call 15; refine (awake_walk _).mono ?_; rintro e w9 ⟨rfl, hb9⟩; replace hb9 := Aside0.mk hb9))
    go_ret
    exact ⟨rfl, hI1.out.2.2.1.trans (hb9.out.mono hI1.out.2.2.2)⟩
  · cases ri2
    · go_wp2_with (first | (go_at_call 13; refine (right02_walk t0 t1 t2 _).mono ?_; rintro e w1 ⟨rfl, hb⟩; rw [hr1.out]; have hI1 := hI.out.keep hb; clear x0 x1 x2 hb; have x0 : w1.cell? ⟨qb, 0, none⟩ = some (.int .i64 t0) := (blk_cell hI1.1 0).trans rfl; have x1 : w1.cell? ⟨qb, 1, none⟩ = some (.int .i64 t1) := (blk_cell hI1.1 1).trans rfl; have x2 : w1.cell? ⟨qb, 2, none⟩ = some (.int .i64 t2) := (blk_cell hI1.1 2).trans rfl; have y0 : w1.cell? ⟨qb + 1, 0, none⟩ = some (.int .i64 k0) := (blk_cell hI1.2.1 0).trans rfl; have y1 : w1.cell? ⟨qb + 1, 1, none⟩ = some (.int .i64 k1) := (blk_cell hI1.2.1 1).trans rfl; have y2 : w1.cell? ⟨qb + 1, 2, none⟩ = some (.int .i64 k2) := (blk_cell hI1.2.1 2).trans rfl;  replace hI1 := Aside0.mk hI1) | (go_at_call 14; refine (right07_walk k0 k1 k2 _).mono ?_; rintro e w2 ⟨rfl, hb⟩; rw [hr2.out]; have hI2 := Aside0.mk (hI1.out.keep hb); clear hb) | (go_at_call 15; refine (awake_walk _).mono ?_; rintro e w9 ⟨rfl, hb9⟩; replace hb9 := Aside0.mk hb9))
      go_ret
      exact ⟨rfl, hI2.out.2.2.1.trans (hb9.out.mono hI2.out.2.2.2)⟩
    · go_upto_region 7 with (first | (go_at_call 13; refine (right02_walk t0 t1 t2 _).mono ?_; rintro e w1 ⟨rfl, hb⟩; rw [hr1.out]; have hI1 := hI.out.keep hb; have hl1 := hb.size; clear x0 x1 x2 hb; have x0 : w1.cell? ⟨qb, 0, none⟩ = some (.int .i64 t0) := (blk_cell hI1.1 0).trans rfl; have x1 : w1.cell? ⟨qb, 1, none⟩ = some (.int .i64 t1) := (blk_cell hI1.1 1).trans rfl; have x2 : w1.cell? ⟨qb, 2, none⟩ = some (.int .i64 t2) := (blk_cell hI1.1 2).trans rfl; have y0 : w1.cell? ⟨qb + 1, 0, none⟩ = some (.int .i64 k0) := (blk_cell hI1.2.1 0).trans rfl; have y1 : w1.cell? ⟨qb + 1, 1, none⟩ = some (.int .i64 k1) := (blk_cell hI1.2.1 1).trans rfl; have y2 : w1.cell? ⟨qb + 1, 2, none⟩ = some (.int .i64 k2) := (blk_cell hI1.2.1 2).trans rfl;  replace hI1 := Aside0.mk hI1) | (go_at_call 14; refine (right07_walk k0 k1 k2 _).mono ?_; rintro e w2 ⟨rfl, hb⟩; rw [hr2.out]; have hI2 := hI1.out.keep hb; have hl2 := hb.size; clear x0 x1 x2 y0 y1 y2 hb; have x0 : w2.cell? ⟨qb, 0, none⟩ = some (.int .i64 t0) := (blk_cell hI2.1 0).trans rfl; have x1 : w2.cell? ⟨qb, 1, none⟩ = some (.int .i64 t1) := (blk_cell hI2.1 1).trans rfl; have x2 : w2.cell? ⟨qb, 2, none⟩ = some (.int .i64 t2) := (blk_cell hI2.1 2).trans rfl; have y0 : w2.cell? ⟨qb + 1, 0, none⟩ = some (.int .i64 k0) := (blk_cell hI2.2.1 0).trans rfl; have y1 : w2.cell? ⟨qb + 1, 1, none⟩ = some (.int .i64 k1) := (blk_cell hI2.2.1 1).trans rfl; have y2 : w2.cell? ⟨qb + 1, 2, none⟩ = some (.int .i64 k2) := (blk_cell hI2.2.1 2).trans rfl;  replace hI2 := Aside0.mk hI2) | (go_at_call 17; refine (all_walk t0 t1 t2 _).mono ?_; rintro e w3 ⟨g, rfl, hg, hb⟩; have hI3 := Aside0.mk (hI2.out.keep hb); have hl3 := hb.size; clear x0 x1 x2 y0 y1 y2 hb; replace hg := Aside0.mk hg))
      have hlw : qb + 1 < w3.heap.size := by omega
      clear hl1 hl2 hl3 hql hI hI1 hI2
      have ht0 : t0 ≠ 0 ∧ t1 ≠ 0 ∧ t2 ≠ 0 := by have := hr1.out; simp [rightR, inR] at this; omega
      replace ht0 := Aside0.mk ht0
      have hgl := Aside0.mk (blk_lt hg.out)
      go_wp2_with fail
      go_loopw [6, 25] (fun s i wr => ∃ n : Nat, i = .int .i64 n ∧ s = .bool (isR t0 t1 t2 k0 k1 k2 n) ∧ n ≤ 8 ∧ Boxes w qb (qb + 1) t0 t1 t2 k0 k1 k2 wr ∧ wr.heap[g]? = some (.cells (kcs t0 t1 t2 24) 23 (0, 0)) ∧ qb + 1 < wr.heap.size) (fun _ i _ => 8 - (intOf i).toNat)
      case atStart => exact ⟨0, rfl, rfl, by omega, hI3.out, hg.out, hlw⟩
      case round =>
        clear hI3 hlw hg hgl
        obtain ⟨n, rfl, rfl, hn, hI, hG, hlw⟩ := hrel
        by_cases hlt : n < 8
        · have c0 : wr.cell? ⟨g, n * 3, none⟩ = some (.int .i64 (kOf t0 n 0)) := (blk_cell hG _).trans ((kcs_get _ _ _ _ _ (by omega)).trans (congrArg some (kc_kOf t0 t1 t2 n 0 hlt (by omega))))
          have c1 : wr.cell? ⟨g, n * 3 + 1, none⟩ = some (.int .i64 (kOf t1 n 1)) := (blk_cell hG _).trans ((kcs_get _ _ _ _ _ (by omega)).trans (congrArg some (kc_kOf t0 t1 t2 n 1 hlt (by omega))))
          have c2 : wr.cell? ⟨g, n * 3 + 2, none⟩ = some (.int .i64 (kOf t2 n 2)) := (blk_cell hG _).trans ((kcs_get _ _ _ _ _ (by omega)).trans (congrArg some (kc_kOf t0 t1 t2 n 2 hlt (by omega))))
          replace hI := Aside0.mk hI
          replace hG := Aside0.mk hG
          go_upto_region 10 with fail
          have hT : HA w qb g wr.heap.size t0 t1 t2 k0 k1 k2 (kOf t0 n 0) (kOf t1 n 1) (kOf t2 n 2) ((wr.alloc (.cells #[.int .i64 (kOf t0 n 0), .int .i64 (kOf t1 n 1), .int .i64 (kOf t2 n 2)] 23)).drew) :=
            HB.full ⟨(hI.out.keep ((Below.refl _ _).alloc (Nat.le_refl _) _)).keep (Below.refl _ _).drew, blk_alloc hG.out _, blk_new wr _, by show qb + 1 < (wr.alloc _).heap.size; rw [World.size_alloc]; omega⟩
          have hk1 := Aside0.mk (has_key t0 t1 t2 n)
          have hk2 := Aside0.mk (number_key t0 t1 t2 ht0.out.1 ht0.out.2.1 ht0.out.2.2 n hlt)
          generalize wr.alloc (.cells #[.int .i64 (kOf t0 n 0), .int .i64 (kOf t1 n 1), .int .i64 (kOf t2 n 2)] 23) = W2 at hT ⊢
          clear hI hG c0 c1 c2
          go_region_held3 (fun W => W.cell? ⟨wr.heap.size, 0, none⟩ = some (.int .i64 (kOf t0 n 0)) ∧ W.cell? ⟨wr.heap.size, 1, none⟩ = some (.int .i64 (kOf t1 n 1)) ∧ W.cell? ⟨wr.heap.size, 2, none⟩ = some (.int .i64 (kOf t2 n 2)) ∧ W.cell? ⟨qb, 0, none⟩ = some (.int .i64 t0) ∧ W.cell? ⟨qb, 1, none⟩ = some (.int .i64 t1) ∧ W.cell? ⟨qb, 2, none⟩ = some (.int .i64 t2) ∧ HB w qb g wr.heap.size t0 t1 t2 k0 k1 k2 (kOf t0 n 0) (kOf t1 n 1) (kOf t2 n 2) W) (assumption) (first | (go_at_call 18; refine (refKey_walk t0 t1 t2 n hlt _).mono ?_; rintro e w5 ⟨rfl, hb5⟩; have hT5 := HA.keep (by assumption : HA w qb g wr.heap.size t0 t1 t2 k0 k1 k2 (kOf t0 n 0) (kOf t1 n 1) (kOf t2 n 2) _) hb5; clear hb5) | (go_at_call 16; refine (has_walk t0 t1 t2 (kOf t0 n 0) (kOf t1 n 1) (kOf t2 n 2) _).mono ?_; rintro e w5 ⟨rfl, hb5⟩; rw [hk1.out]; have hT5 := HA.keep (by assumption : HA w qb g wr.heap.size t0 t1 t2 k0 k1 k2 (kOf t0 n 0) (kOf t1 n 1) (kOf t2 n 2) _) hb5; clear hb5) | (go_at_call 19; refine (number_walk (kOf t0 n 0) (kOf t1 n 1) (kOf t2 n 2) _).mono ?_; rintro e w5 ⟨rfl, hb5⟩; rw [hk2.out]; have hT5 := HA.keep (by assumption : HA w qb g wr.heap.size t0 t1 t2 k0 k1 k2 (kOf t0 n 0) (kOf t1 n 1) (kOf t2 n 2) _) hb5; clear hb5))
          have hF := (‹HA w qb g wr.heap.size t0 t1 t2 k0 k1 k2 (kOf t0 n 0) (kOf t1 n 1) (kOf t2 n 2) _›)
          have u0 := hF.1
          have u1 := hF.2.1
          have u2 := hF.2.2.1
          have hF2 := hF.2.2.2.2.2.2
          have v0 := (HC.mk' hF2.1).2.2.2.1
          have v1 := (HC.mk' hF2.1).2.2.2.2.1
          have v2 := (HC.mk' hF2.1).2.2.2.2.2.1
          replace hF2 := Aside0.mk hF2
          have hsc := Aside0.mk (isR_succ t0 t1 t2 k0 k1 k2 n)
          clear hF
          cases hs : isR t0 t1 t2 k0 k1 k2 n
          all_goals
            replace hs := Aside0.mk hs
            go_wp2_with fail
            go_roundw
            case rel => exact ⟨n + 1, by go_num, by rw [hsc.out, hs.out]; rfl, by omega, hF2.out.1, hF2.out.2.1, hF2.out.2.2.2⟩
            case measure => simp [intOf]; omega
        · obtain rfl : n = 8 := by omega
          rw [isR_all]
          obtain ⟨hv, hhv⟩ : ∃ r, hasR t0 t1 t2 k0 k1 k2 = r := ⟨_, rfl⟩
          rw [hhv]
          replace hhv := Aside0.mk hhv
          replace hI := Aside0.mk hI
          clear hG hlw
          go_upto_region 14 with fail
          have hT : HC w qb t0 t1 t2 k0 k1 k2 wr.drew := HC.mk' (hI.out.keep (Below.refl _ _).drew)
          clear hI
          go_region_held3 (fun W => W.cell? ⟨qb, 0, none⟩ = some (.int .i64 t0) ∧ W.cell? ⟨qb, 1, none⟩ = some (.int .i64 t1) ∧ W.cell? ⟨qb, 2, none⟩ = some (.int .i64 t2) ∧ W.cell? ⟨qb + 1, 0, none⟩ = some (.int .i64 k0) ∧ W.cell? ⟨qb + 1, 1, none⟩ = some (.int .i64 k1) ∧ W.cell? ⟨qb + 1, 2, none⟩ = some (.int .i64 k2) ∧ Boxes w qb (qb + 1) t0 t1 t2 k0 k1 k2 W) (assumption) (first | (go_at_call 16; refine (has_walk t0 t1 t2 k0 k1 k2 _).mono ?_; rintro e w5 ⟨rfl, hb5⟩; rw [hhv.out]; have hT5 := HC.keep (by assumption : HC w qb t0 t1 t2 k0 k1 k2 _) hb5; clear hb5) | (go_at_call 20; refine (refHas_walk t0 t1 t2 k0 k1 k2 _).mono ?_; rintro e w5 ⟨rfl, hb5⟩; rw [hhv.out]; have hT5 := HC.keep (by assumption : HC w qb t0 t1 t2 k0 k1 k2 _) hb5; clear hb5) | (go_at_call 15; refine (awake_walk _).mono ?_; rintro e w5 ⟨rfl, hb5⟩; have hT5 := HC.keep (by assumption : HC w qb t0 t1 t2 k0 k1 k2 _) hb5; clear hb5))
          have hF := (‹HC w qb t0 t1 t2 k0 k1 k2 _›).2.2.2.2.2.2.2.2.1
          go_wp2_with fail
          go_ret
          exact ⟨by simp, hF⟩
end Go.Proofs.YtfgnpplnjgjjkaaDoor.K
