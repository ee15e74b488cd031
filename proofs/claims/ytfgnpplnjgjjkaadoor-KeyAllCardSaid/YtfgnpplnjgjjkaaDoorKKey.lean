/- The walks of layer 7: the document's key of a number, and the number of a key. -/
import Derived.Test.YtfgnpplnjgjjkaaDoorKAwake
namespace Go.Proofs.YtfgnpplnjgjjkaaDoor.K
open Go.RowKit Go.Proofs.YtfgnpplnjgjjkaaDoorW.PrintWords

def kOf (t : Int) (n i : Nat) : Int := if n / 2 ^ i % 2 = 1 then t else 0

def KeyInv (w : World) (qb qx : Nat) (t0 t1 t2 a b c : Int) (W : World) : Prop :=
  W.heap[qb]? = some (.cells #[.int .i64 t0, .int .i64 t1, .int .i64 t2] 22 (0, 0)) ∧ W.heap[qx]? = some (.cells #[.int .i64 a, .int .i64 b, .int .i64 c] 22 (0, 0)) ∧ Below w.heap.size w W

set_option maxHeartbeats 2000000 in
set_option maxRecDepth 100000 in
theorem refKey_walk (t0 t1 t2 : Int) (n : Nat) (hn : n < 8) (w : World) : Calls Tryd.prog 18 #[.agg #[.int .i64 t0, .int .i64 t1, .int .i64 t2], .int .i64 n] w fun e w' => e = .returned (.agg #[.int .i64 (kOf t0 n 0), .int .i64 (kOf t1 n 1), .int .i64 (kOf t2 n 2)]) ∧ Below w.heap.size w w' := by
  go_enter Tryd.func18, Tryd.ntmps18
  go_wp2_with fail
  have hI0 : KeyInv w w.heap.size (w.heap.size + 1 + 1) t0 t1 t2 0 0 0 (((w.alloc (.cells #[.int .i64 t0, .int .i64 t1, .int .i64 t2] 22)).alloc (.cells #[.int .i64 0, .int .i64 0, .int .i64 0] 22)).alloc (.cells #[.int .i64 0, .int .i64 0, .int .i64 0] 22)) := by
    refine ⟨blk_alloc (blk_alloc (blk_new w _) _) _, ?_, (below_two w _ _).alloc (by rw [World.size_alloc, World.size_alloc]; omega) _⟩
    have := blk_new ((w.alloc (.cells #[.int .i64 t0, .int .i64 t1, .int .i64 t2] 22)).alloc (.cells #[.int .i64 0, .int .i64 0, .int .i64 0] 22)) (.cells #[.int .i64 0, .int .i64 0, .int .i64 0] 22)
    rw [World.size_alloc, World.size_alloc] at this
    exact this
  have hR0 := blk_alloc (by have := blk_new (w.alloc (.cells #[.int .i64 t0, .int .i64 t1, .int .i64 t2] 22)) (.cells #[.int .i64 0, .int .i64 0, .int .i64 0] 22); rw [World.size_alloc] at this; exact this) (.cells #[.int .i64 0, .int .i64 0, .int .i64 0] 22)
  have hI1 := Aside0.mk (And.intro hI0 hR0)
  clear hI0 hR0
  have hlo : w.heap.size ≤ w.heap.size := Nat.le_refl _
  have hne : w.heap.size ≠ w.heap.size + 1 + 1 := by omega
  have hne2 : w.heap.size + 1 ≠ w.heap.size + 1 + 1 := by omega
  have hge : w.heap.size ≤ w.heap.size + 1 + 1 := by omega
  have hgr : w.heap.size ≤ w.heap.size + 1 := by omega
  generalize hqx : w.heap.size + 1 + 1 = qx at hI1 hne hne2 hge ⊢
  generalize hqr : w.heap.size + 1 = qr at hI1 hne2 hgr hqx ⊢
  replace hge := Aside0.mk hge
  replace hgr := Aside0.mk hgr
  obtain ⟨qb, hqb⟩ : ∃ q, w.heap.size = q := ⟨_, rfl⟩
  rw [hqb] at hne ⊢
  replace hI1 := Aside0.mk (show KeyInv w qb qx t0 t1 t2 0 0 0 _ ∧ _ from hqb ▸ hI1.out)
  replace hqb := Aside0.mk hqb
  replace hqx := Aside0.mk hqx
  replace hqr := Aside0.mk hqr
  clear hlo
  go_loopw [1, 6] (fun m i wr => (i = .int .i64 0 ∧ m = .int .i64 (n : Int) ∧ KeyInv w qb qx t0 t1 t2 0 0 0 wr ∧ wr.heap[qr]? = some (.cells #[.int .i64 0, .int .i64 0, .int .i64 0] 22 (0, 0))) ∨ (i = .int .i64 1 ∧ m = .int .i64 ((n / 2 : Nat) : Int) ∧ KeyInv w qb qx t0 t1 t2 (kOf t0 n 0) 0 0 wr ∧ wr.heap[qr]? = some (.cells #[.int .i64 0, .int .i64 0, .int .i64 0] 22 (0, 0))) ∨ (i = .int .i64 2 ∧ m = .int .i64 ((n / 4 : Nat) : Int) ∧ KeyInv w qb qx t0 t1 t2 (kOf t0 n 0) (kOf t1 n 1) 0 wr ∧ wr.heap[qr]? = some (.cells #[.int .i64 0, .int .i64 0, .int .i64 0] 22 (0, 0))) ∨ (i = .int .i64 3 ∧ KeyInv w qb qx t0 t1 t2 (kOf t0 n 0) (kOf t1 n 1) (kOf t2 n 2) wr ∧ wr.heap[qr]? = some (.cells #[.int .i64 0, .int .i64 0, .int .i64 0] 22 (0, 0)))) (fun _ i _ => 3 - (intOf i).toNat)
  case atStart => exact .inl ⟨rfl, rfl, hI1.out⟩
  case round =>
    clear hI1
    rcases hrel with ⟨rfl, rfl, hI, hR⟩ | ⟨rfl, rfl, hI, hR⟩ | ⟨rfl, rfl, hI, hR⟩ | ⟨rfl, hI, hR⟩
    · have x0 : wr.cell? ⟨qb, 0, none⟩ = some (.int .i64 t0) := (blk_cell hI.1 0).trans rfl
      have y0 : wr.cell? ⟨qx, 0, none⟩ = some (.int .i64 0) := (blk_cell hI.2.1 0).trans rfl
      have z0 := blk_frozen hI.2.1 0
      by_cases hb : n % 2 = 1
      · have hbit : ((n : Int) % 2 == 1) = true := by simp; omega
        have ek : kOf t0 n 0 = t0 := by simp [kOf]; omega
        have hI2 := Aside0.mk (And.intro (show KeyInv w qb qx t0 t1 t2 (kOf t0 n 0) 0 0 (wr.setCell ⟨qx, 0, none⟩ (.int .i64 t0)) from ⟨blk_far hI.1 hne _, blk_put (cs' := #[.int .i64 (kOf t0 n 0), .int .i64 0, .int .i64 0]) hI.2.1 0 _ (by rw [ek]; rfl), hI.2.2.setCell hge.out _⟩) (blk_far hR hne2 (p := ⟨qx, 0, none⟩) (.int .i64 t0)))
        clear hI hR ek
        go_wp2_with fail
        go_roundw
        case rel => exact .inr (.inl ⟨rfl, by congr 1, hI2.out⟩)
        case measure => simp [intOf]
      · have hbit : ((n : Int) % 2 == 1) = false := by simp; omega
        have ek : kOf t0 n 0 = 0 := by simp [kOf]; omega
        have hI2 := Aside0.mk (And.intro (show KeyInv w qb qx t0 t1 t2 (kOf t0 n 0) 0 0 wr from by rw [ek]; exact hI) hR)
        clear hI hR ek
        go_wp2_with fail
        go_roundw
        case rel => exact .inr (.inl ⟨rfl, by congr 1, hI2.out⟩)
        case measure => simp [intOf]
    · have x1 : wr.cell? ⟨qb, 1, none⟩ = some (.int .i64 t1) := (blk_cell hI.1 1).trans rfl
      have y1 : wr.cell? ⟨qx, 1, none⟩ = some (.int .i64 0) := (blk_cell hI.2.1 1).trans rfl
      have z1 := blk_frozen hI.2.1 1
      by_cases hb : n / 2 % 2 = 1
      · have hbit : (((n / 2 : Nat) : Int) % 2 == 1) = true := by simp; omega
        have ek : kOf t1 n 1 = t1 := by simp [kOf]; omega
        have hI2 := Aside0.mk (And.intro (show KeyInv w qb qx t0 t1 t2 (kOf t0 n 0) (kOf t1 n 1) 0 (wr.setCell ⟨qx, 1, none⟩ (.int .i64 t1)) from ⟨blk_far hI.1 hne _, blk_put (cs' := #[.int .i64 (kOf t0 n 0), .int .i64 (kOf t1 n 1), .int .i64 0]) hI.2.1 1 _ (by rw [ek]; rfl), hI.2.2.setCell hge.out _⟩) (blk_far hR hne2 (p := ⟨qx, 1, none⟩) (.int .i64 t1)))
        clear hI hR ek
        go_wp2_with fail
        go_roundw
        case rel => exact .inr (.inr (.inl ⟨rfl, by congr 1; omega, hI2.out⟩))
        case measure => simp [intOf]
      · have hbit : (((n / 2 : Nat) : Int) % 2 == 1) = false := by simp; omega
        have ek : kOf t1 n 1 = 0 := by simp [kOf]; omega
        have hI2 := Aside0.mk (And.intro (show KeyInv w qb qx t0 t1 t2 (kOf t0 n 0) (kOf t1 n 1) 0 wr from by rw [ek]; exact hI) hR)
        clear hI hR ek
        go_wp2_with fail
        go_roundw
        case rel => exact .inr (.inr (.inl ⟨rfl, by congr 1; omega, hI2.out⟩))
        case measure => simp [intOf]
    · have x2 : wr.cell? ⟨qb, 2, none⟩ = some (.int .i64 t2) := (blk_cell hI.1 2).trans rfl
      have y2 : wr.cell? ⟨qx, 2, none⟩ = some (.int .i64 0) := (blk_cell hI.2.1 2).trans rfl
      have z2 := blk_frozen hI.2.1 2
      by_cases hb : n / 4 % 2 = 1
      · have hbit : (((n / 4 : Nat) : Int) % 2 == 1) = true := by simp; omega
        have ek : kOf t2 n 2 = t2 := by simp [kOf]; omega
        have hI2 := Aside0.mk (And.intro (show KeyInv w qb qx t0 t1 t2 (kOf t0 n 0) (kOf t1 n 1) (kOf t2 n 2) (wr.setCell ⟨qx, 2, none⟩ (.int .i64 t2)) from ⟨blk_far hI.1 hne _, blk_put (cs' := #[.int .i64 (kOf t0 n 0), .int .i64 (kOf t1 n 1), .int .i64 (kOf t2 n 2)]) hI.2.1 2 _ (by rw [ek]; rfl), hI.2.2.setCell hge.out _⟩) (blk_far hR hne2 (p := ⟨qx, 2, none⟩) (.int .i64 t2)))
        clear hI hR ek
        go_wp2_with fail
        go_roundw
        case rel => exact .inr (.inr (.inr ⟨rfl, hI2.out⟩))
        case measure => simp [intOf]
      · have hbit : (((n / 4 : Nat) : Int) % 2 == 1) = false := by simp; omega
        have ek : kOf t2 n 2 = 0 := by simp [kOf]; omega
        have hI2 := Aside0.mk (And.intro (show KeyInv w qb qx t0 t1 t2 (kOf t0 n 0) (kOf t1 n 1) (kOf t2 n 2) wr from by rw [ek]; exact hI) hR)
        clear hI hR ek
        go_wp2_with fail
        go_roundw
        case rel => exact .inr (.inr (.inr ⟨rfl, hI2.out⟩))
        case measure => simp [intOf]
    · have x0 : wr.cell? ⟨qx, 0, none⟩ = some (.int .i64 (kOf t0 n 0)) := (blk_cell hI.2.1 0).trans rfl
      have x1 : wr.cell? ⟨qx, 1, none⟩ = some (.int .i64 (kOf t1 n 1)) := (blk_cell hI.2.1 1).trans rfl
      have x2 : wr.cell? ⟨qx, 2, none⟩ = some (.int .i64 (kOf t2 n 2)) := (blk_cell hI.2.1 2).trans rfl
      have y0 : wr.cell? ⟨qr, 0, none⟩ = some (.int .i64 0) := (blk_cell hR 0).trans rfl
      have y1 : wr.cell? ⟨qr, 1, none⟩ = some (.int .i64 0) := (blk_cell hR 1).trans rfl
      have y2 : wr.cell? ⟨qr, 2, none⟩ = some (.int .i64 0) := (blk_cell hR 2).trans rfl
      have z0 := blk_frozen hR 0
      have z1 := blk_frozen hR 1
      have z2 := blk_frozen hR 2
      have hB := Aside0.mk (((hI.2.2.setCell (p := ⟨qr, 0, none⟩) hgr.out (.int .i64 (kOf t0 n 0))).setCell (p := ⟨qr, 1, none⟩) hgr.out (.int .i64 (kOf t1 n 1))).setCell (p := ⟨qr, 2, none⟩) hgr.out (.int .i64 (kOf t2 n 2)))
      have hfin := blk_put (cs' := #[.int .i64 (kOf t0 n 0), .int .i64 (kOf t1 n 1), .int .i64 (kOf t2 n 2)]) (blk_put (cs' := #[.int .i64 (kOf t0 n 0), .int .i64 (kOf t1 n 1), .int .i64 0]) (blk_put (cs' := #[.int .i64 (kOf t0 n 0), .int .i64 0, .int .i64 0]) hR 0 (.int .i64 (kOf t0 n 0)) rfl) 1 (.int .i64 (kOf t1 n 1)) rfl) 2 (.int .i64 (kOf t2 n 2)) rfl
      have r0 := (blk_cell hfin 0).trans (show _ = some (.int .i64 (kOf t0 n 0)) from rfl)
      have r1 := (blk_cell hfin 1).trans (show _ = some (.int .i64 (kOf t1 n 1)) from rfl)
      have r2 := (blk_cell hfin 2).trans (show _ = some (.int .i64 (kOf t2 n 2)) from rfl)
      clear hI hR hfin
      go_wp2_with fail
      refine bodyPost_ret (v := .agg #[.int .i64 (kOf t0 n 0), .int .i64 (kOf t1 n 1), .int .i64 (kOf t2 n 2)]) (by simp [results, Tryd.results18, go_sem, r0, r1, r2]) rfl ⟨rfl, hB.out⟩
end Go.Proofs.YtfgnpplnjgjjkaaDoor.K
