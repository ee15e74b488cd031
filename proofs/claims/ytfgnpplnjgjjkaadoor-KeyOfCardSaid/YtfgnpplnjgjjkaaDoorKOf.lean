/- The walks that the law KeyOf comes to: the document's terms, may they be, the key of terms. -/
import Derived.Test.YtfgnpplnjgjjkaaDoorKFine
import Derived.Test.YtfgnpplnjgjjkaaDoorKAwake
namespace Go.Proofs.YtfgnpplnjgjjkaaDoor.K
open Go.RowKit Go.Proofs.YtfgnpplnjgjjkaaDoorW.PrintWords

def bi (b : Bool) : Int := if b then 1 else 0

theorem ixT0 (v0 v1 v2 : Bool) (n0 n1 n2 : Int) (w : World) : (Instr.index 34 (.agg #[.bool v0, .int .i64 n0, .bool v1, .int .i64 n1, .bool v2, .int .i64 n2]) (.int .i64 0)).run Tryd.prog w = .ok (.agg #[.bool v0, .int .i64 n0]) w := by kernel_rfl
theorem ixT1 (v0 v1 v2 : Bool) (n0 n1 n2 : Int) (w : World) : (Instr.index 34 (.agg #[.bool v0, .int .i64 n0, .bool v1, .int .i64 n1, .bool v2, .int .i64 n2]) (.int .i64 1)).run Tryd.prog w = .ok (.agg #[.bool v1, .int .i64 n1]) w := by kernel_rfl
theorem ixT2 (v0 v1 v2 : Bool) (n0 n1 n2 : Int) (w : World) : (Instr.index 34 (.agg #[.bool v0, .int .i64 n0, .bool v1, .int .i64 n1, .bool v2, .int .i64 n2]) (.int .i64 2)).run Tryd.prog w = .ok (.agg #[.bool v2, .int .i64 n2]) w := by kernel_rfl
attribute [local go_sem high] ixT0 ixT1 ixT2

/-- What stands while the terms are turned: the terms' box, the result's, the rows's. -/
def TI (w : World) (rb ob : Nat) (cs zs : Array Value) (T : TypeId) (W : World) : Prop := W.heap[rb]? = some (.cells zs T (0, 0)) ∧ W.heap[ob]? = some (.cells cs T (0, 0)) ∧ Below w.heap.size w W ∧ w.heap.size ≤ W.heap.size
theorem TI.keep {w W W' : World} {rb ob : Nat} {cs zs : Array Value} {T : TypeId} (h : TI w rb ob cs zs T W) (hb : Below W.heap.size W W') : TI w rb ob cs zs T W' :=
  ⟨blk_below h.1 hb, blk_below h.2.1 hb, h.2.2.1.trans (hb.mono h.2.2.2), Nat.le_trans h.2.2.2 hb.size⟩
theorem TI.set {w W : World} {rb ob : Nat} {cs cs' zs : Array Value} {T : TypeId} (h : TI w rb ob cs zs T W) (h1 : w.heap.size ≤ ob) (n1 : rb ≠ ob) (j : Nat) (x : Value) (he : cs.setIfInBounds j x = cs') : TI w rb ob cs' zs T (W.setCell ⟨ob, j, none⟩ x) := by
  have hB := h.2.2.1.setCell (p := ⟨ob, j, none⟩) h1 x
  exact ⟨blk_far h.1 n1 _, blk_put h.2.1 j _ he, hB, hB.size⟩

set_option maxHeartbeats 4000000 in
set_option maxRecDepth 100000 in
theorem ref_walk (v0 v1 v2 : Bool) (n0 n1 n2 : Int) (w : World) : Calls Tryd.prog 38 #[.agg #[.bool v0, .int .i64 n0, .bool v1, .int .i64 n1, .bool v2, .int .i64 n2]] w fun e w' => e = .returned (.agg #[.int .i64 (bi v0), .int .i64 n0, .int .i64 (bi v1), .int .i64 n1, .int .i64 (bi v2), .int .i64 n2]) ∧ Below w.heap.size w w' := by
  have hI : TI w (w.heap.size + 1) (w.heap.size + 1 + 1) #[.int .i64 0, .int .i64 0, .int .i64 0, .int .i64 0, .int .i64 0, .int .i64 0] #[.int .i64 0, .int .i64 0, .int .i64 0, .int .i64 0, .int .i64 0, .int .i64 0] 57 (((w.alloc (.cells #[.bool v0, .int .i64 n0, .bool v1, .int .i64 n1, .bool v2, .int .i64 n2] 34)).alloc (.cells #[.int .i64 0, .int .i64 0, .int .i64 0, .int .i64 0, .int .i64 0, .int .i64 0] 57)).alloc (.cells #[.int .i64 0, .int .i64 0, .int .i64 0, .int .i64 0, .int .i64 0, .int .i64 0] 57)) := by
    have hB := (below_two w (.cells #[.bool v0, .int .i64 n0, .bool v1, .int .i64 n1, .bool v2, .int .i64 n2] 34) (.cells #[.int .i64 0, .int .i64 0, .int .i64 0, .int .i64 0, .int .i64 0, .int .i64 0] 57)).alloc (by rw [World.size_alloc, World.size_alloc]; omega) (.cells #[.int .i64 0, .int .i64 0, .int .i64 0, .int .i64 0, .int .i64 0, .int .i64 0] 57)
    refine ⟨?_, ?_, hB, hB.size⟩
    · have := blk_alloc (blk_new (w.alloc (.cells #[.bool v0, .int .i64 n0, .bool v1, .int .i64 n1, .bool v2, .int .i64 n2] 34)) (.cells #[.int .i64 0, .int .i64 0, .int .i64 0, .int .i64 0, .int .i64 0, .int .i64 0] 57)) (.cells #[.int .i64 0, .int .i64 0, .int .i64 0, .int .i64 0, .int .i64 0, .int .i64 0] 57)
      rw [World.size_alloc] at this
      exact this
    · have := blk_new ((w.alloc (.cells #[.bool v0, .int .i64 n0, .bool v1, .int .i64 n1, .bool v2, .int .i64 n2] 34)).alloc (.cells #[.int .i64 0, .int .i64 0, .int .i64 0, .int .i64 0, .int .i64 0, .int .i64 0] 57)) (.cells #[.int .i64 0, .int .i64 0, .int .i64 0, .int .i64 0, .int .i64 0, .int .i64 0] 57)
      rw [World.size_alloc, World.size_alloc] at this
      exact this
  replace hI := Aside0.mk hI
  go_enter Tryd.func38, Tryd.ntmps38
  go_wp2_with fail
  have l1 : w.heap.size ≤ w.heap.size + 1 + 1 := by omega
  have l0 : w.heap.size ≤ w.heap.size + 1 := by omega
  have hn1 : w.heap.size + 1 ≠ w.heap.size + 1 + 1 := by omega
  generalize hob : w.heap.size + 1 + 1 = ob at hI l1 hn1 ⊢
  generalize hrb : w.heap.size + 1 = rb at hI l0 hn1 hob ⊢
  generalize (((w.alloc (.cells #[.bool v0, .int .i64 n0, .bool v1, .int .i64 n1, .bool v2, .int .i64 n2] 34)).alloc (.cells #[.int .i64 0, .int .i64 0, .int .i64 0, .int .i64 0, .int .i64 0, .int .i64 0] 57)).alloc (.cells #[.int .i64 0, .int .i64 0, .int .i64 0, .int .i64 0, .int .i64 0, .int .i64 0] 57)) = W0 at hI ⊢
  obtain ⟨qb, hqb⟩ : ∃ q, w.heap.size = q := ⟨_, rfl⟩
  rw [hqb] at ⊢
  replace hqb := Aside0.mk hqb
  replace hob := Aside0.mk hob
  replace hrb := Aside0.mk hrb
  replace l0 := Aside0.mk l0
  replace l1 := Aside0.mk l1
  replace hn1 := Aside0.mk hn1
  go_loopw [7] (fun i wr => (i = .int .i64 0 ∧ TI w rb ob #[.int .i64 0, .int .i64 0, .int .i64 0, .int .i64 0, .int .i64 0, .int .i64 0] #[.int .i64 0, .int .i64 0, .int .i64 0, .int .i64 0, .int .i64 0, .int .i64 0] 57 wr) ∨ (i = .int .i64 1 ∧ TI w rb ob #[.int .i64 (bi v0), .int .i64 n0, .int .i64 0, .int .i64 0, .int .i64 0, .int .i64 0] #[.int .i64 0, .int .i64 0, .int .i64 0, .int .i64 0, .int .i64 0, .int .i64 0] 57 wr) ∨ (i = .int .i64 2 ∧ TI w rb ob #[.int .i64 (bi v0), .int .i64 n0, .int .i64 (bi v1), .int .i64 n1, .int .i64 0, .int .i64 0] #[.int .i64 0, .int .i64 0, .int .i64 0, .int .i64 0, .int .i64 0, .int .i64 0] 57 wr) ∨ (i = .int .i64 3 ∧ TI w rb ob #[.int .i64 (bi v0), .int .i64 n0, .int .i64 (bi v1), .int .i64 n1, .int .i64 (bi v2), .int .i64 n2] #[.int .i64 0, .int .i64 0, .int .i64 0, .int .i64 0, .int .i64 0, .int .i64 0] 57 wr)) (fun i _ => 3 - (intOf i).toNat)
  case atStart => exact .inl ⟨rfl, hI.out⟩
  case round =>
    clear hI
    rcases hrel with ⟨rfl, hI⟩ | ⟨rfl, hI⟩ | ⟨rfl, hI⟩ | ⟨rfl, hI⟩
    · replace hI := Aside0.mk hI
      go_upto_region 5 with fail
      have hI2 := hI.out.keep ((Below.refl wr.heap.size wr).alloc (Nat.le_refl _) (.cells #[.bool v0, .int .i64 n0] 33))
      have hN := blk_new wr (.cells #[.bool v0, .int .i64 n0] 33)
      have hne : wr.heap.size ≠ ob := by have := blk_lt hI.out.2.1; omega
      generalize wr.alloc (.cells #[.bool v0, .int .i64 n0] 33) = W2 at hI2 hN ⊢
      generalize wr.heap.size = nb at hN hne ⊢
      have x0 : W2.cell? ⟨nb, 0, none⟩ = some (.bool v0) := (blk_cell hN 0).trans rfl
      have x1 : W2.cell? ⟨nb, 1, none⟩ = some (.int .i64 n0) := (blk_cell hN 1).trans rfl
      have y0 : W2.cell? ⟨ob, 0, none⟩ = some (.int .i64 0) := (blk_cell hI2.2.1 0).trans rfl
      have y1 : W2.cell? ⟨ob, 1, none⟩ = some (.int .i64 0) := (blk_cell hI2.2.1 1).trans rfl
      have z0 := blk_frozen hI2.2.1 0
      have z1 := blk_frozen hI2.2.1 1
      clear hN hI
      cases v0
      · have hI3 := Aside0.mk (hI2.set l1.out hn1.out 1 (.int .i64 n0) (cs' := #[.int .i64 (bi false), .int .i64 n0, .int .i64 0, .int .i64 0, .int .i64 0, .int .i64 0]) rfl)
        clear hI2
        go_wp2_with fail
        go_roundw
        case rel => exact .inr (.inl ⟨rfl, hI3.out⟩)
        case measure => simp [intOf]
      · have hI3 := Aside0.mk ((hI2.set l1.out hn1.out 1 (.int .i64 n0) (cs' := #[.int .i64 0, .int .i64 n0, .int .i64 0, .int .i64 0, .int .i64 0, .int .i64 0]) rfl).set l1.out hn1.out 0 (.int .i64 1) (cs' := #[.int .i64 (bi true), .int .i64 n0, .int .i64 0, .int .i64 0, .int .i64 0, .int .i64 0]) rfl)
        clear hI2
        go_wp2_with fail
        go_roundw
        case rel => exact .inr (.inl ⟨rfl, hI3.out⟩)
        case measure => simp [intOf]
    · replace hI := Aside0.mk hI
      go_upto_region 5 with fail
      have hI2 := hI.out.keep ((Below.refl wr.heap.size wr).alloc (Nat.le_refl _) (.cells #[.bool v1, .int .i64 n1] 33))
      have hN := blk_new wr (.cells #[.bool v1, .int .i64 n1] 33)
      have hne : wr.heap.size ≠ ob := by have := blk_lt hI.out.2.1; omega
      generalize wr.alloc (.cells #[.bool v1, .int .i64 n1] 33) = W2 at hI2 hN ⊢
      generalize wr.heap.size = nb at hN hne ⊢
      have x0 : W2.cell? ⟨nb, 0, none⟩ = some (.bool v1) := (blk_cell hN 0).trans rfl
      have x1 : W2.cell? ⟨nb, 1, none⟩ = some (.int .i64 n1) := (blk_cell hN 1).trans rfl
      have y0 : W2.cell? ⟨ob, 2, none⟩ = some (.int .i64 0) := (blk_cell hI2.2.1 2).trans rfl
      have y1 : W2.cell? ⟨ob, 3, none⟩ = some (.int .i64 0) := (blk_cell hI2.2.1 3).trans rfl
      have z0 := blk_frozen hI2.2.1 2
      have z1 := blk_frozen hI2.2.1 3
      clear hN hI
      cases v1
      · have hI3 := Aside0.mk (hI2.set l1.out hn1.out 3 (.int .i64 n1) (cs' := #[.int .i64 (bi v0), .int .i64 n0, .int .i64 (bi false), .int .i64 n1, .int .i64 0, .int .i64 0]) rfl)
        clear hI2
        go_wp2_with fail
        go_roundw
        case rel => exact .inr (.inr (.inl ⟨rfl, hI3.out⟩))
        case measure => simp [intOf]
      · have hI3 := Aside0.mk ((hI2.set l1.out hn1.out 3 (.int .i64 n1) (cs' := #[.int .i64 (bi v0), .int .i64 n0, .int .i64 0, .int .i64 n1, .int .i64 0, .int .i64 0]) rfl).set l1.out hn1.out 2 (.int .i64 1) (cs' := #[.int .i64 (bi v0), .int .i64 n0, .int .i64 (bi true), .int .i64 n1, .int .i64 0, .int .i64 0]) rfl)
        clear hI2
        go_wp2_with fail
        go_roundw
        case rel => exact .inr (.inr (.inl ⟨rfl, hI3.out⟩))
        case measure => simp [intOf]
    · replace hI := Aside0.mk hI
      go_upto_region 5 with fail
      have hI2 := hI.out.keep ((Below.refl wr.heap.size wr).alloc (Nat.le_refl _) (.cells #[.bool v2, .int .i64 n2] 33))
      have hN := blk_new wr (.cells #[.bool v2, .int .i64 n2] 33)
      have hne : wr.heap.size ≠ ob := by have := blk_lt hI.out.2.1; omega
      generalize wr.alloc (.cells #[.bool v2, .int .i64 n2] 33) = W2 at hI2 hN ⊢
      generalize wr.heap.size = nb at hN hne ⊢
      have x0 : W2.cell? ⟨nb, 0, none⟩ = some (.bool v2) := (blk_cell hN 0).trans rfl
      have x1 : W2.cell? ⟨nb, 1, none⟩ = some (.int .i64 n2) := (blk_cell hN 1).trans rfl
      have y0 : W2.cell? ⟨ob, 4, none⟩ = some (.int .i64 0) := (blk_cell hI2.2.1 4).trans rfl
      have y1 : W2.cell? ⟨ob, 5, none⟩ = some (.int .i64 0) := (blk_cell hI2.2.1 5).trans rfl
      have z0 := blk_frozen hI2.2.1 4
      have z1 := blk_frozen hI2.2.1 5
      clear hN hI
      cases v2
      · have hI3 := Aside0.mk (hI2.set l1.out hn1.out 5 (.int .i64 n2) (cs' := #[.int .i64 (bi v0), .int .i64 n0, .int .i64 (bi v1), .int .i64 n1, .int .i64 (bi false), .int .i64 n2]) rfl)
        clear hI2
        go_wp2_with fail
        go_roundw
        case rel => exact .inr (.inr (.inr ⟨rfl, hI3.out⟩))
        case measure => simp [intOf]
      · have hI3 := Aside0.mk ((hI2.set l1.out hn1.out 5 (.int .i64 n2) (cs' := #[.int .i64 (bi v0), .int .i64 n0, .int .i64 (bi v1), .int .i64 n1, .int .i64 0, .int .i64 n2]) rfl).set l1.out hn1.out 4 (.int .i64 1) (cs' := #[.int .i64 (bi v0), .int .i64 n0, .int .i64 (bi v1), .int .i64 n1, .int .i64 (bi true), .int .i64 n2]) rfl)
        clear hI2
        go_wp2_with fail
        go_roundw
        case rel => exact .inr (.inr (.inr ⟨rfl, hI3.out⟩))
        case measure => simp [intOf]
    · have t0 : wr.cell? ⟨ob, 0, none⟩ = some (Value.int .i64 (bi v0)) := (blk_cell hI.2.1 0).trans rfl
      have t1 : wr.cell? ⟨ob, 1, none⟩ = some (Value.int .i64 n0) := (blk_cell hI.2.1 1).trans rfl
      have t2 : wr.cell? ⟨ob, 2, none⟩ = some (Value.int .i64 (bi v1)) := (blk_cell hI.2.1 2).trans rfl
      have t3 : wr.cell? ⟨ob, 3, none⟩ = some (Value.int .i64 n1) := (blk_cell hI.2.1 3).trans rfl
      have t4 : wr.cell? ⟨ob, 4, none⟩ = some (Value.int .i64 (bi v2)) := (blk_cell hI.2.1 4).trans rfl
      have t5 : wr.cell? ⟨ob, 5, none⟩ = some (Value.int .i64 n2) := (blk_cell hI.2.1 5).trans rfl
      have y0 : wr.cell? ⟨rb, 0, none⟩ = some (.int .i64 0) := (blk_cell hI.1 0).trans rfl
      have y1 : wr.cell? ⟨rb, 1, none⟩ = some (.int .i64 0) := (blk_cell hI.1 1).trans rfl
      have y2 : wr.cell? ⟨rb, 2, none⟩ = some (.int .i64 0) := (blk_cell hI.1 2).trans rfl
      have y3 : wr.cell? ⟨rb, 3, none⟩ = some (.int .i64 0) := (blk_cell hI.1 3).trans rfl
      have y4 : wr.cell? ⟨rb, 4, none⟩ = some (.int .i64 0) := (blk_cell hI.1 4).trans rfl
      have y5 : wr.cell? ⟨rb, 5, none⟩ = some (.int .i64 0) := (blk_cell hI.1 5).trans rfl
      have z0 := blk_frozen hI.1 0
      have z1 := blk_frozen hI.1 1
      have z2 := blk_frozen hI.1 2
      have z3 := blk_frozen hI.1 3
      have z4 := blk_frozen hI.1 4
      have z5 := blk_frozen hI.1 5
      replace hI := Aside0.mk hI
      go_wp2_with fail
      have hput := (blk_put (cs' := #[Value.int .i64 (bi v0), Value.int .i64 n0, Value.int .i64 (bi v1), Value.int .i64 n1, Value.int .i64 (bi v2), Value.int .i64 n2]) (blk_put (cs' := #[Value.int .i64 (bi v0), Value.int .i64 n0, Value.int .i64 (bi v1), Value.int .i64 n1, Value.int .i64 (bi v2), .int .i64 0]) (blk_put (cs' := #[Value.int .i64 (bi v0), Value.int .i64 n0, Value.int .i64 (bi v1), Value.int .i64 n1, .int .i64 0, .int .i64 0]) (blk_put (cs' := #[Value.int .i64 (bi v0), Value.int .i64 n0, Value.int .i64 (bi v1), .int .i64 0, .int .i64 0, .int .i64 0]) (blk_put (cs' := #[Value.int .i64 (bi v0), Value.int .i64 n0, .int .i64 0, .int .i64 0, .int .i64 0, .int .i64 0]) (blk_put (cs' := #[Value.int .i64 (bi v0), .int .i64 0, .int .i64 0, .int .i64 0, .int .i64 0, .int .i64 0]) hI.out.1 0 (Value.int .i64 (bi v0)) rfl) 1 (Value.int .i64 n0) rfl) 2 (Value.int .i64 (bi v1)) rfl) 3 (Value.int .i64 n1) rfl) 4 (Value.int .i64 (bi v2)) rfl) 5 (Value.int .i64 n2) rfl)
      have r0 := (blk_cell hput 0).trans (show _ = some (Value.int .i64 (bi v0)) from rfl)
      have r1 := (blk_cell hput 1).trans (show _ = some (Value.int .i64 n0) from rfl)
      have r2 := (blk_cell hput 2).trans (show _ = some (Value.int .i64 (bi v1)) from rfl)
      have r3 := (blk_cell hput 3).trans (show _ = some (Value.int .i64 n1) from rfl)
      have r4 := (blk_cell hput 4).trans (show _ = some (Value.int .i64 (bi v2)) from rfl)
      have r5 := (blk_cell hput 5).trans (show _ = some (Value.int .i64 n2) from rfl)
      refine bodyPost_ret (v := .agg #[.int .i64 (bi v0), .int .i64 n0, .int .i64 (bi v1), .int .i64 n1, .int .i64 (bi v2), .int .i64 n2]) (by simp [results, Tryd.results38, go_sem, r0, r1, r2, r3, r4, r5]) rfl ⟨rfl, ?_⟩
      exact ((((((hI.out.2.2.1.setCell (p := ⟨rb, 0, none⟩) l0.out _).setCell (p := ⟨rb, 1, none⟩) l0.out _).setCell (p := ⟨rb, 2, none⟩) l0.out _).setCell (p := ⟨rb, 3, none⟩) l0.out _).setCell (p := ⟨rb, 4, none⟩) l0.out _).setCell (p := ⟨rb, 5, none⟩) l0.out _)

def kt (v : Bool) (n : Int) : Int := if v then 0 else n
set_option maxHeartbeats 4000000 in
set_option maxRecDepth 100000 in
theorem of_walk (v0 v1 v2 : Bool) (n0 n1 n2 : Int) (w : World) : Calls Tryd.prog 22 #[.agg #[.bool v0, .int .i64 n0, .bool v1, .int .i64 n1, .bool v2, .int .i64 n2]] w fun e w' => e = .returned (.agg #[.int .i64 (kt v0 n0), .int .i64 (kt v1 n1), .int .i64 (kt v2 n2)]) ∧ Below w.heap.size w w' := by
  have hI : TI w (w.heap.size + 1) (w.heap.size + 1 + 1) #[.int .i64 0, .int .i64 0, .int .i64 0] #[.int .i64 0, .int .i64 0, .int .i64 0] 23 (((w.alloc (.cells #[.bool v0, .int .i64 n0, .bool v1, .int .i64 n1, .bool v2, .int .i64 n2] 34)).alloc (.cells #[.int .i64 0, .int .i64 0, .int .i64 0] 23)).alloc (.cells #[.int .i64 0, .int .i64 0, .int .i64 0] 23)) := by
    have hB := (below_two w (.cells #[.bool v0, .int .i64 n0, .bool v1, .int .i64 n1, .bool v2, .int .i64 n2] 34) (.cells #[.int .i64 0, .int .i64 0, .int .i64 0] 23)).alloc (by rw [World.size_alloc, World.size_alloc]; omega) (.cells #[.int .i64 0, .int .i64 0, .int .i64 0] 23)
    refine ⟨?_, ?_, hB, hB.size⟩
    · have := blk_alloc (blk_new (w.alloc (.cells #[.bool v0, .int .i64 n0, .bool v1, .int .i64 n1, .bool v2, .int .i64 n2] 34)) (.cells #[.int .i64 0, .int .i64 0, .int .i64 0] 23)) (.cells #[.int .i64 0, .int .i64 0, .int .i64 0] 23)
      rw [World.size_alloc] at this
      exact this
    · have := blk_new ((w.alloc (.cells #[.bool v0, .int .i64 n0, .bool v1, .int .i64 n1, .bool v2, .int .i64 n2] 34)).alloc (.cells #[.int .i64 0, .int .i64 0, .int .i64 0] 23)) (.cells #[.int .i64 0, .int .i64 0, .int .i64 0] 23)
      rw [World.size_alloc, World.size_alloc] at this
      exact this
  replace hI := Aside0.mk hI
  go_enter Tryd.func22, Tryd.ntmps22
  go_wp2_with fail
  have l1 : w.heap.size ≤ w.heap.size + 1 + 1 := by omega
  have l0 : w.heap.size ≤ w.heap.size + 1 := by omega
  have hn1 : w.heap.size + 1 ≠ w.heap.size + 1 + 1 := by omega
  generalize hob : w.heap.size + 1 + 1 = ob at hI l1 hn1 ⊢
  generalize hrb : w.heap.size + 1 = rb at hI l0 hn1 hob ⊢
  generalize (((w.alloc (.cells #[.bool v0, .int .i64 n0, .bool v1, .int .i64 n1, .bool v2, .int .i64 n2] 34)).alloc (.cells #[.int .i64 0, .int .i64 0, .int .i64 0] 23)).alloc (.cells #[.int .i64 0, .int .i64 0, .int .i64 0] 23)) = W0 at hI ⊢
  obtain ⟨qb, hqb⟩ : ∃ q, w.heap.size = q := ⟨_, rfl⟩
  rw [hqb] at ⊢
  replace hqb := Aside0.mk hqb
  replace hob := Aside0.mk hob
  replace hrb := Aside0.mk hrb
  replace l0 := Aside0.mk l0
  replace l1 := Aside0.mk l1
  replace hn1 := Aside0.mk hn1
  go_loopw [7] (fun i wr => (i = .int .i64 0 ∧ TI w rb ob #[.int .i64 0, .int .i64 0, .int .i64 0] #[.int .i64 0, .int .i64 0, .int .i64 0] 23 wr) ∨ (i = .int .i64 1 ∧ TI w rb ob #[.int .i64 (kt v0 n0), .int .i64 0, .int .i64 0] #[.int .i64 0, .int .i64 0, .int .i64 0] 23 wr) ∨ (i = .int .i64 2 ∧ TI w rb ob #[.int .i64 (kt v0 n0), .int .i64 (kt v1 n1), .int .i64 0] #[.int .i64 0, .int .i64 0, .int .i64 0] 23 wr) ∨ (i = .int .i64 3 ∧ TI w rb ob #[.int .i64 (kt v0 n0), .int .i64 (kt v1 n1), .int .i64 (kt v2 n2)] #[.int .i64 0, .int .i64 0, .int .i64 0] 23 wr)) (fun i _ => 3 - (intOf i).toNat)
  case atStart => exact .inl ⟨rfl, hI.out⟩
  case round =>
    clear hI
    rcases hrel with ⟨rfl, hI⟩ | ⟨rfl, hI⟩ | ⟨rfl, hI⟩ | ⟨rfl, hI⟩
    · replace hI := Aside0.mk hI
      go_upto_region 5 with fail
      have hI2 := hI.out.keep ((Below.refl wr.heap.size wr).alloc (Nat.le_refl _) (.cells #[.bool v0, .int .i64 n0] 33))
      have hN := blk_new wr (.cells #[.bool v0, .int .i64 n0] 33)
      generalize wr.alloc (.cells #[.bool v0, .int .i64 n0] 33) = W2 at hI2 hN ⊢
      generalize wr.heap.size = nb at hN ⊢
      have x0 : W2.cell? ⟨nb, 0, none⟩ = some (.bool v0) := (blk_cell hN 0).trans rfl
      have x1 : W2.cell? ⟨nb, 1, none⟩ = some (.int .i64 n0) := (blk_cell hN 1).trans rfl
      have y0 : W2.cell? ⟨ob, 0, none⟩ = some (.int .i64 0) := (blk_cell hI2.2.1 0).trans rfl
      have z0 := blk_frozen hI2.2.1 0
      clear hN hI
      cases v0
      · have hI3 := Aside0.mk (hI2.set l1.out hn1.out 0 (.int .i64 n0) (cs' := #[.int .i64 (kt false n0), .int .i64 0, .int .i64 0]) rfl)
        clear hI2
        go_wp2_with fail
        go_roundw
        case rel => exact .inr (.inl ⟨rfl, hI3.out⟩)
        case measure => simp [intOf]
      · have hI3 := Aside0.mk (show TI w rb ob #[.int .i64 (kt true n0), .int .i64 0, .int .i64 0] #[.int .i64 0, .int .i64 0, .int .i64 0] 23 W2 from hI2)
        clear hI2
        go_wp2_with fail
        go_roundw
        case rel => exact .inr (.inl ⟨rfl, hI3.out⟩)
        case measure => simp [intOf]
    · replace hI := Aside0.mk hI
      go_upto_region 5 with fail
      have hI2 := hI.out.keep ((Below.refl wr.heap.size wr).alloc (Nat.le_refl _) (.cells #[.bool v1, .int .i64 n1] 33))
      have hN := blk_new wr (.cells #[.bool v1, .int .i64 n1] 33)
      generalize wr.alloc (.cells #[.bool v1, .int .i64 n1] 33) = W2 at hI2 hN ⊢
      generalize wr.heap.size = nb at hN ⊢
      have x0 : W2.cell? ⟨nb, 0, none⟩ = some (.bool v1) := (blk_cell hN 0).trans rfl
      have x1 : W2.cell? ⟨nb, 1, none⟩ = some (.int .i64 n1) := (blk_cell hN 1).trans rfl
      have y0 : W2.cell? ⟨ob, 1, none⟩ = some (.int .i64 0) := (blk_cell hI2.2.1 1).trans rfl
      have z0 := blk_frozen hI2.2.1 1
      clear hN hI
      cases v1
      · have hI3 := Aside0.mk (hI2.set l1.out hn1.out 1 (.int .i64 n1) (cs' := #[.int .i64 (kt v0 n0), .int .i64 (kt false n1), .int .i64 0]) rfl)
        clear hI2
        go_wp2_with fail
        go_roundw
        case rel => exact .inr (.inr (.inl ⟨rfl, hI3.out⟩))
        case measure => simp [intOf]
      · have hI3 := Aside0.mk (show TI w rb ob #[.int .i64 (kt v0 n0), .int .i64 (kt true n1), .int .i64 0] #[.int .i64 0, .int .i64 0, .int .i64 0] 23 W2 from hI2)
        clear hI2
        go_wp2_with fail
        go_roundw
        case rel => exact .inr (.inr (.inl ⟨rfl, hI3.out⟩))
        case measure => simp [intOf]
    · replace hI := Aside0.mk hI
      go_upto_region 5 with fail
      have hI2 := hI.out.keep ((Below.refl wr.heap.size wr).alloc (Nat.le_refl _) (.cells #[.bool v2, .int .i64 n2] 33))
      have hN := blk_new wr (.cells #[.bool v2, .int .i64 n2] 33)
      generalize wr.alloc (.cells #[.bool v2, .int .i64 n2] 33) = W2 at hI2 hN ⊢
      generalize wr.heap.size = nb at hN ⊢
      have x0 : W2.cell? ⟨nb, 0, none⟩ = some (.bool v2) := (blk_cell hN 0).trans rfl
      have x1 : W2.cell? ⟨nb, 1, none⟩ = some (.int .i64 n2) := (blk_cell hN 1).trans rfl
      have y0 : W2.cell? ⟨ob, 2, none⟩ = some (.int .i64 0) := (blk_cell hI2.2.1 2).trans rfl
      have z0 := blk_frozen hI2.2.1 2
      clear hN hI
      cases v2
      · have hI3 := Aside0.mk (hI2.set l1.out hn1.out 2 (.int .i64 n2) (cs' := #[.int .i64 (kt v0 n0), .int .i64 (kt v1 n1), .int .i64 (kt false n2)]) rfl)
        clear hI2
        go_wp2_with fail
        go_roundw
        case rel => exact .inr (.inr (.inr ⟨rfl, hI3.out⟩))
        case measure => simp [intOf]
      · have hI3 := Aside0.mk (show TI w rb ob #[.int .i64 (kt v0 n0), .int .i64 (kt v1 n1), .int .i64 (kt true n2)] #[.int .i64 0, .int .i64 0, .int .i64 0] 23 W2 from hI2)
        clear hI2
        go_wp2_with fail
        go_roundw
        case rel => exact .inr (.inr (.inr ⟨rfl, hI3.out⟩))
        case measure => simp [intOf]
    · have t0 : wr.cell? ⟨ob, 0, none⟩ = some (Value.int .i64 (kt v0 n0)) := (blk_cell hI.2.1 0).trans rfl
      have t1 : wr.cell? ⟨ob, 1, none⟩ = some (Value.int .i64 (kt v1 n1)) := (blk_cell hI.2.1 1).trans rfl
      have t2 : wr.cell? ⟨ob, 2, none⟩ = some (Value.int .i64 (kt v2 n2)) := (blk_cell hI.2.1 2).trans rfl
      have y0 : wr.cell? ⟨rb, 0, none⟩ = some (.int .i64 0) := (blk_cell hI.1 0).trans rfl
      have y1 : wr.cell? ⟨rb, 1, none⟩ = some (.int .i64 0) := (blk_cell hI.1 1).trans rfl
      have y2 : wr.cell? ⟨rb, 2, none⟩ = some (.int .i64 0) := (blk_cell hI.1 2).trans rfl
      have z0 := blk_frozen hI.1 0
      have z1 := blk_frozen hI.1 1
      have z2 := blk_frozen hI.1 2
      replace hI := Aside0.mk hI
      go_wp2_with fail
      have hput := (blk_put (cs' := #[Value.int .i64 (kt v0 n0), Value.int .i64 (kt v1 n1), Value.int .i64 (kt v2 n2)]) (blk_put (cs' := #[Value.int .i64 (kt v0 n0), Value.int .i64 (kt v1 n1), .int .i64 0]) (blk_put (cs' := #[Value.int .i64 (kt v0 n0), .int .i64 0, .int .i64 0]) hI.out.1 0 (Value.int .i64 (kt v0 n0)) rfl) 1 (Value.int .i64 (kt v1 n1)) rfl) 2 (Value.int .i64 (kt v2 n2)) rfl)
      have r0 := (blk_cell hput 0).trans (show _ = some (Value.int .i64 (kt v0 n0)) from rfl)
      have r1 := (blk_cell hput 1).trans (show _ = some (Value.int .i64 (kt v1 n1)) from rfl)
      have r2 := (blk_cell hput 2).trans (show _ = some (Value.int .i64 (kt v2 n2)) from rfl)
      refine bodyPost_ret (v := .agg #[.int .i64 (kt v0 n0), .int .i64 (kt v1 n1), .int .i64 (kt v2 n2)]) (by simp [results, Tryd.results22, go_sem, r0, r1, r2]) rfl ⟨rfl, ?_⟩
      exact (((hI.out.2.2.1.setCell (p := ⟨rb, 0, none⟩) l0.out _).setCell (p := ⟨rb, 1, none⟩) l0.out _).setCell (p := ⟨rb, 2, none⟩) l0.out _)
end Go.Proofs.YtfgnpplnjgjjkaaDoor.K
