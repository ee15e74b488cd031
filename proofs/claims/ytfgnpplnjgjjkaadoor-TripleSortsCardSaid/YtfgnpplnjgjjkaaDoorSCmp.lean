/- Two triples compared: what is left behind are draws and new blocks alone. -/
import Derived.Test.YtfgnpplnjgjjkaaDoorTCmp
import Derived.Sort.Statements
namespace Go.Proofs.YtfgnpplnjgjjkaaDoor.T
open Go.RowKit Go.Lib Go.Sort Go.Proofs.YtfgnpplnjgjjkaaDoorW.PrintWords Go.Proofs.YtfgnpplnjgjjkaaDoor.K

/-- Draws and new blocks alone. -/
def Gr (a b : World) : Prop := ∃ q os, b = grow (a.drewN q) os
theorem Gr.refl (a : World) : Gr a a := ⟨0, #[], by rw [grow_empty]; rfl⟩
theorem drewN_grow (a : World) (os : Array Obj) (q : Nat) : (grow a os).drewN q = grow (a.drewN q) os := rfl
theorem Gr.trans (a b c : World) (h : Gr a b) (k : Gr b c) : Gr a c := by
  obtain ⟨q, os, rfl⟩ := h
  obtain ⟨q2, os2, rfl⟩ := k
  exact ⟨q + q2, os ++ os2, by rw [drewN_grow, grow_grow, World.drewN_drewN]⟩
theorem Gr.drew (a : World) : Gr a a.drew := ⟨1, #[], by rw [grow_empty]; rfl⟩
theorem Gr.alloc (a : World) (o : Obj) : Gr a (a.alloc o) := ⟨0, #[o], alloc_eq_grow a o⟩
theorem Gr.below {a b : World} (h : Gr a b) : Below a.heap.size a b := by
  obtain ⟨q, os, rfl⟩ := h
  exact ⟨rfl, rfl, rfl, by show a.heap.size ≤ (a.heap ++ os).size; rw [Array.size_append]; omega, fun _ hj => Sort.heap_grow_old (a.drewN q) os hj⟩

def CG (w : World) (qa qb : Nat) (a b : Nat → Int) (W : World) : Prop := W.heap[qa]? = some (.cells (tri a) 23 (0, 0)) ∧ W.heap[qb]? = some (.cells (tri b) 23 (0, 0)) ∧ Gr w W
set_option maxHeartbeats 2000000 in
set_option maxRecDepth 100000 in
theorem compare_gr (a b : Nat → Int) (w : World) :
    Calls Tryd.prog 34 #[.agg (tri a), .agg (tri b)] w fun e w' => e = .returned (.int .i64 (cmp3 a b)) ∧ Gr w w' := by
  have hI : CG w w.heap.size (w.heap.size + 1) a b ((w.alloc (.cells (tri a) 23)).alloc (.cells (tri b) 23)) := by
    refine ⟨blk_alloc (blk_new w _) _, ?_, Gr.trans _ _ _ (Gr.alloc _ _) (Gr.alloc _ _)⟩
    have := blk_new (w.alloc (.cells (tri a) 23)) (.cells (tri b) 23)
    rw [World.size_alloc] at this
    exact this
  replace hI := Aside0.mk hI
  have hat := Aside0.mk (fun k hk he hn => cmp3_at a b (k := k) hk he hn)
  have hsame := Aside0.mk (cmp3_same a b)
  generalize cmp3 a b = r at hat hsame ⊢
  go_enter Tryd.func34, Tryd.ntmps34
  go_wp2_with fail
  obtain ⟨qa, hqa⟩ : ∃ q, w.heap.size = q := ⟨_, rfl⟩
  replace hI := Aside0.mk (show CG w qa (qa + 1) a b _ from hqa ▸ hI.out)
  rw [hqa] at ⊢
  generalize (w.alloc (.cells (tri a) 23)).alloc (.cells (tri b) 23) = W0 at hI ⊢
  replace hqa := Aside0.mk hqa
  go_loopw [7] (fun i wr => ∃ k : Nat, i = .int .i64 k ∧ k ≤ 3 ∧ (∀ j, j < k → a j = b j) ∧ CG w qa (qa + 1) a b wr) (fun i _ => 3 - (RowKit.intOf i).toNat)
  case atStart => exact ⟨0, rfl, by omega, fun _ h => absurd h (by omega), hI.out⟩
  case round =>
    clear hI
    obtain ⟨k, rfl, hk, hall, hI⟩ := hrel
    replace hall := Aside0.mk hall
    by_cases hlt : k < 3
    · go_upto_region 4 with fail
      have i0 : (0 : Int) ≤ (k : Int) := by omega
      have i1 : (k : Int) < 3 := by omega
      have hT : wr.drew.cell? ⟨qa, k, none⟩ = some (.int .i64 (a k)) ∧ wr.drew.cell? ⟨qa + 1, k, none⟩ = some (.int .i64 (b k)) ∧ CG w qa (qa + 1) a b wr.drew :=
        ⟨(blk_cell hI.1 k).trans (tri_cell a hlt), (blk_cell hI.2.1 k).trans (tri_cell b hlt), hI.1, hI.2.1, Gr.trans _ _ _ hI.2.2 (Gr.drew _)⟩
      clear hI
      by_cases hab : a k = b k
      · have hc : compareInt (a k) (b k) = 0 := by rw [hab]; exact cmpInt_same _
        replace hab := Aside0.mk hab
        have HC := Aside0.mk (fun W => Tryd.cmp_Compare_int (a k) (b k) W)
        rw [hc] at HC
        clear hc
        generalize hak : a k = ak at HC hT
        generalize hbk : b k = bk at HC hT
        replace hak := Aside0.mk hak
        replace hbk := Aside0.mk hbk
        go_region_held3 (fun W => W.cell? ⟨qa, k, none⟩ = some (.int .i64 ak) ∧ W.cell? ⟨qa + 1, k, none⟩ = some (.int .i64 bk) ∧ CG w qa (qa + 1) a b W) (assumption) ((go_at_call 46; refine (HC.out _).mono ?_; rintro e w9 ⟨rfl, rfl⟩))
        have hF := (‹wr.drew.cell? _ = _ ∧ wr.drew.cell? _ = _ ∧ CG w qa (qa + 1) a b wr.drew›).2.2
        clear hT
        replace hF := Aside0.mk hF
        go_wp2_with fail
        go_roundw
        case rel =>
          refine ⟨k + 1, by go_num, by omega, fun j hj => ?_, hF.out⟩
          by_cases e : j = k
          · subst e; exact hab.out
          · exact hall.out j (by omega)
        case measure => simp [RowKit.intOf]; omega
      · have hc : (compareInt (a k) (b k) != 0) = true := bne_iff_ne.2 (cmpInt_other hab)
        have hc0 : (compareInt (a k) (b k) == 0) = false := beq_eq_false_iff_ne.2 (cmpInt_other hab)
        have hr := Aside0.mk (hat.out k hlt hall.out hab)
        have HC := Aside0.mk (fun W => Tryd.cmp_Compare_int (a k) (b k) W)
        generalize compareInt (a k) (b k) = n at hc hc0 hr HC
        clear hab
        generalize a k = ak at HC hT
        generalize b k = bk at HC hT
        go_region_held3 (fun W => W.cell? ⟨qa, k, none⟩ = some (.int .i64 ak) ∧ W.cell? ⟨qa + 1, k, none⟩ = some (.int .i64 bk) ∧ CG w qa (qa + 1) a b W) (assumption) ((go_at_call 46; refine (HC.out _).mono ?_; rintro e w9 ⟨rfl, rfl⟩))
        have hF := (‹wr.drew.cell? _ = _ ∧ wr.drew.cell? _ = _ ∧ CG w qa (qa + 1) a b wr.drew›).2.2.2.2
        clear hT
        go_wp2_with fail
        go_ret
        exact ⟨by rw [hr.out]; rfl, hF⟩
    · obtain rfl : k = 3 := by omega
      have hF := hI.2.2
      have hr := hsame.out hall.out
      subst hr
      clear hI
      go_wp2_with fail
      go_ret
      exact ⟨rfl, hF⟩
end Go.Proofs.YtfgnpplnjgjjkaaDoor.T
