/- The walk of layer 2: two triples compared. -/
import Derived.Test.YtfgnpplnjgjjkaaDoorTText
namespace Go.Proofs.YtfgnpplnjgjjkaaDoor.T
open Go.RowKit Go.Lib Go.Proofs.YtfgnpplnjgjjkaaDoorW.PrintWords Go.Proofs.YtfgnpplnjgjjkaaDoor.K

abbrev tri (a : Nat → Int) : Array Value := #[.int .i64 (a 0), .int .i64 (a 1), .int .i64 (a 2)]
def cmp3 (a b : Nat → Int) : Int := if a 0 = b 0 then (if a 1 = b 1 then compareInt (a 2) (b 2) else compareInt (a 1) (b 1)) else compareInt (a 0) (b 0)
theorem cmpInt_same (x : Int) : compareInt x x = 0 := by simp [compareInt]
theorem cmpInt_other {x y : Int} (h : x ≠ y) : compareInt x y ≠ 0 := by
  unfold compareInt
  split
  · decide
  · split
    · decide
    · omega
theorem cmp3_at (a b : Nat → Int) {k : Nat} (hk : k < 3) (he : ∀ j, j < k → a j = b j) (hn : a k ≠ b k) : cmp3 a b = compareInt (a k) (b k) := by
  obtain rfl | rfl | rfl : k = 0 ∨ k = 1 ∨ k = 2 := by omega
  · simp [cmp3, hn]
  · simp [cmp3, hn, he 0 (by omega)]
  · simp [cmp3, he 0 (by omega), he 1 (by omega)]
theorem cmp3_same (a b : Nat → Int) (he : ∀ j, j < 3 → a j = b j) : cmp3 a b = 0 := by
  simp [cmp3, he 0 (by omega), he 1 (by omega), he 2 (by omega), cmpInt_same]
theorem tri_cell (a : Nat → Int) {k : Nat} (h : k < 3) : (tri a)[k]? = some (.int .i64 (a k)) := by
  obtain rfl | rfl | rfl : k = 0 ∨ k = 1 ∨ k = 2 := by omega
  · rfl
  · rfl
  · rfl

def CB (w : World) (qa qb : Nat) (a b : Nat → Int) (W : World) : Prop := W.heap[qa]? = some (.cells (tri a) 23 (0, 0)) ∧ W.heap[qb]? = some (.cells (tri b) 23 (0, 0)) ∧ Below w.heap.size w W
set_option maxHeartbeats 2000000 in
set_option maxRecDepth 100000 in
theorem compare_walk (a b : Nat → Int) (w : World) :
    Calls Tryd.prog 34 #[.agg (tri a), .agg (tri b)] w fun e w' => e = .returned (.int .i64 (cmp3 a b)) ∧ Below w.heap.size w w' := by
  have hI : CB w w.heap.size (w.heap.size + 1) a b ((w.alloc (.cells (tri a) 23)).alloc (.cells (tri b) 23)) := by
    refine ⟨blk_alloc (blk_new w _) _, ?_, below_two _ _ _⟩
    have := blk_new (w.alloc (.cells (tri a) 23)) (.cells (tri b) 23)
    rw [World.size_alloc] at this
    exact this
  replace hI := Aside0.mk hI
  have hat := Aside0.mk (fun k hk he hn => cmp3_at a b (k := k) hk he hn)
  have hsame := Aside0.mk (cmp3_same a b)
  generalize cmp3 a b = r at hat hsame ⊢
  go_enter Tryd.func34, Tryd.ntmps34
  go_wp2_with fail
  obtain ⟨qa, hqa⟩ : ∃ q, w.heap.size = q := ⟨_, rfl⟩
  replace hI := Aside0.mk (show CB w qa (qa + 1) a b _ from hqa ▸ hI.out)
  rw [hqa] at ⊢
  generalize (w.alloc (.cells (tri a) 23)).alloc (.cells (tri b) 23) = W0 at hI ⊢
  replace hqa := Aside0.mk hqa
  go_loopw [7] (fun i wr => ∃ k : Nat, i = .int .i64 k ∧ k ≤ 3 ∧ (∀ j, j < k → a j = b j) ∧ CB w qa (qa + 1) a b wr) (fun i _ => 3 - (RowKit.intOf i).toNat)
  case atStart => exact ⟨0, rfl, by omega, fun _ h => absurd h (by omega), hI.out⟩
  case round =>
    clear hI
    obtain ⟨k, rfl, hk, hall, hI⟩ := hrel
    replace hall := Aside0.mk hall
    by_cases hlt : k < 3
    · go_upto_region 4 with fail
      have i0 : (0 : Int) ≤ (k : Int) := by omega
      have i1 : (k : Int) < 3 := by omega
      have hT : wr.drew.cell? ⟨qa, k, none⟩ = some (.int .i64 (a k)) ∧ wr.drew.cell? ⟨qa + 1, k, none⟩ = some (.int .i64 (b k)) ∧ CB w qa (qa + 1) a b wr.drew :=
        ⟨(blk_cell hI.1 k).trans (tri_cell a hlt), (blk_cell hI.2.1 k).trans (tri_cell b hlt), hI.1, hI.2.1, hI.2.2.drew⟩
      clear hI
      by_cases hab : a k = b k
      · have hc : compareInt (a k) (b k) = 0 := by rw [hab]; exact cmpInt_same _
        replace hab := Aside0.mk hab
        have HC := Aside0.mk (fun W => Tryd.cmp_Compare_int (a k) (b k) W)
        rw [hc] at HC
        clear hc
        generalize hak : a k = ak at HC hT
        generalize hbk : b k = bk at HC hT
        replace hak := Aside0.mk hak
        replace hbk := Aside0.mk hbk
        go_region_held3 (fun W => W.cell? ⟨qa, k, none⟩ = some (.int .i64 ak) ∧ W.cell? ⟨qa + 1, k, none⟩ = some (.int .i64 bk) ∧ CB w qa (qa + 1) a b W) (assumption) ((go_at_call 46; refine (HC.out _).mono ?_; rintro e w9 ⟨rfl, rfl⟩))
        have hF := (‹wr.drew.cell? _ = _ ∧ wr.drew.cell? _ = _ ∧ CB w qa (qa + 1) a b wr.drew›).2.2
        clear hT
        replace hF := Aside0.mk hF
        go_wp2_with fail
        go_roundw
        case rel =>
          refine ⟨k + 1, by go_num, by omega, fun j hj => ?_, hF.out⟩
          by_cases e : j = k
          · subst e; exact hab.out
          · exact hall.out j (by omega)
        case measure => simp [RowKit.intOf]; omega
      · have hc : (compareInt (a k) (b k) != 0) = true := bne_iff_ne.2 (cmpInt_other hab)
        have hc0 : (compareInt (a k) (b k) == 0) = false := beq_eq_false_iff_ne.2 (cmpInt_other hab)
        have hr := Aside0.mk (hat.out k hlt hall.out hab)
        have HC := Aside0.mk (fun W => Tryd.cmp_Compare_int (a k) (b k) W)
        generalize compareInt (a k) (b k) = n at hc hc0 hr HC
        clear hab
        generalize a k = ak at HC hT
        generalize b k = bk at HC hT
        go_region_held3 (fun W => W.cell? ⟨qa, k, none⟩ = some (.int .i64 ak) ∧ W.cell? ⟨qa + 1, k, none⟩ = some (.int .i64 bk) ∧ CB w qa (qa + 1) a b W) (assumption) ((go_at_call 46; refine (HC.out _).mono ?_; rintro e w9 ⟨rfl, rfl⟩))
        have hF := (‹wr.drew.cell? _ = _ ∧ wr.drew.cell? _ = _ ∧ CB w qa (qa + 1) a b wr.drew›).2.2.2.2
        clear hT
        go_wp2_with fail
        go_ret
        exact ⟨by rw [hr.out]; rfl, hF⟩
    · obtain rfl : k = 3 := by omega
      have hF := hI.2.2
      have hr := hsame.out hall.out
      subst hr
      clear hI
      go_wp2_with fail
      go_ret
      exact ⟨rfl, hF⟩
end Go.Proofs.YtfgnpplnjgjjkaaDoor.T
