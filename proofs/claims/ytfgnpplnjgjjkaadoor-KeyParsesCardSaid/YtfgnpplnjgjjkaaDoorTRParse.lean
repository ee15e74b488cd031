/- The walk of the document's triple of a text. -/
import Derived.Test.YtfgnpplnjgjjkaaDoorTRef
import Derived.Test.YtfgnpplnjgjjkaaDoorTOrder
namespace Go.Proofs.YtfgnpplnjgjjkaaDoor.T
open Go.RowKit Go.Lib Go.Proofs.YtfgnpplnjgjjkaaDoorW.PrintWords Go.Proofs.YtfgnpplnjgjjkaaDoor.K

theorem build22z (w : World) : (Instr.build 22 #[]).run Tryd.prog w = .ok (.agg #[.int .i64 0, .int .i64 0, .int .i64 0]) w := run_build w 22 _ _ (by kernel_rfl)
theorem build22 (a b c : Int) (w : World) : (Instr.build 22 #[(0, .int .i64 a), (1, .int .i64 b), (2, .int .i64 c)]).run Tryd.prog w = .ok (.agg #[.int .i64 a, .int .i64 b, .int .i64 c]) w := run_build w 22 _ _ (by kernel_rfl)
attribute [local go_sem high] build22 build22z

abbrev no3 : Value := .tuple #[.agg #[.int .i64 0, .int .i64 0, .int .i64 0], .bool false]

set_option maxRecDepth 100000 in
theorem refParse_len (s : ByteArray) (hs : s.size ≤ 1000) (hn : (pieces s).length ≠ 3) (w : World) :
    Calls Tryd.prog 28 #[.string s] w fun e w' => e = .returned no3 ∧ Below w.heap.size w w' := by
  have HW := Aside0.mk (fun w => refWords_any s hs w)
  unfold WordsPost at HW
  obtain ⟨n, hnn⟩ : ∃ n, (pieces s).length = n := ⟨_, rfl⟩
  have hlt : n ≤ 1001 := by
    rw [← hnn, ← pieces_len]
    have := countB_le (str [32]) (by decide) s.size s (Nat.le_refl _)
    omega
  rw [hnn] at hn
  have hb : ((n : Int) != 3) = true := by simp; omega
  have hq := Aside0.mk (blk_new w (.cells zero3 22))
  replace hnn := Aside0.mk hnn
  clear hn
  go_enter Tryd.func28, Tryd.ntmps28
  go_wp2_with (go_at_call 43; refine (HW.out _).mono ?_; rintro e w1 ⟨v, rfl, hR, hbb⟩; obtain ⟨A, c, rfl⟩ := Kd.R_slice hR; rw [hnn.out]; have hk3 := blk_below hq.out hbb; have y0 : w1.cell? ⟨w.heap.size, 0, none⟩ = some (.int .i64 0) := (blk_cell hk3 0).trans rfl; have y1 : w1.cell? ⟨w.heap.size, 1, none⟩ = some (.int .i64 0) := (blk_cell hk3 1).trans rfl; have y2 : w1.cell? ⟨w.heap.size, 2, none⟩ = some (.int .i64 0) := (blk_cell hk3 2).trans rfl; have z0 := blk_frozen hk3 0; have z1 := blk_frozen hk3 1; have z2 := blk_frozen hk3 2; have hB3 := ((Below.refl w.heap.size w).alloc (Nat.le_refl _) (.cells zero3 22)).trans (hbb.mono (by rw [World.size_alloc]; omega)); replace hB3 := Aside0.mk hB3; replace hk3 := Aside0.mk hk3; clear hR hbb)
  have hput := blk_put (cs' := zero3) (blk_put (cs' := zero3) (blk_put (cs' := zero3) hk3.out 0 (.int .i64 0) rfl) 1 (.int .i64 0) rfl) 2 (.int .i64 0) rfl
  have r0 := (blk_cell hput 0).trans (show _ = some (Value.int .i64 0) from rfl)
  have r1 := (blk_cell hput 1).trans (show _ = some (Value.int .i64 0) from rfl)
  have r2 := (blk_cell hput 2).trans (show _ = some (Value.int .i64 0) from rfl)
  refine bodyPost_ret (v := no3) (by simp [results, Tryd.results28, go_sem, r0, r1, r2]) rfl ⟨rfl, ?_⟩
  exact (((hB3.out.setCell (p := ⟨w.heap.size, 0, none⟩) (Nat.le_refl _) _).setCell (p := ⟨w.heap.size, 1, none⟩) (Nat.le_refl _) _).setCell (p := ⟨w.heap.size, 2, none⟩) (Nat.le_refl _) _)

/-- What stands while the numbers are read: the words, and what was there. -/
abbrev RC (g : Nat) (x y z : ByteArray) (w1 W : World) : Prop :=
  W.cell? ⟨g, 0, none⟩ = some (.string x) ∧ W.cell? ⟨g, 1, none⟩ = some (.string y) ∧ W.cell? ⟨g, 2, none⟩ = some (.string z) ∧ Below w1.heap.size w1 W
/-- The new triple's block, not yet filled. -/
def NewB (w1 : World) (tb : Nat) (W : World) : Prop := w1.heap.size ≤ tb ∧ W.heap[tb]? = some (.cells zero3 22 (0, 0))
theorem NewB.new {w1 W : World} (h : Below w1.heap.size w1 W) : NewB w1 W.heap.size (W.alloc (.cells zero3 22)) := ⟨h.size, blk_new _ _⟩
theorem NewB.newd (w1 : World) : NewB w1 w1.heap.size ((w1.alloc (.cells zero3 22)).drew) := ⟨Nat.le_refl _, blk_new w1 _⟩
theorem NewB.keep {w1 W W' : World} {tb : Nat} (h : NewB w1 tb W) (hb : Below W.heap.size W W') : NewB w1 tb W' := ⟨h.1, blk_below h.2 hb⟩
theorem RC.of {g : Nat} {x y z : ByteArray} {w1 W : World} (h : RC g x y z w1 w1) (hb : Below w1.heap.size w1 W) : RC g x y z w1 W :=
  ⟨(hb.cell (World.block_lt_of_cell? _ _ h.1)).trans h.1, (hb.cell (World.block_lt_of_cell? _ _ h.2.1)).trans h.2.1, (hb.cell (World.block_lt_of_cell? _ _ h.2.2.1)).trans h.2.2.1, hb⟩
theorem RC.al {g : Nat} {x y z : ByteArray} {w1 W : World} (h0 : RC g x y z w1 w1) (h : RC g x y z w1 W) (o : Obj) : RC g x y z w1 (W.alloc o) := h0.of (h.2.2.2.alloc h.2.2.2.size o)
theorem RC.ald {g : Nat} {x y z : ByteArray} {w1 : World} (h0 : RC g x y z w1 w1) (o : Obj) : RC g x y z w1 ((w1.alloc o).drew) := h0.of ((Below.refl _ _).alloc (Nat.le_refl _) o).drew
theorem RC.keep {g : Nat} {x y z : ByteArray} {w1 W W' : World} (h0 : RC g x y z w1 w1) (h : RC g x y z w1 W) (hb : Below W.heap.size W W') : RC g x y z w1 W' := h0.of (h.2.2.2.trans (hb.mono h.2.2.2.size))
theorem RC.put {g : Nat} {x y z : ByteArray} {w1 W : World} (h0 : RC g x y z w1 w1) {tb : Nat} (h : RC g x y z w1 W) (hn : NewB w1 tb W) (u v t : Value) : RC g x y z w1 (((W.setCell ⟨tb, 0, none⟩ u).setCell ⟨tb, 1, none⟩ v).setCell ⟨tb, 2, none⟩ t) :=
  h0.of (((h.2.2.2.setCell (p := ⟨tb, 0, none⟩) hn.1 u).setCell (p := ⟨tb, 1, none⟩) hn.1 v).setCell (p := ⟨tb, 2, none⟩) hn.1 t)
theorem newB_al {g : Nat} {x y z : ByteArray} {w1 W W' : World} (hb : Below (W.alloc (.cells #[.int .i64 0, .int .i64 0, .int .i64 0] 22)).heap.size (W.alloc (.cells #[.int .i64 0, .int .i64 0, .int .i64 0] 22)) W') (h : RC g x y z w1 W) : NewB w1 W.heap.size W' := (NewB.new h.2.2.2).keep hb
theorem newB_ad {w1 W' : World} (hb : Below ((w1.alloc (.cells #[.int .i64 0, .int .i64 0, .int .i64 0] 22)).drew).heap.size ((w1.alloc (.cells #[.int .i64 0, .int .i64 0, .int .i64 0] 22)).drew) W') : NewB w1 w1.heap.size W' := (NewB.newd w1).keep hb
theorem newB_on {w1 W W' : World} {tb : Nat} (hb : Below W.heap.size W W') (h : NewB w1 tb W) : NewB w1 tb W' := h.keep hb
theorem NewB.put {w1 W : World} {tb : Nat} (h : NewB w1 tb W) (a b c : Int) : (((W.setCell ⟨tb, 0, none⟩ (.int .i64 a)).setCell ⟨tb, 1, none⟩ (.int .i64 b)).setCell ⟨tb, 2, none⟩ (.int .i64 c)).heap[tb]? = some (.cells #[.int .i64 a, .int .i64 b, .int .i64 c] 22 (0, 0)) :=
  blk_put (cs' := #[.int .i64 a, .int .i64 b, .int .i64 c]) (blk_put (cs' := #[.int .i64 a, .int .i64 b, .int .i64 0]) (blk_put (cs' := #[.int .i64 a, .int .i64 0, .int .i64 0]) h.2 0 (.int .i64 a) rfl) 1 (.int .i64 b) rfl) 2 (.int .i64 c) rfl

def RPost (w : World) (a b c : Int) (e : Ending) (w' : World) : Prop :=
  (e = .returned (if rightR 1 a b c = true then .tuple #[.agg #[.int .i64 a, .int .i64 b, .int .i64 c], .bool true] else no3)) ∧ Below w.heap.size w w'
set_option maxHeartbeats 4000000 in
set_option maxRecDepth 100000 in
theorem refParse_three (s : ByteArray) (hs : s.size ≤ 1000) (x y z : ByteArray) (hp : pieces s = [x, y, z]) (w : World) :
    Calls Tryd.prog 28 #[.string s] w (RPost w (number x.data.toList) (number y.data.toList) (number z.data.toList)) := by
  have HW := Aside0.mk (fun w => refWords_any s hs w)
  unfold WordsPost at HW
  rw [hp] at HW
  have cx := Aside0.mk (fun w => refNumber_any x w)
  have cy := Aside0.mk (fun w => refNumber_any y w)
  have cz := Aside0.mk (fun w => refNumber_any z w)
  have HR := Aside0.mk (fun w => right02_walk (number x.data.toList) (number y.data.toList) (number z.data.toList) w)
  generalize number x.data.toList = a at cx HR ⊢
  generalize number y.data.toList = b at cy HR ⊢
  generalize number z.data.toList = c at cz HR ⊢
  have hq := Aside0.mk (blk_new w (.cells zero3 22))
  clear hp hs
  go_enter Tryd.func28, Tryd.ntmps28
  go_upto_region 4 with (go_at_call 43; refine (HW.out _).mono ?_; rintro e w1 ⟨v, rfl, hR, hbb⟩; obtain ⟨g, cap, rfl, hg1, hg2, -⟩ := Kd.R_form hR (by simp); have hk3 := blk_below hq.out hbb; have g0 := (Kd.R_cell ByteArray.empty hR 0 (by omega) (by simp)).1; have g1 := (Kd.R_cell ByteArray.empty hR 1 (by omega) (by simp)).1; have g2 := (Kd.R_cell ByteArray.empty hR 2 (by omega) (by simp)).1; have hB3 := Aside0.mk (((Below.refl w.heap.size w).alloc (Nat.le_refl _) (.cells zero3 22)).trans (hbb.mono (by rw [World.size_alloc]; omega))); have hF := Aside0.mk (show RC g x y z w1 w1 from ⟨g0, g1, g2, Below.refl _ _⟩); replace hk3 := Aside0.mk hk3; clear hR hbb g0 g1 g2 hg1 hg2)
  go_cut [5] from 12 to 24 (fun v W => ∃ tb, v = .pointer (some ⟨tb, 0, none⟩) ∧ W.heap[tb]? = some (.cells #[.int .i64 a, .int .i64 b, .int .i64 c] 22 (0, 0)) ∧ Below w1.heap.size w1 W)
  case first =>
    have hT : RC g x y z w1 w1.drew := hF.out.of (Below.refl _ _).drew
    go_region_held3 (fun W => W.cell? ⟨g, 0, none⟩ = some (.string x) ∧ W.cell? ⟨g, 1, none⟩ = some (.string y) ∧ W.cell? ⟨g, 2, none⟩ = some (.string z) ∧ Below w1.heap.size w1 W) (first | (with_reducible assumption) | (with_reducible exact RC.al hF.out (by assumption) _) | (with_reducible exact RC.ald hF.out _) | (with_reducible exact RC.put hF.out (by assumption) (by assumption) _ _ _)) (first | (go_at_call 44; (with_reducible show Calls Tryd.prog 44 #[.string x] _ _); refine (cx.out _).mono ?_; rintro e w9 ⟨rfl, hb9⟩; have hT9 := RC.keep hF.out (by assumption : RC g x y z w1 _) hb9; (first | ((with_reducible have hz9 := newB_al hb9 (by assumption : RC g x y z w1 _)); have u0 := (blk_cell hz9.2 0).trans (show _ = some (Value.int .i64 0) from rfl); have u1 := (blk_cell hz9.2 1).trans (show _ = some (Value.int .i64 0) from rfl); have u2 := (blk_cell hz9.2 2).trans (show _ = some (Value.int .i64 0) from rfl); have n0 := blk_frozen hz9.2 0; have n1 := blk_frozen hz9.2 1; have n2 := blk_frozen hz9.2 2) | ((with_reducible have hz9 := newB_ad hb9); have u0 := (blk_cell hz9.2 0).trans (show _ = some (Value.int .i64 0) from rfl); have u1 := (blk_cell hz9.2 1).trans (show _ = some (Value.int .i64 0) from rfl); have u2 := (blk_cell hz9.2 2).trans (show _ = some (Value.int .i64 0) from rfl); have n0 := blk_frozen hz9.2 0; have n1 := blk_frozen hz9.2 1; have n2 := blk_frozen hz9.2 2) | ((with_reducible have hz9 := newB_on hb9 (by assumption : NewB w1 _ _)); have u0 := (blk_cell hz9.2 0).trans (show _ = some (Value.int .i64 0) from rfl); have u1 := (blk_cell hz9.2 1).trans (show _ = some (Value.int .i64 0) from rfl); have u2 := (blk_cell hz9.2 2).trans (show _ = some (Value.int .i64 0) from rfl); have n0 := blk_frozen hz9.2 0; have n1 := blk_frozen hz9.2 1; have n2 := blk_frozen hz9.2 2) | skip); clear hb9) | (go_at_call 44; (with_reducible show Calls Tryd.prog 44 #[.string y] _ _); refine (cy.out _).mono ?_; rintro e w9 ⟨rfl, hb9⟩; have hT9 := RC.keep hF.out (by assumption : RC g x y z w1 _) hb9; (first | ((with_reducible have hz9 := newB_al hb9 (by assumption : RC g x y z w1 _)); have u0 := (blk_cell hz9.2 0).trans (show _ = some (Value.int .i64 0) from rfl); have u1 := (blk_cell hz9.2 1).trans (show _ = some (Value.int .i64 0) from rfl); have u2 := (blk_cell hz9.2 2).trans (show _ = some (Value.int .i64 0) from rfl); have n0 := blk_frozen hz9.2 0; have n1 := blk_frozen hz9.2 1; have n2 := blk_frozen hz9.2 2) | ((with_reducible have hz9 := newB_ad hb9); have u0 := (blk_cell hz9.2 0).trans (show _ = some (Value.int .i64 0) from rfl); have u1 := (blk_cell hz9.2 1).trans (show _ = some (Value.int .i64 0) from rfl); have u2 := (blk_cell hz9.2 2).trans (show _ = some (Value.int .i64 0) from rfl); have n0 := blk_frozen hz9.2 0; have n1 := blk_frozen hz9.2 1; have n2 := blk_frozen hz9.2 2) | ((with_reducible have hz9 := newB_on hb9 (by assumption : NewB w1 _ _)); have u0 := (blk_cell hz9.2 0).trans (show _ = some (Value.int .i64 0) from rfl); have u1 := (blk_cell hz9.2 1).trans (show _ = some (Value.int .i64 0) from rfl); have u2 := (blk_cell hz9.2 2).trans (show _ = some (Value.int .i64 0) from rfl); have n0 := blk_frozen hz9.2 0; have n1 := blk_frozen hz9.2 1; have n2 := blk_frozen hz9.2 2) | skip); clear hb9) | (go_at_call 44; (with_reducible show Calls Tryd.prog 44 #[.string z] _ _); refine (cz.out _).mono ?_; rintro e w9 ⟨rfl, hb9⟩; have hT9 := RC.keep hF.out (by assumption : RC g x y z w1 _) hb9; (first | ((with_reducible have hz9 := newB_al hb9 (by assumption : RC g x y z w1 _)); have u0 := (blk_cell hz9.2 0).trans (show _ = some (Value.int .i64 0) from rfl); have u1 := (blk_cell hz9.2 1).trans (show _ = some (Value.int .i64 0) from rfl); have u2 := (blk_cell hz9.2 2).trans (show _ = some (Value.int .i64 0) from rfl); have n0 := blk_frozen hz9.2 0; have n1 := blk_frozen hz9.2 1; have n2 := blk_frozen hz9.2 2) | ((with_reducible have hz9 := newB_ad hb9); have u0 := (blk_cell hz9.2 0).trans (show _ = some (Value.int .i64 0) from rfl); have u1 := (blk_cell hz9.2 1).trans (show _ = some (Value.int .i64 0) from rfl); have u2 := (blk_cell hz9.2 2).trans (show _ = some (Value.int .i64 0) from rfl); have n0 := blk_frozen hz9.2 0; have n1 := blk_frozen hz9.2 1; have n2 := blk_frozen hz9.2 2) | ((with_reducible have hz9 := newB_on hb9 (by assumption : NewB w1 _ _)); have u0 := (blk_cell hz9.2 0).trans (show _ = some (Value.int .i64 0) from rfl); have u1 := (blk_cell hz9.2 1).trans (show _ = some (Value.int .i64 0) from rfl); have u2 := (blk_cell hz9.2 2).trans (show _ = some (Value.int .i64 0) from rfl); have n0 := blk_frozen hz9.2 0; have n1 := blk_frozen hz9.2 1; have n2 := blk_frozen hz9.2 2) | skip); clear hb9))
    all_goals (go_wp2_with fail; go_meet)
    all_goals first
      | exact ⟨_, rfl, blk_new _ _, (RC.al hF.out (by assumption) _).2.2.2⟩
      | exact ⟨_, rfl, NewB.put (by assumption) a b c, (RC.put hF.out (by assumption) (by assumption) _ _ _).2.2.2⟩
  case rest =>
    obtain ⟨tb, rfl, hTb, hB⟩ := hcut
    have t0 : wc.cell? ⟨tb, 0, none⟩ = some (.int .i64 a) := (blk_cell hTb 0).trans rfl
    have t1 : wc.cell? ⟨tb, 1, none⟩ = some (.int .i64 b) := (blk_cell hTb 1).trans rfl
    have t2 : wc.cell? ⟨tb, 2, none⟩ = some (.int .i64 c) := (blk_cell hTb 2).trans rfl
    replace hTb := Aside0.mk hTb
    replace hB := Aside0.mk hB
    clear hF cx cy cz HW hq
    cases hR : rightR 1 a b c with
    | false =>
      rw [hR] at HR
      replace hR := Aside0.mk hR
      go_wp2_with (go_at_call 13; refine (HR.out _).mono ?_; rintro e w5 ⟨rfl, hb⟩; have hk5 := blk_below (blk_below hk3.out hB.out) hb; have y0 : w5.cell? ⟨w.heap.size, 0, none⟩ = some (.int .i64 0) := (blk_cell hk5 0).trans rfl; have y1 : w5.cell? ⟨w.heap.size, 1, none⟩ = some (.int .i64 0) := (blk_cell hk5 1).trans rfl; have y2 : w5.cell? ⟨w.heap.size, 2, none⟩ = some (.int .i64 0) := (blk_cell hk5 2).trans rfl; have z0 := blk_frozen hk5 0; have z1 := blk_frozen hk5 1; have z2 := blk_frozen hk5 2; have hB5 := Aside0.mk ((hB3.out.trans (hB.out.mono hB3.out.size)).trans (hb.mono (Nat.le_trans hB3.out.size hB.out.size))); replace hk5 := Aside0.mk hk5; clear hb t0 t1 t2)
      have hput := blk_put (cs' := #[Value.int .i64 0, Value.int .i64 0, Value.int .i64 0]) (blk_put (cs' := #[Value.int .i64 0, Value.int .i64 0, .int .i64 0]) (blk_put (cs' := #[Value.int .i64 0, .int .i64 0, .int .i64 0]) hk5.out 0 (Value.int .i64 0) rfl) 1 (Value.int .i64 0) rfl) 2 (Value.int .i64 0) rfl
      have r0 := (blk_cell hput 0).trans (show _ = some (Value.int .i64 0) from rfl)
      have r1 := (blk_cell hput 1).trans (show _ = some (Value.int .i64 0) from rfl)
      have r2 := (blk_cell hput 2).trans (show _ = some (Value.int .i64 0) from rfl)
      refine bodyPost_ret (v := no3) (by simp [results, Tryd.results28, go_sem, r0, r1, r2]) rfl ⟨by rw [hR.out]; rfl, (((hB5.out.setCell (p := ⟨w.heap.size, 0, none⟩) (Nat.le_refl _) _).setCell (p := ⟨w.heap.size, 1, none⟩) (Nat.le_refl _) _).setCell (p := ⟨w.heap.size, 2, none⟩) (Nat.le_refl _) _)⟩
    | true =>
      rw [hR] at HR
      replace hR := Aside0.mk hR
      go_wp2_with (go_at_call 13; refine (HR.out _).mono ?_; rintro e w5 ⟨rfl, hb⟩; have hk5 := blk_below (blk_below hk3.out hB.out) hb; have y0 : w5.cell? ⟨w.heap.size, 0, none⟩ = some (.int .i64 0) := (blk_cell hk5 0).trans rfl; have y1 : w5.cell? ⟨w.heap.size, 1, none⟩ = some (.int .i64 0) := (blk_cell hk5 1).trans rfl; have y2 : w5.cell? ⟨w.heap.size, 2, none⟩ = some (.int .i64 0) := (blk_cell hk5 2).trans rfl; have z0 := blk_frozen hk5 0; have z1 := blk_frozen hk5 1; have z2 := blk_frozen hk5 2; have hB5 := Aside0.mk ((hB3.out.trans (hB.out.mono hB3.out.size)).trans (hb.mono (Nat.le_trans hB3.out.size hB.out.size))); replace hk5 := Aside0.mk hk5; have hT5 := blk_below hTb.out hb; clear t0 t1 t2; have t0 : w5.cell? ⟨tb, 0, none⟩ = some (.int .i64 a) := (blk_cell hT5 0).trans rfl; have t1 : w5.cell? ⟨tb, 1, none⟩ = some (.int .i64 b) := (blk_cell hT5 1).trans rfl; have t2 : w5.cell? ⟨tb, 2, none⟩ = some (.int .i64 c) := (blk_cell hT5 2).trans rfl; clear hb hT5)
      have hput := blk_put (cs' := #[Value.int .i64 a, Value.int .i64 b, Value.int .i64 c]) (blk_put (cs' := #[Value.int .i64 a, Value.int .i64 b, .int .i64 0]) (blk_put (cs' := #[Value.int .i64 a, .int .i64 0, .int .i64 0]) hk5.out 0 (Value.int .i64 a) rfl) 1 (Value.int .i64 b) rfl) 2 (Value.int .i64 c) rfl
      have r0 := (blk_cell hput 0).trans (show _ = some (Value.int .i64 a) from rfl)
      have r1 := (blk_cell hput 1).trans (show _ = some (Value.int .i64 b) from rfl)
      have r2 := (blk_cell hput 2).trans (show _ = some (Value.int .i64 c) from rfl)
      refine bodyPost_ret (v := .tuple #[.agg #[.int .i64 a, .int .i64 b, .int .i64 c], .bool true]) (by simp [results, Tryd.results28, go_sem, r0, r1, r2]) rfl ⟨by rw [hR.out]; rfl, (((hB5.out.setCell (p := ⟨w.heap.size, 0, none⟩) (Nat.le_refl _) _).setCell (p := ⟨w.heap.size, 1, none⟩) (Nat.le_refl _) _).setCell (p := ⟨w.heap.size, 2, none⟩) (Nat.le_refl _) _)⟩

theorem refParse_yes (a b c : Int) (hR : rightR 1 a b c = true) (w : World) :
    Calls Tryd.prog 28 #[.string (str (text3 a.toNat b.toNat c.toNat))] w fun e w' => e = .returned (.tuple #[.agg #[.int .i64 a, .int .i64 b, .int .i64 c], .bool true]) ∧ Below w.heap.size w w' := by
  obtain ⟨⟨a0, a1⟩, ⟨b0, b1⟩, ⟨c0, c1⟩⟩ := right_parts hR
  have la := dd_len (n := a.toNat) (by omega)
  have lb := dd_len (n := b.toNat) (by omega)
  have lc := dd_len (n := c.toNat) (by omega)
  have na := number_dd (n := a.toNat) (by omega)
  have nb := number_dd (n := b.toNat) (by omega)
  have nc := number_dd (n := c.toNat) (by omega)
  rw [show ((a.toNat : Nat) : Int) = a by omega] at na
  rw [show ((b.toNat : Nat) : Int) = b by omega] at nb
  rw [show ((c.toNat : Nat) : Int) = c by omega] at nc
  have hx : pieces (str (text3 a.toNat b.toNat c.toNat)) = [str (decDigits a.toNat), str (decDigits b.toNat), str (decDigits c.toNat)] := by
    unfold pieces
    rw [show (str (text3 a.toNat b.toNat c.toNat)).data.toList = text3 a.toNat b.toNat c.toNat by simp, words_text3]
    rfl
  have hs : (str (text3 a.toNat b.toNat c.toNat)).size ≤ 1000 := by
    rw [str_size]; unfold text3; simp; omega
  refine (refParse_three _ hs _ _ _ hx w).mono fun e w' h => ?_
  unfold RPost at h
  simp only [na, nb, nc, hR, if_true] at h
  exact h
theorem refParse_nay (s : ByteArray) (hs : s.size ≤ 1000) (hn : ∀ a b c : Int, rightR 1 a b c = true → str (text3 a.toNat b.toNat c.toNat) ≠ s) (w : World) :
    Calls Tryd.prog 28 #[.string s] w fun e w' => e = .returned no3 ∧ Below w.heap.size w w' := by
  by_cases h3 : (pieces s).length = 3
  · obtain ⟨x, y, z, hw⟩ := words_three (l := s.data.toList) (by simpa [pieces] using h3)
    have hj := text_words hw
    have hx : pieces s = [str x, str y, str z] := by
      unfold pieces
      rw [hw]
      rfl
    refine (refParse_three s hs _ _ _ hx w).mono fun e w' h => ?_
    unfold RPost at h
    have hR : rightR 1 (number (str x).data.toList) (number (str y).data.toList) (number (str z).data.toList) = false := by
      cases hR : rightR 1 (number (str x).data.toList) (number (str y).data.toList) (number (str z).data.toList) with
      | false => rfl
      | true =>
        obtain ⟨⟨a0, a1⟩, ⟨b0, b1⟩, ⟨c0, c1⟩⟩ := right_parts hR
        refine absurd ?_ (hn _ _ _ hR)
        have ex := (number_some (l := x) (n := (number x).toNat) (by simp at a0; omega)).1
        have ey := (number_some (l := y) (n := (number y).toNat) (by simp at b0; omega)).1
        have ez := (number_some (l := z) (n := (number z).toNat) (by simp at c0; omega)).1
        rw [← str_toList s, hj]
        unfold text3
        rw [← ex, ← ey, ← ez]
    rw [hR] at h
    exact h
  · exact refParse_len s hs h3 w
end Go.Proofs.YtfgnpplnjgjjkaaDoor.T
