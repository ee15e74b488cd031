/- A condition whose symbols are symbols. -/
import Derived.Test.YtkbkkceeolclmaaGreatDoorQ21
import Derived.Test.YtkbkkceeolclmaaGreatDoorQ13
set_option linter.unusedVariables false
set_option linter.unusedSimpArgs false
namespace Go.TX
theorem heldL_len : ∀ l : List Cd, (heldL l).length = l.length
  | [] => rfl
  | x :: l => by simp [heldL, heldL_len l]
theorem heldL_app : ∀ (l : List Cd) (x : Cd), heldL (l ++ [x]) = heldL l ++ [heldC x]
  | [], x => rfl
  | y :: l, x => by simp [heldL, heldL_app l x]
theorem cutT_var {t : Tm} (h : t.1 = true) : cutT t = t := by unfold cutT; rw [if_pos h]
theorem cutT_not {t : Tm} (h : t.1 = false) : cutT t = (t.1, min t.2 4096) := by
  unfold cutT
  rw [if_neg (by rw [h]; simp)]
  split
  · rw [Int.min_eq_left (by assumption)]
  · rw [Int.min_eq_right (by omega)]
end Go.TX
namespace Go.Proofs.YtkbkkceeolclmaaGreatDoor.X
open Go.RowKit Go.TX Go.Proofs.YtkbkkceeolclmaaGreatDoorW.PrintWords Go.Proofs.YtkbkkceeolclmaaGreatDoorL
attribute [local go_sem] YReg.envOf
theorem BX.far {n : Nat} {W W' : World} {v : Value} {l : List Cd} (h : BX n W v l) (hk : ∀ (b : Nat) (cs : Array Value), n ≤ b → W.heap[b]? = some (.cells cs 72 (0, 0)) → W'.heap[b]? = W.heap[b]?) : BX n W' v l := by
  obtain ⟨css, hl, ho, hr⟩ := h
  refine ⟨css, hl, owns_move ho (fun b hnb _ e => ?_), fun i hi => ?_⟩
  · obtain ⟨cs, hcs⟩ := own_typed ho b e
    exact hk b cs hnb hcs
  · obtain ⟨cs, h1, h2, h3⟩ := hr i hi
    refine ⟨cs, h1, h2, Rep.mono (fun b hb => ⟨⟨hb.1.1, ?_⟩, hb.2⟩) _ cs (Rep.move _ cs h3 fun b hf _ => hf.1.2.elim fun q hq => hk b q hf.1.1 hq)⟩
    obtain ⟨q, hq⟩ := hb.1.2
    exact ⟨q, (hk b q hb.1.1 hq).trans hq⟩
theorem BX.put {n : Nat} {W : World} {v : Value} {l : List Cd} (h : BX n W v l) {p : Addr} (hp : p.block < n) (u : Value) : BX n (W.setCell p u) v l := h.far fun b _ hb _ => Below.heap_setCell _ _ _ _ (by omega)
/-- A condition that a call gives. -/
def IsX (n : Nat) (k : Int) (a b c : Tm) (subs : List Cd) (u : Value) (W : World) : Prop := ∃ S, u = aC evA k a b c S ∧ BX n W S subs
theorem IsX.up {n : Nat} {k : Int} {a b c : Tm} {subs : List Cd} : ∀ u w w', IsX n k a b c subs u w → YReg.Ext w w' → IsX n k a b c subs u w' := fun _ _ _ ⟨S, e, h⟩ hb => ⟨S, e, h.below hb⟩
/-- It lies alone in a row. -/
def InX (n : Nat) (k : Int) (a b c : Tm) (subs : List Cd) (u : Value) (W : World) : Prop := ∃ g S, u = .slice (some ⟨g, 0, none⟩) 1 1 ∧ W.heap[g]? = some (oC evA 72 k a b c S) ∧ BX n W S subs ∧ g < W.heap.size
theorem InX.up {n : Nat} {k : Int} {a b c : Tm} {subs : List Cd} : ∀ u w w', InX n k a b c subs u w → YReg.Ext w w' → InX n k a b c subs u w' := fun _ _ _ ⟨g, S, e, h, hi, hl⟩ hb => ⟨g, S, e, (hb.block g hl).trans h, hi.below hb, Nat.lt_of_lt_of_le hl hb.size⟩
theorem IsX.base {n m : Nat} {k : Int} {a b c : Tm} {subs : List Cd} {u : Value} {W : World} (h : IsX n k a b c subs u W) (hm : m ≤ n) : IsX m k a b c subs u W := by
  obtain ⟨S, e, h⟩ := h
  exact ⟨S, e, h.base hm⟩
set_option maxRecDepth 100000 in
set_option maxHeartbeats 8000000 in
theorem held_walk (n : Nat) : ∀ (k : Int) (a b c : Tm) (subs : List Cd) (A : Option Addr) (cap : Nat) (w : World) (F : Nat → Prop), csizeL subs < n → n ≤ 1000000 → RepL evA w F subs A 0 →
    Calls Tryz.prog 62 #[aC evA k a b c (.slice A subs.length cap)] w fun e W => ∃ u, e = .returned u ∧ YReg.Ext w W ∧ IsX w.heap.size k (cutT a) (cutT b) (cutT c) (heldL subs) u W := by
  induction n with
  | zero => intro k a b c subs A cap w F h; omega
  | succ n ih =>
    intro k a b c subs A cap w F hn hn1 hR
    obtain ⟨i0, hi, hz0, hz1, hz2⟩ := info_parts info72
    replace hi := Aside0.mk hi
    replace hz0 := Aside0.mk hz0
    replace hz1 := Aside0.mk hz1
    replace hz2 := Aside0.mk hz2
    have hlen := csizeL_len subs
    have hmax : 1000000 ≤ maxLen := by decide
    have hB0 := Aside0.mk (((Below.refl w.heap.size w).alloc (Nat.le_refl _) (oC evA 72 k a b c (.slice A subs.length cap))).alloc (by simp) z72')
    have hp0 := Aside0.mk (blk_alloc (blk_new w (oC evA 72 k a b c (.slice A subs.length cap))) z72')
    have ho0 := blk_new (w.alloc (oC evA 72 k a b c (.slice A subs.length cap))) z72'
    simp only [World.size_alloc] at ho0
    replace ho0 := Aside0.mk ho0
    have hzz := Aside0.mk (show ((w.alloc (oC evA 72 k a b c (.slice A subs.length cap))).alloc z72').heap.size = w.heap.size + 2 by simp)
    have hRb := Aside0.mk (RepL.bound subs A 0 hR)
    replace hR := Aside0.mk hR
    go_enter Tryz.func62, Tryz.ntmps62
    go_upto_region 1 with fail
    generalize (w.alloc (oC evA 72 k a b c (.slice A subs.length cap))).alloc z72' = W0 at hB0 hp0 ho0 hzz ⊢
    obtain ⟨d0, d1, d2, d3, d4, d5, d6, d7⟩ := box8 hp0.out
    go_upto_region 2 with fail
    go_loopw [10] (fun i wr => ∃ (q : Nat) (bx : Obj), i = .int .i64 q ∧ q ≤ 3 ∧ [oC evA 72 k a b c (.slice A subs.length cap), oC evA 72 k (cutT a) b c (.slice A subs.length cap), oC evA 72 k (cutT a) (cutT b) c (.slice A subs.length cap), oC evA 72 k (cutT a) (cutT b) (cutT c) (.slice A subs.length cap)][q]? = some bx ∧ wr.heap[w.heap.size]? = some bx ∧ wr.heap[w.heap.size + 1]? = some z72' ∧ Below w.heap.size w wr ∧ w.heap.size + 2 ≤ wr.heap.size) (fun i _ => 3 - (intOf i).toNat)
    case atStart => exact ⟨0, _, rfl, by omega, rfl, hp0.out, ho0.out, hB0.out, Nat.le_of_eq hzz.out.symm⟩
    case round =>
      obtain ⟨q, bx, rfl, hq, hbx, hp, ho, hB, hsz⟩ := hrel
      clear hB0 hp0 ho0 hzz d0 d1 d2 d3 d4 d5 d6 d7
      clear W0
      rcases (show q = 0 ∨ q = 1 ∨ q = 2 ∨ q = 3 by omega) with rfl | rfl | rfl | rfl
      · cases hbx
        have hix := ix0 a.1 b.1 c.1 a.2 b.2 c.2
        have hA := Aside0.mk ((Below.refl wr.heap.size wr).alloc (Nat.le_refl _) (.cells #[.bool a.1, .int .i64 a.2] 69))
        have hp1 := blk_alloc hp (.cells #[.bool a.1, .int .i64 a.2] 69)
        have ho1 := Aside0.mk (blk_alloc ho (.cells #[.bool a.1, .int .i64 a.2] 69))
        have hn1 := blk_new wr (.cells #[.bool a.1, .int .i64 a.2] 69)
        have hB1 := Aside0.mk (hB.trans (hA.out.mono hB.size))
        have hs1 := Aside0.mk (Nat.le_trans hsz hA.out.size)
        clear hp ho hB
        go_upto_region 4 with fail
        generalize wr.alloc (.cells #[.bool a.1, .int .i64 a.2] 69) = W1 at hA hp1 ho1 hn1 hB1 hs1 ⊢
        generalize wr.heap.size = g at hn1 hsz ⊢
        clear hA hix
        clear wr
        have n0 := (blk_cell hn1 0).trans (show _ = some (Value.bool a.1) from rfl)
        have n1 := (blk_cell hn1 1).trans (show _ = some (Value.int .i64 a.2) from rfl)
        have f1 := blk_frozen hp1 2
        have p1 := (blk_cell hp1 2).trans (show _ = some (Value.int .i64 a.2) from rfl)
        clear hn1
        replace hp1 := Aside0.mk hp1
        rcases (show a.1 = true ∨ a.1 = false by cases a.1 <;> simp) with hv | hv
        · have hcut := Aside0.mk (cutT_var hv)
          rw [hv] at n0
          clear hv
          go_wp2
          go_roundw
          case rel => exact ⟨1, _, rfl, by omega, rfl, by rw [hcut.out]; exact hp1.out, ho1.out, hB1.out, hs1.out⟩
          case measure => simp [intOf]
        · have hcut := Aside0.mk (cutT_not hv)
          rw [hv] at n0
          clear hv
          go_wp2
          go_roundw
          case rel => exact ⟨1, _, rfl, by omega, rfl, by rw [hcut.out]; exact blk_put hp1.out 2 (.int .i64 (min a.2 4096)) rfl, blk_far ho1.out (p := ⟨w.heap.size, 2, none⟩) (by show w.heap.size + 1 ≠ w.heap.size; omega) _, hB1.out.setCell (p := ⟨w.heap.size, 2, none⟩) (Nat.le_refl _) _, by have := hs1.out; simpa [World.setCell] using this⟩
          case measure => simp [intOf]
      · cases hbx
        have hix := ix1 a.1 b.1 c.1 a.2 b.2 c.2
        have hA := Aside0.mk ((Below.refl wr.heap.size wr).alloc (Nat.le_refl _) (.cells #[.bool b.1, .int .i64 b.2] 69))
        have hp1 := blk_alloc hp (.cells #[.bool b.1, .int .i64 b.2] 69)
        have ho1 := Aside0.mk (blk_alloc ho (.cells #[.bool b.1, .int .i64 b.2] 69))
        have hn1 := blk_new wr (.cells #[.bool b.1, .int .i64 b.2] 69)
        have hB1 := Aside0.mk (hB.trans (hA.out.mono hB.size))
        have hs1 := Aside0.mk (Nat.le_trans hsz hA.out.size)
        clear hp ho hB
        go_upto_region 4 with fail
        generalize wr.alloc (.cells #[.bool b.1, .int .i64 b.2] 69) = W1 at hA hp1 ho1 hn1 hB1 hs1 ⊢
        generalize wr.heap.size = g at hn1 hsz ⊢
        clear hA hix
        clear wr
        have n0 := (blk_cell hn1 0).trans (show _ = some (Value.bool b.1) from rfl)
        have n1 := (blk_cell hn1 1).trans (show _ = some (Value.int .i64 b.2) from rfl)
        have f1 := blk_frozen hp1 4
        have p1 := (blk_cell hp1 4).trans (show _ = some (Value.int .i64 b.2) from rfl)
        clear hn1
        replace hp1 := Aside0.mk hp1
        rcases (show b.1 = true ∨ b.1 = false by cases b.1 <;> simp) with hv | hv
        · have hcut := Aside0.mk (cutT_var hv)
          rw [hv] at n0
          clear hv
          go_wp2
          go_roundw
          case rel => exact ⟨2, _, rfl, by omega, rfl, by rw [hcut.out]; exact hp1.out, ho1.out, hB1.out, hs1.out⟩
          case measure => simp [intOf]
        · have hcut := Aside0.mk (cutT_not hv)
          rw [hv] at n0
          clear hv
          go_wp2
          go_roundw
          case rel => exact ⟨2, _, rfl, by omega, rfl, by rw [hcut.out]; exact blk_put hp1.out 4 (.int .i64 (min b.2 4096)) rfl, blk_far ho1.out (p := ⟨w.heap.size, 4, none⟩) (by show w.heap.size + 1 ≠ w.heap.size; omega) _, hB1.out.setCell (p := ⟨w.heap.size, 4, none⟩) (Nat.le_refl _) _, by have := hs1.out; simpa [World.setCell] using this⟩
          case measure => simp [intOf]
      · cases hbx
        have hix := ix2 a.1 b.1 c.1 a.2 b.2 c.2
        have hA := Aside0.mk ((Below.refl wr.heap.size wr).alloc (Nat.le_refl _) (.cells #[.bool c.1, .int .i64 c.2] 69))
        have hp1 := blk_alloc hp (.cells #[.bool c.1, .int .i64 c.2] 69)
        have ho1 := Aside0.mk (blk_alloc ho (.cells #[.bool c.1, .int .i64 c.2] 69))
        have hn1 := blk_new wr (.cells #[.bool c.1, .int .i64 c.2] 69)
        have hB1 := Aside0.mk (hB.trans (hA.out.mono hB.size))
        have hs1 := Aside0.mk (Nat.le_trans hsz hA.out.size)
        clear hp ho hB
        go_upto_region 4 with fail
        generalize wr.alloc (.cells #[.bool c.1, .int .i64 c.2] 69) = W1 at hA hp1 ho1 hn1 hB1 hs1 ⊢
        generalize wr.heap.size = g at hn1 hsz ⊢
        clear hA hix
        clear wr
        have n0 := (blk_cell hn1 0).trans (show _ = some (Value.bool c.1) from rfl)
        have n1 := (blk_cell hn1 1).trans (show _ = some (Value.int .i64 c.2) from rfl)
        have f1 := blk_frozen hp1 6
        have p1 := (blk_cell hp1 6).trans (show _ = some (Value.int .i64 c.2) from rfl)
        clear hn1
        replace hp1 := Aside0.mk hp1
        rcases (show c.1 = true ∨ c.1 = false by cases c.1 <;> simp) with hv | hv
        · have hcut := Aside0.mk (cutT_var hv)
          rw [hv] at n0
          clear hv
          go_wp2
          go_roundw
          case rel => exact ⟨3, _, rfl, by omega, rfl, by rw [hcut.out]; exact hp1.out, ho1.out, hB1.out, hs1.out⟩
          case measure => simp [intOf]
        · have hcut := Aside0.mk (cutT_not hv)
          rw [hv] at n0
          clear hv
          go_wp2
          go_roundw
          case rel => exact ⟨3, _, rfl, by omega, rfl, by rw [hcut.out]; exact blk_put hp1.out 6 (.int .i64 (min c.2 4096)) rfl, blk_far ho1.out (p := ⟨w.heap.size, 6, none⟩) (by show w.heap.size + 1 ≠ w.heap.size; omega) _, hB1.out.setCell (p := ⟨w.heap.size, 6, none⟩) (Nat.le_refl _) _, by have := hs1.out; simpa [World.setCell] using this⟩
          case measure => simp [intOf]
      · cases hbx
        rw [show ((3 : Nat) : Int) = 3 from rfl]
        have p7 := (blk_cell hp 7).trans (show _ = some (Value.slice A subs.length cap) from rfl)
        have f7 := blk_frozen hp 7
        replace hp := Aside0.mk hp
        replace ho := Aside0.mk ho
        replace hB := Aside0.mk hB
        go_upto_region 9 with fail
        have hp1 := Aside0.mk (show _ = some (oC evA 72 k (cutT a) (cutT b) (cutT c) (.slice none 0 0)) from blk_put hp.out 7 (.slice none 0 0) rfl)
        have ho1 := Aside0.mk (blk_far ho.out (p := ⟨w.heap.size, 7, none⟩) (by show w.heap.size + 1 ≠ w.heap.size; omega) (.slice none 0 0))
        have hB1 := Aside0.mk (hB.out.setCell (p := ⟨w.heap.size, 7, none⟩) (Nat.le_refl _) (.slice none 0 0))
        have hs1 : w.heap.size + 2 ≤ (wr.setCell ⟨w.heap.size, 7, none⟩ (.slice none 0 0)).heap.size := by simpa [World.setCell] using hsz
        replace hs1 := Aside0.mk hs1
        clear p7 f7 hp ho hB hsz
        generalize wr.setCell ⟨w.heap.size, 7, none⟩ (.slice none 0 0) = V at hp1 ho1 hB1 hs1 ⊢
        clear wr
        go_upto_region 10 with fail
        go_loopw [30] (fun i wr => ∃ (j : Nat) (v : Value), i = .int .i64 j ∧ j ≤ subs.length ∧ wr.heap[w.heap.size]? = some (oC evA 72 k (cutT a) (cutT b) (cutT c) v) ∧ BX (w.heap.size + 2) wr v (heldL (subs.take j)) ∧ Below w.heap.size w wr ∧ wr.heap[w.heap.size + 1]? = some z72' ∧ w.heap.size + 2 ≤ wr.heap.size) (fun i _ => subs.length - (intOf i).toNat)
        case atStart => exact ⟨0, _, rfl, Nat.zero_le _, hp1.out, BX.nil _ _, hB1.out, ho1.out, hs1.out⟩
        case round =>
          obtain ⟨j, v, rfl, hj, hgr, hbr, hBw, hor, hsz⟩ := hrel
          clear hB1 hp1 ho1 hs1
          clear V
          have hll : (heldL (subs.take j)).length = j := by rw [heldL_len, List.length_take_of_le hj]
          obtain ⟨A', cp, rfl⟩ : ∃ A' cp, v = .slice A' j cp := by
            obtain ⟨A', cp, e⟩ := hbr.form
            rw [hll] at e
            exact ⟨A', cp, e⟩
          by_cases hlt : j < subs.length
          · obtain ⟨b', o, k', x, y, z, subs', B, cap', rfl, hbl, hx, hlen', hR', htk, hle, c0, c1, c2, c3, c4, c5, c6, c7⟩ := sub_at (RepL.move (W := wr) _ _ _ hRb.out (fun b hb _ => hBw.block b hb.2)) hlt
            have hAB : Below wr.heap.size wr (wr.alloc (oC evA 72 k' x y z (.slice B subs'.length cap'))) := (Below.refl _ _).alloc (Nat.le_refl _) _
            have hBW := Aside0.mk (hBw.trans (hAB.mono hBw.size))
            have hRW := Aside0.mk (hR'.below hAB)
            have hgW := Aside0.mk (blk_alloc hgr (oC evA 72 k' x y z (.slice B subs'.length cap')))
            have hoW := Aside0.mk (blk_alloc hor (oC evA 72 k' x y z (.slice B subs'.length cap')))
            have hxW := Aside0.mk (blk_new wr (oC evA 72 k' x y z (.slice B subs'.length cap')))
            have hbW := Aside0.mk (hbr.below hAB)
            have hsW := Aside0.mk (Nat.le_trans hsz hAB.size)
            have hih := Aside0.mk (ih k' x y z subs' B cap')
            have hls : csizeL subs' < n := by omega
            replace hx := Aside0.mk hx
            replace hls := Aside0.mk hls
            replace hlen' := Aside0.mk hlen'
            clear hgr hor hbr hBw hAB hR' htk hle hsz
            go_upto_region 12 with fail
            generalize wr.alloc (oC evA 72 k' x y z (.slice B subs'.length cap')) = W at hBW hRW hgW hoW hxW hbW hsW ⊢
            clear c0 c1 c2 c3 c4 c5 c6 c7 hbl
            generalize hnw : wr.heap.size = nw at hxW ⊢
            clear hnw
            clear wr
            have t0 : ∀ W', YReg.Ext W.drew W' → W'.cell? ⟨w.heap.size, 7, none⟩ = some (.slice A' j cp) := fun W' h => (blk_cell ((h.of_drew.block _ (blk_lt hgW.out)).trans hgW.out) 7).trans rfl
            have bx := fun W' (h : YReg.Ext W.drew W') => box8 ((h.of_drew.block _ (blk_lt hxW.out)).trans hxW.out)
            have s0 : ∀ W', YReg.Ext W.drew W' → W'.cell? ⟨nw, 0, none⟩ = some (.int .i64 k') := fun W' h => (bx W' h).1
            have s1 : ∀ W', YReg.Ext W.drew W' → W'.cell? ⟨nw, 1, none⟩ = some (.bool x.1) := fun W' h => (bx W' h).2.1
            have s2 : ∀ W', YReg.Ext W.drew W' → W'.cell? ⟨nw, 2, none⟩ = some (.int .i64 x.2) := fun W' h => (bx W' h).2.2.1
            have s3 : ∀ W', YReg.Ext W.drew W' → W'.cell? ⟨nw, 3, none⟩ = some (.bool y.1) := fun W' h => (bx W' h).2.2.2.1
            have s4 : ∀ W', YReg.Ext W.drew W' → W'.cell? ⟨nw, 4, none⟩ = some (.int .i64 y.2) := fun W' h => (bx W' h).2.2.2.2.1
            have s5 : ∀ W', YReg.Ext W.drew W' → W'.cell? ⟨nw, 5, none⟩ = some (.bool z.1) := fun W' h => (bx W' h).2.2.2.2.2.1
            have s6 : ∀ W', YReg.Ext W.drew W' → W'.cell? ⟨nw, 6, none⟩ = some (.int .i64 z.2) := fun W' h => (bx W' h).2.2.2.2.2.2.1
            have s7 : ∀ W', YReg.Ext W.drew W' → W'.cell? ⟨nw, 7, none⟩ = some (.slice B subs'.length cap') := fun W' h => (bx W' h).2.2.2.2.2.2.2
            clear bx
            have hRn : n ≤ 1000000 := by omega
            have k62 : Aside0 (∀ W', YReg.Ext W.drew W' → Calls Tryz.prog 62 #[aC evA k' x y z (.slice B subs'.length cap')] W' fun e W2 => ∃ u, e = .returned u ∧ YReg.Ext W' W2 ∧ IsX W.heap.size k' (cutT x) (cutT y) (cutT z) (heldL subs') u W2) := ⟨fun W' h => (hih.out W' _ hls.out hRn (hRW.out.below h.of_drew)).mono fun e W2 ⟨u, h1, h2, h3⟩ => ⟨u, h1, h2, h3.base h.of_drew.size⟩⟩
            refine YReg.wp_region_tail 5 none YReg.Ext YReg.Ext YReg.Ext.refl YReg.Ext.trans YReg.Ext.trans (fun _ _ h => h) (by kernel_rfl) (by kernel_rfl) (by kernel_rfl) [(1, .det (.pointer (some ⟨w.heap.size, 0, none⟩))), (7, .det (.pointer (some ⟨nw, 0, none⟩)))] (YReg.base_cons rfl (YReg.base_cons rfl YReg.base_nil)) ?_
            simp only [List.take_succ_cons, List.take_zero, List.drop_succ_cons, List.drop_zero]
            repeat (first
              | (refine YReg.walk_calln (by decide) IsX.up k62.out rfl (by kernel_rfl) (by kernel_rfl) _ rfl (by kernel_rfl) (by kernel_rfl) ?_)
              | (refine YReg.run_1 (by decide) YReg.Ext.refl rfl rfl _ rfl (by kernel_rfl) (by kernel_rfl) ?_; apply Exists.intro; refine ⟨fun ρ W hE h1 => ?_, ?_⟩; (go_simp; try rfl))
              | (refine YReg.nd_1n (by decide) (InX W.heap.size k' (cutT x) (cutT y) (cutT z) (heldL subs')) InX.up rfl rfl (fun ρ W1 hE ⟨S, e1, h2⟩ => by obtain ⟨a0, c0, e⟩ := h2.form; subst e; exact ⟨_, _, by (go_simp; try rfl), (Below.refl _ W1).alloc (Nat.le_refl _) _, W1.heap.size, _, rfl, blk_new _ _, h2.below ((Below.refl _ W1).alloc (Nat.le_refl _) _), by simp⟩) _ rfl (by kernel_rfl) (by kernel_rfl) ?_))
            intro ρ W' hE hn
            obtain ⟨⟨_, hc1⟩, gb, S, e23, hgb, hS, hgbl⟩ := hn
            have hBe := hE.of_drew
            obtain ⟨A2, c2, rfl⟩ := hS.form
            have hB' := Aside0.mk (hBW.out.trans (hBe.mono hBW.out.size))
            have hg' := Aside0.mk ((hBe.block _ (blk_lt hgW.out)).trans hgW.out)
            have ho' := Aside0.mk ((hBe.block _ (blk_lt hoW.out)).trans hoW.out)
            have hb' := hbW.out.below hBe
            obtain ⟨css, hcl, hco, hcr⟩ := hb'
            rw [hll] at hco hcl
            have hown : Aside0 (∀ b, Value.ownBlock (.slice A' j cp) = some b → b < W.heap.size) := by
              obtain ⟨css2, _, hco2, _⟩ := hbW.out
              exact ⟨fun b hb => (owner_lt hco2 hb).2⟩
            replace hS := Aside0.mk hS
            have hgb' := Aside0.mk hgb
            have hcl' : css.length = (heldL (subs.take j)).length := by rw [hll]; exact hcl
            replace hcl' := Aside0.mk hcl'
            replace hcr := Aside0.mk hcr
            have hgs : w.heap.size + 2 ≤ W'.heap.size := Nat.le_trans hsW.out hBe.size
            have hsW' := Aside0.mk hsW.out
            have hglt := Aside0.mk (blk_lt hg'.out)
            simp only [e23]
            clear hE hc1 hgb hgbl k62 t0 s0 s1 s2 s3 s4 s5 s6 s7 hBe hgW hoW hxW hbW hBW hRW hih e23 hcl hsW
            generalize ρ 37 = x37
            simp only [Act.put, List.setIfInBounds_toArray, List.set_cons_zero, List.set_cons_succ]
            have hj1 : j + 1 ≤ maxLen := by omega
            have hj2 : (j + 1) * 80 ≤ 140737488355328 := by omega
            replace hll := Aside0.mk hll
            go_wp2_with (at_builtin; refine wpList_append_own2 rfl _ _ 23 rfl (w.heap.size + 2) 72 i0 (aC evA 0 (false, 0) (false, 0) (false, 0) (.slice none 0 0)) 8 80 Tryz.underlying23 hi.out hz0.out hz1.out hz2.out rfl (by decide) _ j css.flatten rfl hco ⟨gb, 0, none⟩ 1 1 [.int .i64 k', .bool (cutT x).1, .int .i64 (cutT x).2, .bool (cutT y).1, .int .i64 (cutT y).2, .bool (cutT z).1, .int .i64 (cutT z).2, .slice A2 (heldL subs').length c2] rfl (by decide) rfl (cells_at hgb'.out) (by simp [Value.oneCell']) hj1 hj2 hgs ?_; intro v3 w3 hown3 hgr3 hfr3; obtain ⟨A3, c3, rfl⟩ := owns_form hown3; have hg3 := (hgr3.block w.heap.size hglt.out (fun e => by have := (owner_lt hco e.symm).1; omega)).trans hg'.out; have f7 := blk_frozen hg3 7; have p7 := (blk_cell hg3 7).trans (show _ = some (Value.slice A' j cp) from rfl); replace hg3 := Aside0.mk hg3; replace hown3 := Aside0.mk hown3; replace hgr3 := Aside0.mk hgr3; replace hfr3 := Aside0.mk hfr3)
            go_roundw
            case rel =>
              have htk : heldL (subs.take (j + 1)) = heldL (subs.take j) ++ [.mk k' (cutT x) (cutT y) (cutT z) (heldL subs')] := by
                rw [List.take_succ_eq_append_getElem hlt, hx.out, heldL_app]
                rfl
              refine ⟨j + 1, .slice A3 (j + 1) c3, by go_num, by omega, blk_put hg3.out 7 _ rfl, ?_, ?_, ?_, ?_⟩
              · rw [htk]
                refine (BX.snoc (W := W') (v := .slice A' j cp) hcl'.out hcr.out rfl (hS.out.rep (by rw [heldL_len]; exact hlen'.out)) hsW'.out hown.out (by rw [hll.out]; exact hown3.out) hgr3.out hfr3.out).put (p := ⟨w.heap.size, 7, none⟩) (by show w.heap.size < w.heap.size + 2; omega) _
              · exact (hB'.out.grown hgr3.out (by omega) (fun b hb => by have := (owner_lt hco hb).1; omega)).setCell (p := ⟨w.heap.size, 7, none⟩) (Nat.le_refl _) _
              · exact blk_far ((hgr3.out.block (w.heap.size + 1) (blk_lt ho'.out) (fun e => by have := (owner_lt hco e.symm).1; omega)).trans ho'.out) (p := ⟨w.heap.size, 7, none⟩) (by show w.heap.size + 1 ≠ w.heap.size; omega) _
              · have := hgr3.out.size
                have h2 : w.heap.size + 2 ≤ w3.heap.size := by omega
                simpa [World.setCell] using h2
            case measure => simp [intOf]; omega
          · obtain rfl : j = subs.length := by omega
            rw [List.take_length] at hbr
            obtain ⟨g0, g1, g2, g3, g4, g5, g6, g7⟩ := box8 hgr
            replace hgr := Aside0.mk hgr
            replace hbr := Aside0.mk hbr
            replace hBw := Aside0.mk hBw
            have f0 := blk_frozen hor 0
            have f1 := blk_frozen hor 1
            have f2 := blk_frozen hor 2
            have f3 := blk_frozen hor 3
            have f4 := blk_frozen hor 4
            have f5 := blk_frozen hor 5
            have f6 := blk_frozen hor 6
            have f7 := blk_frozen hor 7
            have q0 := (blk_cell hor 0).trans (show _ = some (Value.int .i64 0) from rfl)
            have q1 := (blk_cell hor 1).trans (show _ = some (Value.bool false) from rfl)
            have q2 := (blk_cell hor 2).trans (show _ = some (Value.int .i64 0) from rfl)
            have q3 := (blk_cell hor 3).trans (show _ = some (Value.bool false) from rfl)
            have q4 := (blk_cell hor 4).trans (show _ = some (Value.int .i64 0) from rfl)
            have q5 := (blk_cell hor 5).trans (show _ = some (Value.bool false) from rfl)
            have q6 := (blk_cell hor 6).trans (show _ = some (Value.int .i64 0) from rfl)
            have q7 := (blk_cell hor 7).trans (show _ = some (Value.slice none 0 0) from rfl)
            replace hor := Aside0.mk hor
            go_wp2
            have hx8 := (blk_put (blk_put (blk_put (blk_put (blk_put (blk_put (blk_put (blk_put hor.out 0 (.int .i64 k) rfl) 1 (.bool (cutT a).1) rfl) 2 (.int .i64 (cutT a).2) rfl) 3 (.bool (cutT b).1) rfl) 4 (.int .i64 (cutT b).2) rfl) 5 (.bool (cutT c).1) rfl) 6 (.int .i64 (cutT c).2) rfl) 7 (.slice A' subs.length cp) rfl)
            replace hx8 := (show _ = some (oC evA 72 k (cutT a) (cutT b) (cutT c) (.slice A' subs.length cp)) from hx8)
            have z0 := (blk_cell hx8 0).trans (show _ = some (Value.int .i64 k) from rfl)
            have z1 := (blk_cell hx8 1).trans (show _ = some (Value.bool (cutT a).1) from rfl)
            have z2 := (blk_cell hx8 2).trans (show _ = some (Value.int .i64 (cutT a).2) from rfl)
            have z3 := (blk_cell hx8 3).trans (show _ = some (Value.bool (cutT b).1) from rfl)
            have z4 := (blk_cell hx8 4).trans (show _ = some (Value.int .i64 (cutT b).2) from rfl)
            have z5 := (blk_cell hx8 5).trans (show _ = some (Value.bool (cutT c).1) from rfl)
            have z6 := (blk_cell hx8 6).trans (show _ = some (Value.int .i64 (cutT c).2) from rfl)
            have z7 := (blk_cell hx8 7).trans (show _ = some (Value.slice A' subs.length cp) from rfl)
            refine bodyPost_ret (v := aC evA k (cutT a) (cutT b) (cutT c) (.slice A' subs.length cp)) (by simp [results, Tryz.results62, go_sem, z0, z1, z2, z3, z4, z5, z6, z7]) rfl ⟨_, rfl, ((((((((hBw.out.setCell (p := ⟨w.heap.size + 1, 0, none⟩) (Nat.le_succ _) (.int .i64 k)).setCell (p := ⟨w.heap.size + 1, 1, none⟩) (Nat.le_succ _) (.bool (cutT a).1)).setCell (p := ⟨w.heap.size + 1, 2, none⟩) (Nat.le_succ _) (.int .i64 (cutT a).2)).setCell (p := ⟨w.heap.size + 1, 3, none⟩) (Nat.le_succ _) (.bool (cutT b).1)).setCell (p := ⟨w.heap.size + 1, 4, none⟩) (Nat.le_succ _) (.int .i64 (cutT b).2)).setCell (p := ⟨w.heap.size + 1, 5, none⟩) (Nat.le_succ _) (.bool (cutT c).1)).setCell (p := ⟨w.heap.size + 1, 6, none⟩) (Nat.le_succ _) (.int .i64 (cutT c).2)).setCell (p := ⟨w.heap.size + 1, 7, none⟩) (Nat.le_succ _) (.slice A' subs.length cp)), _, rfl, (((((((((hbr.out.base (m := w.heap.size + 2) (Nat.le_refl _)).put (p := ⟨w.heap.size + 1, 0, none⟩) (by show w.heap.size + 1 < w.heap.size + 2; omega) (.int .i64 k)).put (p := ⟨w.heap.size + 1, 1, none⟩) (by show w.heap.size + 1 < w.heap.size + 2; omega) (.bool (cutT a).1)).put (p := ⟨w.heap.size + 1, 2, none⟩) (by show w.heap.size + 1 < w.heap.size + 2; omega) (.int .i64 (cutT a).2)).put (p := ⟨w.heap.size + 1, 3, none⟩) (by show w.heap.size + 1 < w.heap.size + 2; omega) (.bool (cutT b).1)).put (p := ⟨w.heap.size + 1, 4, none⟩) (by show w.heap.size + 1 < w.heap.size + 2; omega) (.int .i64 (cutT b).2)).put (p := ⟨w.heap.size + 1, 5, none⟩) (by show w.heap.size + 1 < w.heap.size + 2; omega) (.bool (cutT c).1)).put (p := ⟨w.heap.size + 1, 6, none⟩) (by show w.heap.size + 1 < w.heap.size + 2; omega) (.int .i64 (cutT c).2)).put (p := ⟨w.heap.size + 1, 7, none⟩) (by show w.heap.size + 1 < w.heap.size + 2; omega) (.slice A' subs.length cp)).base (by omega)⟩
end Go.Proofs.YtkbkkceeolclmaaGreatDoor.X
