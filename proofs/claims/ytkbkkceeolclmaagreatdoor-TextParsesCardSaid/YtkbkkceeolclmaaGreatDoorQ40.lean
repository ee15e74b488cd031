/- The document's rule. The document's Same of two equal rules. -/
import Derived.Test.YtkbkkceeolclmaaGreatDoorQ12
import Derived.Test.YtkbkkceeolclmaaGreatDoorQ37
import Derived.Test.YtkbkkceeolclmaaGreatDoorQv
set_option linter.unusedVariables false
set_option linter.unusedSimpArgs false
namespace Go.Proofs.YtkbkkceeolclmaaGreatDoor.X
open Go.RowKit Go.TX Go.Proofs.YtkbkkceeolclmaaGreatDoorW.PrintWords Go.Proofs.YtkbkkceeolclmaaGreatDoorL
abbrev o38 (s : ByteArray) (S : Value) : Obj := .cells #[.string s, S] 38
abbrev z38 : Obj := .cells #[.string ⟨#[]⟩, .slice none 0 0] 38
abbrev o25 (s : ByteArray) (S : Value) : Obj := .cells #[.string s, S] 25
attribute [local go_sem] YReg.envOf
set_option maxRecDepth 100000 in
set_option maxHeartbeats 4000000 in
theorem ref13 (n : Nat) (name : ByteArray) (subs : List Cd) (A : Option Addr) (cap : Nat) (w : World) (F : Nat → Prop) (hn : csizeL subs < n) (hn1 : n ≤ 1000000) (hR : RepL evA w F subs A 0) :
    Calls Tryz.prog 13 #[.agg #[.string name, .slice A subs.length cap]] w fun e W => ∃ S, e = .returned (.agg #[.string name, S]) ∧ YReg.Ext w W ∧ BR w.heap.size W S subs := by
  obtain ⟨i0, hi, hz0, hz1, hz2⟩ := info_parts info81
  replace hi := Aside0.mk hi
  replace hz0 := Aside0.mk hz0
  replace hz1 := Aside0.mk hz1
  replace hz2 := Aside0.mk hz2
  have hlen := csizeL_len subs
  have hmax : 1000000 ≤ maxLen := by decide
  have hB0 := Aside0.mk ((((Below.refl w.heap.size w).alloc (Nat.le_refl _) (o25 name (.slice A subs.length cap))).alloc (by simp) z38).alloc (by simp; omega) (o38 name (.slice none 0 0)))
  have hp0 := blk_alloc (blk_alloc (blk_new w (o25 name (.slice A subs.length cap))) z38) (o38 name (.slice none 0 0))
  have ho0 := blk_alloc (blk_new (w.alloc (o25 name (.slice A subs.length cap))) z38) (o38 name (.slice none 0 0))
  have hg0 := blk_new ((w.alloc (o25 name (.slice A subs.length cap))).alloc z38) (o38 name (.slice none 0 0))
  simp only [World.size_alloc] at ho0 hg0
  replace hp0 := Aside0.mk hp0
  replace ho0 := Aside0.mk ho0
  replace hg0 := Aside0.mk hg0
  replace hR := Aside0.mk hR
  go_enter Tryz.func13, Tryz.ntmps13
  go_upto_region 3 with fail
  generalize ((w.alloc (o25 name (.slice A subs.length cap))).alloc z38).alloc (o38 name (.slice none 0 0)) = V at hB0 hp0 ho0 hg0 ⊢
  have hgw := Aside0.mk (show w.heap.size < w.heap.size + 1 + 1 by omega)
  have hgo := Aside0.mk (show w.heap.size + 1 < w.heap.size + 1 + 1 by omega)
  generalize w.heap.size + 1 + 1 = g at hgw hgo hg0 ⊢
  go_loopw [12] (fun i wr => ∃ (j : Nat) (v : Value), i = .int .i64 j ∧ j ≤ subs.length ∧ wr.heap[g]? = some (o38 name v) ∧ BR (g + 1) wr v (subs.take j) ∧ Below w.heap.size w wr ∧ wr.heap[w.heap.size + 1]? = some z38) (fun i _ => subs.length - (intOf i).toNat)
  case atStart => exact ⟨0, _, rfl, Nat.zero_le _, hg0.out, BR.nil _ _, hB0.out, ho0.out⟩
  case round =>
    obtain ⟨j, v, rfl, hj, hgr, hbr, hBw, hor⟩ := hrel
    clear hB0 hg0 hp0 ho0
    clear V
    have hgl := blk_lt hgr
    obtain ⟨A', cp, rfl⟩ : ∃ A' cp, v = .slice A' j cp := by
      obtain ⟨A', cp, e⟩ := hbr.form
      rw [List.length_take_of_le hj] at e
      exact ⟨A', cp, e⟩
    by_cases hlt : j < subs.length
    · obtain ⟨b', o, k', x, y, z, subs', B, cap', rfl, hbl, hx, hlen', hR', htk, hle, c0, c1, c2, c3, c4, c5, c6, c7⟩ := sub_at (hR.out.below hBw) hlt
      have hAB : Below wr.heap.size wr (wr.alloc (oC evA 72 k' x y z (.slice B subs'.length cap'))) := (Below.refl _ _).alloc (Nat.le_refl _) _
      have hBW := Aside0.mk (hBw.trans (hAB.mono hBw.size))
      have hRW := Aside0.mk (hR'.below hAB)
      have hgW := Aside0.mk (blk_alloc hgr (oC evA 72 k' x y z (.slice B subs'.length cap')))
      have hoW := Aside0.mk (blk_alloc hor (oC evA 72 k' x y z (.slice B subs'.length cap')))
      have hxW := Aside0.mk (blk_new wr (oC evA 72 k' x y z (.slice B subs'.length cap')))
      have hbW := Aside0.mk (hbr.below hAB)
      have hih := Aside0.mk (ref32 n k' x y z subs' B cap')
      have hls : csizeL subs' < n := by omega
      replace hx := Aside0.mk hx
      replace hgl := Aside0.mk hgl
      replace hls := Aside0.mk hls
      replace hlen' := Aside0.mk hlen'
      clear hgr hor hbr hBw hAB hR' htk hle
      go_upto_region 5 with fail
      generalize wr.alloc (oC evA 72 k' x y z (.slice B subs'.length cap')) = W at hBW hRW hgW hoW hxW hbW ⊢
      clear c0 c1 c2 c3 c4 c5 c6 c7 hbl
      generalize hnw : wr.heap.size = nw at hxW hgl ⊢
      clear hnw
      clear wr
      have t0 : ∀ W', YReg.Ext W.drew W' → W'.cell? ⟨g, 1, none⟩ = some (.slice A' j cp) := fun W' h => (blk_cell ((h.of_drew.block _ (blk_lt hgW.out)).trans hgW.out) 1).trans rfl
      have bx := fun W' (h : YReg.Ext W.drew W') => box8 ((h.of_drew.block _ (blk_lt hxW.out)).trans hxW.out)
      have s0 : ∀ W', YReg.Ext W.drew W' → W'.cell? ⟨nw, 0, none⟩ = some (.int .i64 k') := fun W' h => (bx W' h).1
      have s1 : ∀ W', YReg.Ext W.drew W' → W'.cell? ⟨nw, 1, none⟩ = some (.bool x.1) := fun W' h => (bx W' h).2.1
      have s2 : ∀ W', YReg.Ext W.drew W' → W'.cell? ⟨nw, 2, none⟩ = some (.int .i64 x.2) := fun W' h => (bx W' h).2.2.1
      have s3 : ∀ W', YReg.Ext W.drew W' → W'.cell? ⟨nw, 3, none⟩ = some (.bool y.1) := fun W' h => (bx W' h).2.2.2.1
      have s4 : ∀ W', YReg.Ext W.drew W' → W'.cell? ⟨nw, 4, none⟩ = some (.int .i64 y.2) := fun W' h => (bx W' h).2.2.2.2.1
      have s5 : ∀ W', YReg.Ext W.drew W' → W'.cell? ⟨nw, 5, none⟩ = some (.bool z.1) := fun W' h => (bx W' h).2.2.2.2.2.1
      have s6 : ∀ W', YReg.Ext W.drew W' → W'.cell? ⟨nw, 6, none⟩ = some (.int .i64 z.2) := fun W' h => (bx W' h).2.2.2.2.2.2.1
      have s7 : ∀ W', YReg.Ext W.drew W' → W'.cell? ⟨nw, 7, none⟩ = some (.slice B subs'.length cap') := fun W' h => (bx W' h).2.2.2.2.2.2.2
      clear bx
      have hRn : n ≤ 1000000 := hn1
      have k32 : Aside0 (∀ W', YReg.Ext W.drew W' → Calls Tryz.prog 32 #[aC evA k' x y z (.slice B subs'.length cap')] W' fun e W2 => ∃ u, e = .returned u ∧ YReg.Ext W' W2 ∧ IsC W.heap.size k' x y z subs' u W2) := ⟨fun W' h => (hih.out W' F hls.out hRn (hRW.out.below h.of_drew)).mono fun e W2 ⟨u, h1, h2, h3⟩ => ⟨u, h1, h2, h3.base h.of_drew.size⟩⟩
      refine YReg.wp_region_tail 5 none YReg.Ext YReg.Ext YReg.Ext.refl YReg.Ext.trans YReg.Ext.trans (fun _ _ h => h) (by kernel_rfl) (by kernel_rfl) (by kernel_rfl) [(3, .det (.pointer (some ⟨g, 0, none⟩))), (5, .det (.pointer (some ⟨nw, 0, none⟩)))] (YReg.base_cons rfl (YReg.base_cons rfl YReg.base_nil)) ?_
      simp only [List.take_succ_cons, List.take_zero, List.drop_succ_cons, List.drop_zero]
      repeat (first
        | (refine YReg.walk_calln (by decide) IsC.up k32.out rfl (by kernel_rfl) (by kernel_rfl) _ rfl (by kernel_rfl) (by kernel_rfl) ?_)
        | (refine YReg.run_1 (by decide) YReg.Ext.refl rfl rfl _ rfl (by kernel_rfl) (by kernel_rfl) ?_; apply Exists.intro; refine ⟨fun ρ W hE h1 => ?_, ?_⟩; (go_simp; try rfl))
        | (refine YReg.nd_1n (by decide) (InC 81 W.heap.size k' x y z subs') InC.up rfl rfl (fun ρ W1 hE ⟨S, e1, h2⟩ => by obtain ⟨a0, c0, e⟩ := h2.form; subst e; exact ⟨_, _, by (go_simp; try rfl), (Below.refl _ W1).alloc (Nat.le_refl _) _, W1.heap.size, _, rfl, blk_new _ _, h2.below ((Below.refl _ W1).alloc (Nat.le_refl _) _), by simp⟩) _ rfl (by kernel_rfl) (by kernel_rfl) ?_))
      intro ρ W' hE hn
      obtain ⟨⟨_, hc1⟩, gb, S, e23, hgb, hS, hgbl⟩ := hn
      have hBe := hE.of_drew
      obtain ⟨A2, c2, rfl⟩ := hS.form
      have hB' := Aside0.mk (hBW.out.trans (hBe.mono hBW.out.size))
      have hgl' := Nat.lt_of_lt_of_le (blk_lt hgW.out) hBe.size
      have hg' := Aside0.mk ((hBe.block _ (blk_lt hgW.out)).trans hgW.out)
      have ho' := Aside0.mk ((hBe.block _ (blk_lt hoW.out)).trans hoW.out)
      have hb' := hbW.out.below hBe
      obtain ⟨css, hcl, hco, hcr⟩ := hb'
      have hlt' := List.length_take_of_le hj
      rw [hlt'] at hco
      have hown : Aside0 (∀ b, Value.ownBlock (.slice A' j cp) = some b → b < W.heap.size) := by
        obtain ⟨css2, _, hco2, _⟩ := hbW.out
        exact ⟨fun b hb => (owner_lt hco2 hb).2⟩
      replace hS := Aside0.mk hS
      have hgb' := Aside0.mk hgb
      replace hcl := Aside0.mk hcl
      replace hcr := Aside0.mk hcr
      have hgW2 := Aside0.mk (Nat.lt_of_lt_of_le (blk_lt hgW.out) (Nat.le_refl _))
      have hgs : g + 1 ≤ W'.heap.size := hgl'
      simp only [e23]
      clear hE hc1 hgb hgbl k32 t0 s0 s1 s2 s3 s4 s5 s6 s7 hBe hgW hoW hxW hbW hBW hRW hih e23
      generalize ρ 22 = x22
      simp only [Act.put, List.setIfInBounds_toArray, List.set_cons_zero, List.set_cons_succ]
      replace hlt' := Aside0.mk hlt'
      have hj1 : j + 1 ≤ maxLen := by omega
      have hj2 : (j + 1) * 80 ≤ 140737488355328 := by omega
      go_wp2_with (at_builtin; refine wpList_append_own2 rfl _ _ 36 rfl (g + 1) 81 i0 (aC evR 0 (false, 0) (false, 0) (false, 0) (.slice none 0 0)) 8 80 Tryz.underlying36 hi.out hz0.out hz1.out hz2.out rfl (by decide) _ j css.flatten rfl hco ⟨gb, 0, none⟩ 1 1 [.int .i64 k', evR x.1, .int .i64 x.2, evR y.1, .int .i64 y.2, evR z.1, .int .i64 z.2, .slice A2 subs'.length c2] rfl (by decide) rfl (cells_at hgb'.out) (by simp [Value.oneCell']) hj1 hj2 hgs ?_; intro v3 w3 hown3 hgr3 hfr3; obtain ⟨A3, c3, rfl⟩ := owns_form hown3; have hg3 := (hgr3.block g hgl' (fun e => by have := (owner_lt hco e.symm).1; omega)).trans hg'.out; have f7 := blk_frozen hg3 1; have p7 := (blk_cell hg3 1).trans (show _ = some (Value.slice A' j cp) from rfl); replace hg3 := Aside0.mk hg3; replace hown3 := Aside0.mk hown3; replace hgr3 := Aside0.mk hgr3; replace hfr3 := Aside0.mk hfr3)
      go_roundw
      case rel =>
        have htk : subs.take (j + 1) = subs.take j ++ [.mk k' x y z subs'] := by rw [List.take_succ_eq_append_getElem hlt, hx.out]
        have hcount := hlt'.out
        refine ⟨j + 1, .slice A3 (j + 1) c3, by go_num, by omega, blk_put hg3.out 1 _ rfl, ?_, ?_, ?_⟩
        · rw [htk]
          refine (BR.snoc hcl.out (v := .slice A' j cp) (by rw [hcount]; exact hco) hcr.out rfl (hS.out.rep hlen'.out) hgW2.out hown.out (by rw [hcount]; exact hown3.out) hgr3.out hfr3.out).far (fun b hb hl => Below.heap_setCell _ _ _ _ (by show b ≠ g; omega))
        · exact (hB'.out.grown hgr3.out (by have := hgw.out; omega) (fun b hb => by have := (owner_lt hco hb).1; have := hgw.out; omega)).setCell (p := ⟨g, 1, none⟩) (Nat.le_of_lt hgw.out) _
        · exact blk_far ((hgr3.out.block (w.heap.size + 1) (by have := hgo.out; omega) (fun e => by have := (owner_lt hco e.symm).1; have := hgo.out; omega)).trans ho'.out) (p := ⟨g, 1, none⟩) (Nat.ne_of_lt hgo.out) _
      case measure => simp [intOf]; omega
    · obtain rfl : j = subs.length := by omega
      rw [List.take_length] at hbr
      have g0 := (blk_cell hgr 0).trans (show _ = some (Value.string name) from rfl)
      have g1 := (blk_cell hgr 1).trans (show _ = some (Value.slice A' subs.length cp) from rfl)
      have r0 := (blk_cell hor 0).trans (show _ = some (Value.string ⟨#[]⟩) from rfl)
      have r1 := (blk_cell hor 1).trans (show _ = some (Value.slice none 0 0) from rfl)
      have f0 := blk_frozen hor 0
      have f1 := blk_frozen hor 1
      replace hor := Aside0.mk hor
      replace hgr := Aside0.mk hgr
      replace hbr := Aside0.mk hbr
      replace hBw := Aside0.mk hBw
      go_wp2
      have hlt9 : w.heap.size + 1 < g + 1 := by have := hgo.out; omega
      have hr9 := (blk_put (blk_put hor.out 0 (.string name) rfl) 1 (.slice A' subs.length cp) rfl)
      have hR9 := ((hbr.out.set (p := ⟨w.heap.size + 1, 0, none⟩) hlt9 (.string name)).set (p := ⟨w.heap.size + 1, 1, none⟩) hlt9 (.slice A' subs.length cp))
      have hB9 := ((hBw.out.setCell (p := ⟨w.heap.size + 1, 0, none⟩) (Nat.le_succ _) (.string name)).setCell (p := ⟨w.heap.size + 1, 1, none⟩) (Nat.le_succ _) (.slice A' subs.length cp))
      replace hr9 := (show _ = some (o38 name (.slice A' subs.length cp)) from hr9)
      have z0 := (blk_cell hr9 0).trans (show _ = some (Value.string name) from rfl)
      have z1 := (blk_cell hr9 1).trans (show _ = some (Value.slice A' subs.length cp) from rfl)
      refine bodyPost_ret (v := .agg #[.string name, .slice A' subs.length cp]) (by simp [results, Tryz.results13, go_sem, z0, z1]) rfl ⟨_, rfl, hB9, hR9.base (by have := hgw.out; omega)⟩
end Go.Proofs.YtkbkkceeolclmaaGreatDoor.X
namespace Go.Proofs.YtkbkkceeolclmaaGreatDoor.X
open Go.RowKit Go.TX Go.Proofs.YtkbkkceeolclmaaGreatDoorW.PrintWords Go.Proofs.YtkbkkceeolclmaaGreatDoorL
attribute [local go_sem] YReg.envOf
set_option maxRecDepth 100000 in
theorem eq78 (n : Nat) (p q : Int) (x y : Int) (w : World) : (Op.equalIn (n + 2) 78 (.agg #[.int .i64 p, .int .i64 x]) (.agg #[.int .i64 q, .int .i64 y])).run Tryz.prog w = .ok (p == q && x == y) w := by
  have u3 := Tryz.underlying3
  have a3 := Tryz.isAgg3
  have z3 := Tryz.sizeOf3
  refine eqA_of Tryz.underlying78 (by kernel_rfl) ?_
  refine eqf_cons (by rfl) (by go_simp <;> rfl) (by go_simp <;> rfl) (by go_simp) ?_
  exact eqf_last (by rfl) (by go_simp <;> rfl) (by go_simp <;> rfl) (by go_simp)
set_option maxRecDepth 100000 in
theorem eq79 (n : Nat) (a1 b1 c1 a2 b2 c2 : Int) (w : World) : (Op.equalIn (n + 4) 79 (.agg #[.int .i64 a1, .int .i64 a2, .int .i64 b1, .int .i64 b2, .int .i64 c1, .int .i64 c2]) (.agg #[.int .i64 a1, .int .i64 a2, .int .i64 b1, .int .i64 b2, .int .i64 c1, .int .i64 c2])).run Tryz.prog w = .ok true w := by
  have u3 := Tryz.underlying78
  have a3 := Tryz.isAgg78
  have z3 := Tryz.sizeOf78
  have he := eq78
  rw [Op.equalIn]
  simp only [Sem.run_bind, run_underlying Tryz.underlying79, Result.andThen_ok]
  simp only [Std.Legacy.Range.forIn_eq_forIn_range', Std.Legacy.Range.size, Nat.sub_zero, Nat.add_sub_cancel, Nat.div_one, List.range'_succ, List.range'_zero, List.forIn_cons, List.forIn_nil]
  go_simp
attribute [local go_sem high] eq79
set_option maxRecDepth 100000 in
set_option maxHeartbeats 4000000 in
theorem same38 (n : Nat) : ∀ (k : Int) (a b c : Tm) (subs : List Cd) (A1 : Option Addr) (c1 : Nat) (A2 : Option Addr) (c2 : Nat) (w : World) (F1 F2 : Nat → Prop), csizeL subs < n → n ≤ 1000000 → RepL evR w F1 subs A1 0 → RepL evR w F2 subs A2 0 →
    Calls Tryz.prog 38 #[aC evR k a b c (.slice A1 subs.length c1), aC evR k a b c (.slice A2 subs.length c2)] w fun e W => e = .returned (.bool true) ∧ Below w.heap.size w W := by
  induction n with
  | zero => intro k a b c subs A1 c1 A2 c2 w F1 F2 h; omega
  | succ n ih =>
    intro k a b c subs A1 c1 A2 c2 w F1 F2 hn hn1 hR1 hR2
    have hll := csizeL_len subs
    have hB0 := Aside0.mk (((Below.refl w.heap.size w).alloc (Nat.le_refl _) (oC evR 81 k a b c (.slice A1 subs.length c1))).alloc (by simp) (oC evR 81 k a b c (.slice A2 subs.length c2)))
    have hx0 := Aside0.mk (blk_alloc (blk_new w (oC evR 81 k a b c (.slice A1 subs.length c1))) (oC evR 81 k a b c (.slice A2 subs.length c2)))
    have hx1 := blk_new (w.alloc (oC evR 81 k a b c (.slice A1 subs.length c1))) (oC evR 81 k a b c (.slice A2 subs.length c2))
    simp only [World.size_alloc] at hx1
    replace hx1 := Aside0.mk hx1
    replace hR1 := Aside0.mk hR1
    replace hR2 := Aside0.mk hR2
    go_enter Tryz.func38, Tryz.ntmps38
    go_upto_region 1 with fail
    generalize (w.alloc (oC evR 81 k a b c (.slice A1 subs.length c1))).alloc (oC evR 81 k a b c (.slice A2 subs.length c2)) = W0 at hB0 hx0 hx1 ⊢
    obtain ⟨d0, d1, d2, d3, d4, d5, d6, d7⟩ := box8 hx0.out
    obtain ⟨e0, e1, e2, e3, e4, e5, e6, e7⟩ := box8 hx1.out
    go_upto_region 4 with fail
    go_loopw [30] (fun i wr => ∃ j : Nat, i = .int .i64 j ∧ j ≤ subs.length ∧ Below w.heap.size w wr ∧ wr.heap[w.heap.size]? = some (oC evR 81 k a b c (.slice A1 subs.length c1)) ∧ wr.heap[w.heap.size + 1]? = some (oC evR 81 k a b c (.slice A2 subs.length c2))) (fun i _ => subs.length - (intOf i).toNat)
    case atStart => exact ⟨0, rfl, Nat.zero_le _, hB0.out, hx0.out, hx1.out⟩
    case round =>
      obtain ⟨j, rfl, hj, hBw, hy0, hy1⟩ := hrel
      clear hB0 hx0 hx1 d0 d1 d2 d3 d4 d5 d6 d7 e0 e1 e2 e3 e4 e5 e6 e7
      clear W0
      by_cases hlt : j < subs.length
      · obtain ⟨b1, o1, k1, x1, y1, z1, s1, B1, p1, rfl, hbl1, hq1, hlen1, hr1, htk, hle, u0, u1, u2, u3, u4, u5, u6, u7⟩ := sub_at (hR1.out.below hBw) hlt
        obtain ⟨b2, o2, k2, x2, y2, z2, s2, B2, p2, rfl, hbl2, hq2, hlen2, hr2, _, _, v0, v1, v2, v3, v4, v5, v6, v7⟩ := sub_at (hR2.out.below hBw) hlt
        have hqq := hq1.symm.trans hq2
        injection hqq with g1 g2 g3 g4 g5
        subst g1 g2 g3 g4 g5
        have t0 : ∀ W', YReg.Ext wr.drew W' → W'.cell? ⟨w.heap.size, 7, none⟩ = some (.slice (some ⟨b1, o1, none⟩) subs.length c1) := fun W' h => (blk_cell ((h.of_drew.block _ (blk_lt hy0)).trans hy0) 7).trans rfl
        have t1 : ∀ W', YReg.Ext wr.drew W' → W'.cell? ⟨w.heap.size + 1, 7, none⟩ = some (.slice (some ⟨b2, o2, none⟩) subs.length c2) := fun W' h => (blk_cell ((h.of_drew.block _ (blk_lt hy1)).trans hy1) 7).trans rfl
        have u0 : ∀ W', YReg.Ext wr.drew W' → W'.cell? _ = _ := fun W' h => (h.of_drew.cell (p := ⟨b1, _, none⟩) hbl1).trans u0
        have u1 : ∀ W', YReg.Ext wr.drew W' → W'.cell? _ = _ := fun W' h => (h.of_drew.cell (p := ⟨b1, _, none⟩) hbl1).trans u1
        have u2 : ∀ W', YReg.Ext wr.drew W' → W'.cell? _ = _ := fun W' h => (h.of_drew.cell (p := ⟨b1, _, none⟩) hbl1).trans u2
        have u3 : ∀ W', YReg.Ext wr.drew W' → W'.cell? _ = _ := fun W' h => (h.of_drew.cell (p := ⟨b1, _, none⟩) hbl1).trans u3
        have u4 : ∀ W', YReg.Ext wr.drew W' → W'.cell? _ = _ := fun W' h => (h.of_drew.cell (p := ⟨b1, _, none⟩) hbl1).trans u4
        have u5 : ∀ W', YReg.Ext wr.drew W' → W'.cell? _ = _ := fun W' h => (h.of_drew.cell (p := ⟨b1, _, none⟩) hbl1).trans u5
        have u6 : ∀ W', YReg.Ext wr.drew W' → W'.cell? _ = _ := fun W' h => (h.of_drew.cell (p := ⟨b1, _, none⟩) hbl1).trans u6
        have u7 : ∀ W', YReg.Ext wr.drew W' → W'.cell? _ = _ := fun W' h => (h.of_drew.cell (p := ⟨b1, _, none⟩) hbl1).trans u7
        have v0 : ∀ W', YReg.Ext wr.drew W' → W'.cell? _ = _ := fun W' h => (h.of_drew.cell (p := ⟨b2, _, none⟩) hbl2).trans v0
        have v1 : ∀ W', YReg.Ext wr.drew W' → W'.cell? _ = _ := fun W' h => (h.of_drew.cell (p := ⟨b2, _, none⟩) hbl2).trans v1
        have v2 : ∀ W', YReg.Ext wr.drew W' → W'.cell? _ = _ := fun W' h => (h.of_drew.cell (p := ⟨b2, _, none⟩) hbl2).trans v2
        have v3 : ∀ W', YReg.Ext wr.drew W' → W'.cell? _ = _ := fun W' h => (h.of_drew.cell (p := ⟨b2, _, none⟩) hbl2).trans v3
        have v4 : ∀ W', YReg.Ext wr.drew W' → W'.cell? _ = _ := fun W' h => (h.of_drew.cell (p := ⟨b2, _, none⟩) hbl2).trans v4
        have v5 : ∀ W', YReg.Ext wr.drew W' → W'.cell? _ = _ := fun W' h => (h.of_drew.cell (p := ⟨b2, _, none⟩) hbl2).trans v5
        have v6 : ∀ W', YReg.Ext wr.drew W' → W'.cell? _ = _ := fun W' h => (h.of_drew.cell (p := ⟨b2, _, none⟩) hbl2).trans v6
        have v7 : ∀ W', YReg.Ext wr.drew W' → W'.cell? _ = _ := fun W' h => (h.of_drew.cell (p := ⟨b2, _, none⟩) hbl2).trans v7
        have k38 : Aside0 (∀ W', YReg.Ext wr.drew W' → Calls Tryz.prog 38 #[aC evR k1 x1 y1 z1 (.slice B1 s1.length p1), aC evR k1 x1 y1 z1 (.slice B2 s1.length p2)] W' fun e W2 => ∃ u, e = .returned u ∧ YReg.Ext W' W2 ∧ u = .bool true) := ⟨fun W' h => (ih k1 x1 y1 z1 s1 B1 p1 B2 p2 W' F1 F2 (by omega) (by omega) (hr1.below h.of_drew) (hr2.below h.of_drew)).mono fun e W2 ⟨h1, h2⟩ => ⟨_, h1, h2, rfl⟩⟩
        replace hq1 := Aside0.mk hq1
        replace hq2 := Aside0.mk hq2
        clear htk hle hlen1 hlen2 hr1 hr2
        replace hBw := Aside0.mk hBw
        replace hy0 := Aside0.mk hy0
        replace hy1 := Aside0.mk hy1
        go_upto_region 6 with fail
        refine YReg.wp_region_tail 11 none YReg.Ext YReg.Ext YReg.Ext.refl YReg.Ext.trans YReg.Ext.trans (fun _ _ h => h) (by kernel_rfl) (by kernel_rfl) (by kernel_rfl) [(2, .det (.pointer (some ⟨w.heap.size, 0, none⟩))), (3, .det (.pointer (some ⟨w.heap.size + 1, 0, none⟩))), (5, .det (.int .i64 (j : Int)))] (YReg.base_cons rfl (YReg.base_cons rfl (YReg.base_cons rfl YReg.base_nil))) ?_
        simp only [List.take_succ_cons, List.take_zero, List.drop_succ_cons, List.drop_zero]
        repeat (first
          | (refine YReg.walk_calld (by decide) k38.out rfl (by kernel_rfl) (by kernel_rfl) _ rfl (by kernel_rfl) (by kernel_rfl) ?_)
          | (refine YReg.run_1 (by decide) YReg.Ext.refl rfl rfl _ rfl (by kernel_rfl) (by kernel_rfl) ?_; apply Exists.intro; refine ⟨fun ρ W hE h1 => ?_, ?_⟩; (go_simp; try rfl))
          | (refine YReg.run_2 (by decide) YReg.Ext.refl rfl rfl rfl _ rfl (by kernel_rfl) (by kernel_rfl) ?_; apply Exists.intro; refine ⟨fun ρ W hE h1 h2 => ?_, ?_⟩; (go_simp; try rfl)))
        intro ρ W1 hE hn
        simp only [Act.put, List.setIfInBounds_toArray, List.set_cons_zero, List.set_cons_succ]
        have hEb := Aside0.mk hE.of_drew
        clear hn hE t0 t1 u0 u1 u2 u3 u4 u5 u6 u7 v0 v1 v2 v3 v4 v5 v6 v7 k38
        go_wp2
        go_roundw
        case rel => exact ⟨j + 1, by go_num, by omega, hBw.out.trans (hEb.out.mono hBw.out.size), (hEb.out.block _ (blk_lt hy0.out)).trans hy0.out, (hEb.out.block _ (blk_lt hy1.out)).trans hy1.out⟩
        case measure => simp [intOf]; omega
      · obtain rfl : j = subs.length := by omega
        replace hBw := Aside0.mk hBw
        clear hy0 hy1
        go_wp2
        go_ret
        exact ⟨rfl, hBw.out⟩
end Go.Proofs.YtkbkkceeolclmaaGreatDoor.X
