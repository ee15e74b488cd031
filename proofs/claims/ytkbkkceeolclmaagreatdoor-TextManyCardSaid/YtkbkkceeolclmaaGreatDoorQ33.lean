/- What is wrong with a rule that was read, whatever its symbols are. -/
import Derived.Test.YtkbkkceeolclmaaGreatDoorQ22
import Derived.Test.YtkbkkceeolclmaaGreatDoorQ32
set_option linter.unusedVariables false
set_option linter.unusedSimpArgs false
namespace Go.TX
mutual
theorem heldC_size : ∀ x : Cd, csize (heldC x) = csize x
  | .mk k a b c subs => by simp [heldC, csize, heldL_size subs]
theorem heldL_size : ∀ l : List Cd, csizeL (heldL l) = csizeL l
  | [] => rfl
  | x :: l => by simp [heldL, csizeL, heldC_size x, heldL_size l]
end
end Go.TX
namespace Go.Proofs.YtkbkkceeolclmaaGreatDoor.X
open Go.RowKit Go.TX Go.Proofs.YtkbkkceeolclmaaGreatDoorW.PrintWords Go.Proofs.YtkbkkceeolclmaaGreatDoorL
attribute [local go_sem] YReg.envOf
set_option maxRecDepth 100000 in
set_option maxHeartbeats 8000000 in
theorem checked_walk (nm : List UInt8) (hnm : nm.length ≤ 5000) (subs : List Cd) (A : Option Addr) (cap : Nat) (w : World) (F : Nat → Prop) (hn : csizeL subs ≤ 5000) (hR : RepL evA w F subs A 0) :
    Calls Tryz.prog 36 #[.agg #[.string (str nm), .slice A subs.length cap]] w fun e W => e = .returned (.int .i64 (rchk nm (heldL subs))) ∧ Below w.heap.size w W := by
  obtain ⟨i0, hi, hz0, hz1, hz2⟩ := info_parts info72
  replace hi := Aside0.mk hi
  replace hz0 := Aside0.mk hz0
  replace hz1 := Aside0.mk hz1
  replace hz2 := Aside0.mk hz2
  have hlen := csizeL_len subs
  have hmax : 1000000 ≤ maxLen := by decide
  have hB1 := Aside0.mk (((Below.refl w.heap.size w).alloc (Nat.le_refl _) (.cells #[.string (str nm), .slice A subs.length cap] 25)).alloc (by simp) (.cells #[.string (str nm), .slice none 0 0] 25))
  have hx0 := blk_new w (.cells #[.string (str nm), .slice A subs.length cap] 25)
  have hx1 := Aside0.mk (blk_alloc hx0 (.cells #[.string (str nm), .slice none 0 0] 25))
  have hp1 := blk_new (w.alloc (.cells #[.string (str nm), .slice A subs.length cap] 25)) (.cells #[.string (str nm), .slice none 0 0] 25)
  simp only [World.size_alloc] at hp1
  replace hp1 := Aside0.mk hp1
  have hs1 := Aside0.mk (show w.heap.size + 2 ≤ ((w.alloc (.cells #[.string (str nm), .slice A subs.length cap] 25)).alloc (.cells #[.string (str nm), .slice none 0 0] 25)).heap.size by simp)
  have hRb := Aside0.mk (RepL.bound subs A 0 hR)
  obtain ⟨rv, hrv⟩ : ∃ q, rchk nm (heldL subs) = q := ⟨_, rfl⟩
  rw [hrv]
  replace hrv := Aside0.mk hrv
  clear hR
  have e0 := (blk_cell hx0 0).trans (show _ = some (Value.string (str nm)) from rfl)
  clear hx0
  go_enter Tryz.func36, Tryz.ntmps36
  go_upto_region 2 with fail
  clear e0
  generalize (w.alloc (.cells #[.string (str nm), .slice A subs.length cap] 25)).alloc (.cells #[.string (str nm), .slice none 0 0] 25) = V at hB1 hx1 hp1 hs1 ⊢
  have e1 := (blk_cell hx1.out 1).trans (show _ = some (Value.slice A subs.length cap) from rfl)
  go_upto_region 3 with fail
  go_loopw [12] (fun i wr => ∃ (j : Nat) (v : Value), i = .int .i64 j ∧ j ≤ subs.length ∧ wr.heap[w.heap.size + 1]? = some (.cells #[.string (str nm), v] 25 (0, 0)) ∧ BX (w.heap.size + 2) wr v (heldL (subs.take j)) ∧ Below w.heap.size w wr ∧ w.heap.size + 2 ≤ wr.heap.size) (fun i _ => subs.length - (intOf i).toNat)
  case atStart => exact ⟨0, _, rfl, Nat.zero_le _, hp1.out, BX.nil _ _, hB1.out, hs1.out⟩
  case round =>
    obtain ⟨j, v, rfl, hj, hgr, hbr, hBw, hsz⟩ := hrel
    clear e1 hx1 hB1 hp1 hs1
    clear V
    have hll : (heldL (subs.take j)).length = j := by rw [heldL_len, List.length_take_of_le hj]
    obtain ⟨A', cp, rfl⟩ : ∃ A' cp, v = .slice A' j cp := by
      obtain ⟨A', cp, e⟩ := hbr.form
      rw [hll] at e
      exact ⟨A', cp, e⟩
    by_cases hlt : j < subs.length
    · obtain ⟨b', o, k', x, y, z, subs', B, cap', rfl, hbl, hx, hlen', hR', htk, hle, c0, c1, c2, c3, c4, c5, c6, c7⟩ := sub_at (RepL.move (W := wr) _ _ _ hRb.out (fun b hb _ => hBw.block b hb.2)) hlt
      have hAB : Below wr.heap.size wr (wr.alloc (oC evA 72 k' x y z (.slice B subs'.length cap'))) := (Below.refl _ _).alloc (Nat.le_refl _) _
      have hBW := Aside0.mk (hBw.trans (hAB.mono hBw.size))
      have hRW := Aside0.mk (hR'.below hAB)
      have hgW := Aside0.mk (blk_alloc hgr (oC evA 72 k' x y z (.slice B subs'.length cap')))
      have hxW := Aside0.mk (blk_new wr (oC evA 72 k' x y z (.slice B subs'.length cap')))
      have hbW := Aside0.mk (hbr.below hAB)
      have hsW := Aside0.mk (Nat.le_trans hsz hAB.size)
      have hih := Aside0.mk (held_walk (csizeL subs' + 1) k' x y z subs' B cap')
      have hls : csizeL subs' < csizeL subs' + 1 := by omega
      have hRn : csizeL subs' + 1 ≤ 1000000 := by omega
      replace hx := Aside0.mk hx
      replace hls := Aside0.mk hls
      replace hlen' := Aside0.mk hlen'
      clear hgr hbr hBw hAB hR' htk hle hsz
      go_upto_region 5 with fail
      generalize wr.alloc (oC evA 72 k' x y z (.slice B subs'.length cap')) = W at hBW hRW hgW hxW hbW hsW ⊢
      clear c0 c1 c2 c3 c4 c5 c6 c7 hbl
      generalize hnw : wr.heap.size = nw at hxW ⊢
      clear hnw
      clear wr
      have t0 : ∀ W', YReg.Ext W.drew W' → W'.cell? ⟨w.heap.size + 1, 1, none⟩ = some (.slice A' j cp) := fun W' h => (blk_cell ((h.of_drew.block _ (blk_lt hgW.out)).trans hgW.out) 1).trans rfl
      have bx := fun W' (h : YReg.Ext W.drew W') => box8 ((h.of_drew.block _ (blk_lt hxW.out)).trans hxW.out)
      have s0 : ∀ W', YReg.Ext W.drew W' → W'.cell? ⟨nw, 0, none⟩ = some (.int .i64 k') := fun W' h => (bx W' h).1
      have s1 : ∀ W', YReg.Ext W.drew W' → W'.cell? ⟨nw, 1, none⟩ = some (.bool x.1) := fun W' h => (bx W' h).2.1
      have s2 : ∀ W', YReg.Ext W.drew W' → W'.cell? ⟨nw, 2, none⟩ = some (.int .i64 x.2) := fun W' h => (bx W' h).2.2.1
      have s3 : ∀ W', YReg.Ext W.drew W' → W'.cell? ⟨nw, 3, none⟩ = some (.bool y.1) := fun W' h => (bx W' h).2.2.2.1
      have s4 : ∀ W', YReg.Ext W.drew W' → W'.cell? ⟨nw, 4, none⟩ = some (.int .i64 y.2) := fun W' h => (bx W' h).2.2.2.2.1
      have s5 : ∀ W', YReg.Ext W.drew W' → W'.cell? ⟨nw, 5, none⟩ = some (.bool z.1) := fun W' h => (bx W' h).2.2.2.2.2.1
      have s6 : ∀ W', YReg.Ext W.drew W' → W'.cell? ⟨nw, 6, none⟩ = some (.int .i64 z.2) := fun W' h => (bx W' h).2.2.2.2.2.2.1
      have s7 : ∀ W', YReg.Ext W.drew W' → W'.cell? ⟨nw, 7, none⟩ = some (.slice B subs'.length cap') := fun W' h => (bx W' h).2.2.2.2.2.2.2
      clear bx
      have k62 : Aside0 (∀ W', YReg.Ext W.drew W' → Calls Tryz.prog 62 #[aC evA k' x y z (.slice B subs'.length cap')] W' fun e W2 => ∃ u, e = .returned u ∧ YReg.Ext W' W2 ∧ IsX W.heap.size k' (cutT x) (cutT y) (cutT z) (heldL subs') u W2) := ⟨fun W' h => (hih.out W' _ hls.out hRn (hRW.out.below h.of_drew)).mono fun e W2 ⟨u, h1, h2, h3⟩ => ⟨u, h1, h2, h3.base h.of_drew.size⟩⟩
      refine YReg.wp_region_tail 5 none YReg.Ext YReg.Ext YReg.Ext.refl YReg.Ext.trans YReg.Ext.trans (fun _ _ h => h) (by kernel_rfl) (by kernel_rfl) (by kernel_rfl) [(3, .det (.pointer (some ⟨w.heap.size + 1, 0, none⟩))), (5, .det (.pointer (some ⟨nw, 0, none⟩)))] (YReg.base_cons rfl (YReg.base_cons rfl YReg.base_nil)) ?_
      simp only [List.take_succ_cons, List.take_zero, List.drop_succ_cons, List.drop_zero]
      repeat (first
        | (refine YReg.walk_calln (by decide) IsX.up k62.out rfl (by kernel_rfl) (by kernel_rfl) _ rfl (by kernel_rfl) (by kernel_rfl) ?_)
        | (refine YReg.run_1 (by decide) YReg.Ext.refl rfl rfl _ rfl (by kernel_rfl) (by kernel_rfl) ?_; apply Exists.intro; refine ⟨fun ρ W hE h1 => ?_, ?_⟩; (go_simp; try rfl))
        | (refine YReg.nd_1n (by decide) (InX W.heap.size k' (cutT x) (cutT y) (cutT z) (heldL subs')) InX.up rfl rfl (fun ρ W1 hE ⟨S, e1, h2⟩ => by obtain ⟨a0, c0, e⟩ := h2.form; subst e; exact ⟨_, _, by (go_simp; try rfl), (Below.refl _ W1).alloc (Nat.le_refl _) _, W1.heap.size, _, rfl, blk_new _ _, h2.below ((Below.refl _ W1).alloc (Nat.le_refl _) _), by simp⟩) _ rfl (by kernel_rfl) (by kernel_rfl) ?_))
      intro ρ W' hE hn
      obtain ⟨⟨_, hc1⟩, gb, S, e23, hgb, hS, hgbl⟩ := hn
      have hBe := hE.of_drew
      obtain ⟨A2, c2, rfl⟩ := hS.form
      have hB' := Aside0.mk (hBW.out.trans (hBe.mono hBW.out.size))
      have hg' := Aside0.mk ((hBe.block _ (blk_lt hgW.out)).trans hgW.out)
      have hb' := hbW.out.below hBe
      obtain ⟨css, hcl, hco, hcr⟩ := hb'
      rw [hll] at hco hcl
      have hown : Aside0 (∀ b, Value.ownBlock (.slice A' j cp) = some b → b < W.heap.size) := by
        obtain ⟨css2, _, hco2, _⟩ := hbW.out
        exact ⟨fun b hb => (owner_lt hco2 hb).2⟩
      replace hS := Aside0.mk hS
      have hgb' := Aside0.mk hgb
      have hcl' : css.length = (heldL (subs.take j)).length := by rw [hll]; exact hcl
      replace hcl' := Aside0.mk hcl'
      replace hcr := Aside0.mk hcr
      have hgs : w.heap.size + 2 ≤ W'.heap.size := Nat.le_trans hsW.out hBe.size
      have hsW' := Aside0.mk hsW.out
      have hglt := Aside0.mk (blk_lt hg'.out)
      simp only [e23]
      clear hE hc1 hgb hgbl k62 t0 s0 s1 s2 s3 s4 s5 s6 s7 hBe hgW hxW hbW hBW hRW hih e23 hcl hsW
      generalize ρ 19 = x19
      simp only [Act.put, List.setIfInBounds_toArray, List.set_cons_zero, List.set_cons_succ]
      have hj1 : j + 1 ≤ maxLen := by omega
      have hj2 : (j + 1) * 80 ≤ 140737488355328 := by omega
      replace hll := Aside0.mk hll
      go_wp2_with (at_builtin; refine wpList_append_own2 rfl _ _ 23 rfl (w.heap.size + 2) 72 i0 (aC evA 0 (false, 0) (false, 0) (false, 0) (.slice none 0 0)) 8 80 Tryz.underlying23 hi.out hz0.out hz1.out hz2.out rfl (by decide) _ j css.flatten rfl hco ⟨gb, 0, none⟩ 1 1 [.int .i64 k', .bool (cutT x).1, .int .i64 (cutT x).2, .bool (cutT y).1, .int .i64 (cutT y).2, .bool (cutT z).1, .int .i64 (cutT z).2, .slice A2 (heldL subs').length c2] rfl (by decide) rfl (cells_at hgb'.out) (by simp [Value.oneCell']) hj1 hj2 hgs ?_; intro v3 w3 hown3 hgr3 hfr3; obtain ⟨A3, c3, rfl⟩ := owns_form hown3; have hg3 := (hgr3.block (w.heap.size + 1) hglt.out (fun e => by have := (owner_lt hco e.symm).1; omega)).trans hg'.out; have f7 := blk_frozen hg3 1; have p7 := (blk_cell hg3 1).trans (show _ = some (Value.slice A' j cp) from rfl); replace hg3 := Aside0.mk hg3; replace hown3 := Aside0.mk hown3; replace hgr3 := Aside0.mk hgr3; replace hfr3 := Aside0.mk hfr3)
      go_roundw
      case rel =>
        have htk : heldL (subs.take (j + 1)) = heldL (subs.take j) ++ [.mk k' (cutT x) (cutT y) (cutT z) (heldL subs')] := by
          rw [List.take_succ_eq_append_getElem hlt, hx.out, heldL_app]
          rfl
        refine ⟨j + 1, .slice A3 (j + 1) c3, by go_num, by omega, blk_put hg3.out 1 _ rfl, ?_, ?_, ?_⟩
        · rw [htk]
          refine (BX.snoc (W := W') (v := .slice A' j cp) hcl'.out hcr.out rfl (hS.out.rep (by rw [heldL_len]; exact hlen'.out)) hsW'.out hown.out (by rw [hll.out]; exact hown3.out) hgr3.out hfr3.out).put (p := ⟨w.heap.size + 1, 1, none⟩) (by show w.heap.size + 1 < w.heap.size + 2; omega) _
        · exact (hB'.out.grown hgr3.out (by omega) (fun b hb => by have := (owner_lt hco hb).1; omega)).setCell (p := ⟨w.heap.size + 1, 1, none⟩) (Nat.le_succ _) _
        · have := hgr3.out.size
          have h2 : w.heap.size + 2 ≤ w3.heap.size := by omega
          simpa [World.setCell] using h2
      case measure => simp [intOf]; omega
    · obtain rfl : j = subs.length := by omega
      rw [List.take_length] at hbr
      obtain ⟨A2, c2, e, hrd⟩ := hbr.reads
      rw [heldL_len] at e
      cases e
      have hcall := rule_walk nm hnm (heldL subs) A' cp wr _ (by rw [heldL_size]; exact hn) hrd
      rw [hrv.out, heldL_len] at hcall
      replace hcall := Aside0.mk hcall
      have g0 := (blk_cell hgr 0).trans (show _ = some (Value.string (str nm)) from rfl)
      have g1 := (blk_cell hgr 1).trans (show _ = some (Value.slice A' subs.length cp) from rfl)
      replace hBw := Aside0.mk hBw
      clear hbr hrd hgr
      go_wp2_with (go_at_call 28; refine hcall.out.mono ?_; rintro e w2 ⟨rfl, hb⟩; replace hb := Aside0.mk hb)
      go_ret
      exact ⟨rfl, hBw.out.trans (hb.out.mono hBw.out.size)⟩
end Go.Proofs.YtkbkkceeolclmaaGreatDoor.X
