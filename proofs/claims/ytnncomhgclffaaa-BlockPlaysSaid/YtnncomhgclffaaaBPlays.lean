/- The walk of the law BlockPlays. -/
import Derived.Test.YtnncomhgclffaaaBApp
import Derived.Deep.CutBlock
import Derived.Test.YtnncomhgclffaaaXReg
namespace Go.Proofs.Ytnncomhgclffaaa.BI
open Go.RowKit Go.Shelf Go.Proofs.YtnncomhgclffaaaW.PrintWords Go.Proofs.YtnncomhgclffaaaL Go.Proofs.Ytnncomhgclffaaa.LL Go.Proofs.Ytnncomhgclffaaa.LS

/-- What the loop over the calls keeps. -/
def Plays (w : World) (bb xb k : Nat) (W : World) : Prop := ∃ ks vs Q, Bz w bb xb ks vs k ks Q W ∧ Tell ks vs Q

/-- A row of texts. -/
def RowOf (L : List ByteArray) (u : Value) (W : World) : Prop := ∃ A c, u = .slice A L.length c ∧ RowS W A L
theorem RowOf.below {L : List ByteArray} {u : Value} {W W' : World} (h : RowOf L u W) (hb : Below W.heap.size W W') : RowOf L u W' := by
  obtain ⟨A, c, e, h⟩ := h
  exact ⟨A, c, e, h.below hb⟩
theorem RowOf.of_owns {B : Nat} {L : List ByteArray} {u : Value} {W : World} (h : W.ownsRow B 9 1 u L.length (L.map Value.string)) : RowOf L u W := by
  obtain ⟨A, c, e, h⟩ := strs_read h
  exact ⟨A, c, e, h⟩

attribute [local go_sem] XReg.envOf

set_option maxHeartbeats 100000000 in
set_option maxRecDepth 100000 in
theorem plays_walk (A : Option Addr) (len cap : Nat) (xs : List (Int × ByteArray × Int)) (w : World) (hr : ReadsRow opB 3 w A len xs) :
    Calls Try.prog 14 #[.slice A len cap] w fun e w' => e = .returned (.bool true) ∧ Below w.heap.size w w' := by
  have HR := Aside0.mk hr
  have hlen : len ≤ 9223372036854775807 := hr.2.1
  clear hr
  by_cases hbig : 100 < len
  · as_aux_lemma =>
      go_enter Try.func14, Try.ntmps14
      go_wp2_with (first | (go_at_call 70; refine (new_did _).mono ?_; rintro e w1 ⟨bb, rfl, h1, b1⟩; replace b1 := Aside0.mk b1; clear h1) | (go_at_call 64; refine (awake_walk _).mono ?_; rintro e w2 ⟨rfl, b2⟩; replace b2 := Aside0.mk b2))
      go_ret
      exact ⟨rfl, b1.out.trans (b2.out.mono b1.out.size)⟩
  · go_enter Try.func14, Try.ntmps14
    go_wp2_with (go_at_call 70; refine (new_did _).mono ?_; rintro e w1 ⟨bb, rfl, h1, b1⟩; replace h1 := Aside0.mk h1; replace b1 := Aside0.mk b1)
    have hStart : Aside0 (Plays w bb w1.heap.size 0 (w1.alloc (.cells #[.slice none 0 0, .slice none 0 0] 116))) := ⟨⟨_, _, _, Bz.start h1.out b1.out, fun _ => rfl, fun p hp => by cases hp⟩⟩
    clear h1 b1
    generalize w1.heap.size = xb at hStart ⊢
    go_loopw [30] (fun i wr => ∃ (k : Nat), i = .int .i64 k ∧ k ≤ len ∧ Plays w bb xb k wr) (fun i _ => len - (intOf i).toNat)
    case atStart => exact ⟨0, rfl, Nat.zero_le _, hStart.out⟩
    case round =>
      obtain ⟨k, rfl, hk, ks, vs, Q, hZ, hT⟩ := hrel
      clear hStart
      by_cases hlt : k < len
      · obtain ⟨b, off, kd, s, v, rfl, hbl, hss, hwv, q0, q1, q2⟩ := opB_cells HR.out hlt
        have hBel : Below w.heap.size w wr := by obtain ⟨_, _, _, _, _, _, h⟩ := hZ; exact h
        have f0 : wr.cell? ⟨b, off + k * 3, none⟩ = some (.int .i64 kd) := (hBel.cell (p := ⟨b, off + k * 3, none⟩) hbl).trans q0
        have f1 : wr.cell? ⟨b, off + k * 3 + 1, none⟩ = some (.string s) := (hBel.cell (p := ⟨b, off + k * 3 + 1, none⟩) hbl).trans q1
        have f2 : wr.cell? ⟨b, off + k * 3 + 2, none⟩ = some (.int .i64 v) := (hBel.cell (p := ⟨b, off + k * 3 + 2, none⟩) hbl).trans q2
        clear q0 q1 q2 hBel
        have hk6 : k < 1000 := by omega
        have hB := Aside0.mk (hZ.newVar (.cells #[.int .i64 kd, .string s, .int .i64 v] 118 (0, 0)))
        clear hZ
        go_upto_region 8 with fail
        generalize wr.alloc (.cells #[.int .i64 kd, .string s, .int .i64 v] 118) = W1 at hB ⊢
        clear f0 f1 f2
        generalize wr.heap.size = q at hB ⊢
        obtain ⟨hnd, hkl, hsm, hvn, hemp, hgood⟩ := hB.out.facts
        have hQl : Q.length ≤ k := by rw [← hT.sum hnd]; exact hsm
        have p0 : W1.cell? ⟨q, 0, none⟩ = some (.int .i64 kd) := (blk_cell hB.out.var 0).trans rfl
        have p1 : W1.cell? ⟨q, 1, none⟩ = some (.string s) := (blk_cell hB.out.var 1).trans rfl
        have p2 : W1.cell? ⟨q, 2, none⟩ = some (.int .i64 v) := (blk_cell hB.out.var 2).trans rfl
        have nq : q < W1.heap.size := blk_lt hB.out.var
        obtain ⟨XA, XB, xc, xd, hX⟩ := hB.out.x
        have hXW : ∀ W', XReg.Ext W1.drew W' → XIs W' xb XA XB xc xd ks Q := fun W' h => hX.below h.of_drew
        have c1 : ∀ W', XReg.Ext W1.drew W' → W'.cell? ⟨q, 1, none⟩ = some (.string s) := fun W' h => (blk_cell (hB.out.below h.of_drew).var 1).trans rfl
        have c2 : ∀ W', XReg.Ext W1.drew W' → W'.cell? ⟨q, 2, none⟩ = some (.int .i64 v) := fun W' h => (blk_cell (hB.out.below h.of_drew).var 2).trans rfl
        have KI : Aside0 (∀ W, XReg.Ext W1.drew W → Calls Try.prog 71 #[.pointer (some ⟨xb, 0, none⟩), .string s] W fun e W' => ∃ u, e = .returned u ∧ XReg.Ext W W' ∧ u = .bool (decide (s ∈ ks))) := ⟨fun W h =>
          (ris_walk (hXW W h) s (by omega)).mono fun e W' ⟨h1, h2⟩ => ⟨_, h1, by rw [← h2]; exact XReg.Ext.refl _, rfl⟩⟩
        have KH : Aside0 (∀ W, XReg.Ext W1.drew W → Calls Try.prog 72 #[.pointer (some ⟨xb, 0, none⟩), .string s, .int .i64 v] W fun e W' => ∃ u, e = .returned u ∧ XReg.Ext W W' ∧ u = .bool (decide (v ∈ vs s))) := ⟨fun W h =>
          (rhas_walk (hXW W h) s v (by omega)).mono fun e W' ⟨h1, h2⟩ => ⟨_, h1, h2, by rw [hT.1 s]⟩⟩
        clear hX hXW p1 p2
        replace hT := Aside0.mk hT
        replace hgood := Aside0.mk hgood
        replace hnd := Aside0.mk hnd
        clear hvn hemp p0
        go_cut [7, 8, 30] from 30 to 218 (fun a b c wx => a = .bool (decide (s ∈ ks)) ∧ b = .bool (decide (v ∈ vs s)) ∧ c = .int .i64 k ∧ Bo w bb xb q (.cells #[.int .i64 kd, .string s, .int .i64 v] 118 (0, 0)) ks vs k ks Q wx)
        case first =>
          as_aux_lemma =>
            refine XReg.wp_region XReg.Ext XReg.Ext.refl XReg.Ext.trans (by kernel_rfl) (by kernel_rfl) [(4, .det (.pointer (some ⟨xb, 0, none⟩))), (6, .det (.pointer (some ⟨q, 0, none⟩)))] (XReg.base_cons rfl (XReg.base_cons rfl XReg.base_nil)) ?_
            repeat (first
              | (refine XReg.walk_move XReg.Ext.refl rfl rfl _ rfl (by kernel_rfl) (by kernel_rfl) ?_)
              | (refine XReg.walk_assign XReg.Ext.refl rfl rfl _ rfl (by kernel_rfl) (by kernel_rfl) ?_)
              | (refine XReg.walk_calld KI.out rfl (by kernel_rfl) (by kernel_rfl) _ rfl (by kernel_rfl) (by kernel_rfl) ?_)
              | (refine XReg.walk_calld KH.out rfl (by kernel_rfl) (by kernel_rfl) _ rfl (by kernel_rfl) (by kernel_rfl) ?_)
              | (refine XReg.run_1 XReg.Ext.refl rfl rfl _ rfl (by kernel_rfl) (by kernel_rfl) ?_; apply Exists.intro; refine ⟨fun ρ W hE h1 => ?_, ?_⟩; (go_simp; try rfl)))
            intro ρ W hE _
            have hB3 := Aside0.mk (hB.out.below hE.of_drew)
            clear hE c1 c2 KI KH hB
            simp only [Act.put, List.setIfInBounds_toArray, List.set_cons_zero, List.set_cons_succ]
            go_wp2_with fail
            go_meet
            exact ⟨rfl, rfl, rfl, hB3.out⟩
        case rest =>
          obtain ⟨rfl, rfl, rfl, hB⟩ := hcut
          clear nq KI KH c1 c2
          have q0 : wc.cell? ⟨q, 0, none⟩ = some (.int .i64 kd) := (blk_cell hB.var 0).trans rfl
          have q1 : wc.cell? ⟨q, 1, none⟩ = some (.string s) := (blk_cell hB.var 1).trans rfl
          have q2 : wc.cell? ⟨q, 2, none⟩ = some (.int .i64 v) := (blk_cell hB.var 2).trans rfl
          replace hB := Aside0.mk hB
          generalize hP : decide (s ∈ ks) = P
          generalize hH : decide (v ∈ vs s) = H
          replace hP := Aside0.mk hP
          replace hH := Aside0.mk hH
          go_upto_block 2 with fail
          go_cut [7, 8, 9, 10, 11, 12, 30] from 30 to 218 (fun _ _ _ _ _ _ a wx => a = .int .i64 k ∧ ∃ ks2 vs2 Q2, Bo w bb xb q (.cells #[.int .i64 kd, .string s, .int .i64 v] 118 (0, 0)) ks2 vs2 (k + 1) ks2 Q2 wx ∧ Tell ks2 vs2 Q2)
          case first =>
            by_cases k1 : kd = 1
            · subst k1
              have hO := Aside0.mk (hB.out.did fun F hF => open_did hF s hss (by omega))
              by_cases hm : s ∈ ks
              · as_aux_lemma =>
                  have hP1 : P = true := by rw [← hP.out]; exact decide_eq_true hm
                  simp only [hm, not_true, decide_false] at hO
                  rw [show openK ks s = ks from if_pos hm] at hO
                  go_wp2_with (go_at_call 73; refine hO.out.mono ?_; rintro e w2 ⟨rfl, hB2⟩; replace hB2 := Aside0.mk hB2)
                  go_meet
                  exact ⟨rfl, ks, vs, Q, hB2.out, hT.out⟩
              · as_aux_lemma =>
                  have hP1 : P = false := by rw [← hP.out]; exact decide_eq_false hm
                  simp only [hm, not_false_eq_true, decide_true] at hO
                  rw [show openK ks s = ks ++ [s] from if_neg hm] at hO
                  go_wp2_with (go_at_call 73; refine hO.out.mono ?_; rintro e w2 ⟨rfl, hB2⟩; replace hB2 := Aside0.mk hB2; have r1 : w2.cell? ⟨q, 1, none⟩ = some (.string s) := (blk_cell hB2.out.var 1).trans rfl)
                  obtain ⟨A2, c2, vp, hx2, hrow2, hbs, hApp⟩ := hB2.out.rowApp (by intro cs e; cases e)
                  have hT2 := hT.out.open_ s
                  rw [show openK ks s = ks ++ [s] from if_neg hm] at hT2
                  have x0 : w2.cell? ⟨xb, 0, none⟩ = some (.slice A2 ks.length c2) := (blk_cell hx2 0).trans rfl
                  have nx2 := blk_lt hx2
                  have nq2 := blk_lt hB2.out.var
                  obtain ⟨i0, hi, hz0, hz1, hz2⟩ := info_parts info9
                  have hmax : 100000 ≤ maxLen := by decide
                  have hown2 := Aside0.mk ((hrow2.alloc (.cells #[.string s] 9)))
                  replace hT2 := Aside0.mk hT2
                  replace hApp := Aside0.mk hApp
                  clear hx2 hrow2 hO hT hgood
                  go_region_law (refine step_append_own rfl (.tmp 60) (.tmp 63) 41 rfl w.heap.size 9 i0 (.string ⟨#[]⟩) 1 16 Try.underlying41 hi hz0 hz1 hz2 rfl (by decide) (.slice A2 ks.length c2) ks.length _ (by simp [Act.eval]) hown2.out ⟨w2.heap.size, 0, none⟩ 1 1 [.string s] (by simp [Act.eval]) rfl (cell_one_new _ _ _) (by simp [Value.oneCell']) (by omega) (by omega) (by simp; omega) ?_; intro v' w' hown3 hg3; obtain ⟨hx3, hB3⟩ := hApp.out s _ v' w' hown3 hg3; obtain ⟨g', cap', rfl⟩ := ownsRow_succ hown3; have y0 : w'.cell? ⟨xb, 0, none⟩ = some (.slice A2 ks.length c2) := (blk_cell hx3 0).trans rfl; have z0 := blk_frozen hx3 0; replace hB3 := Aside0.mk hB3)
                  all_goals (go_wp2_with fail; go_meet; exact ⟨rfl, _, _, _, hB3.out, hT2.out⟩)
            · by_cases k2 : kd = 2
              · as_aux_lemma =>
                  subst k2
                  have hO := hB.out.did fun F hF => close_did hF s hss (by omega)
                  rw [hP.out] at hO
                  replace hO := Aside0.mk hO
                  have hfl : (ks.filter fun y => decide (y ≠ s)).length ≤ ks.length := List.length_filter_le _ _
                  go_wp2_with (first | (go_at_call 74; refine hO.out.mono ?_; rintro e w2 ⟨rfl, hB2⟩; have r1 : w2.cell? ⟨q, 1, none⟩ = some (.string s) := (blk_cell hB2.var 1).trans rfl; have hR := Aside0.mk (hB2.rclose s (by omega) (by omega))) | (go_at_call 75; refine hR.out.mono ?_; rintro e w3 ⟨⟨z, rfl⟩, hB3⟩; replace hB3 := Aside0.mk hB3))
                  go_meet
                  exact ⟨rfl, _, _, _, hB3.out, hT.out.close s⟩
              · by_cases k3 : kd = 3
                · subst k3
                  have hO := hB.out.did fun F hF => block_did hF s v hss hwv (by omega)
                  by_cases hm : s ∈ ks ∧ v ∉ vs s
                  · have hP1 : P = true := by rw [← hP.out]; exact decide_eq_true hm.1
                    have hH1 : H = false := by rw [← hH.out]; exact decide_eq_false hm.2
                    as_aux_lemma =>
                      have e1 : decide (s ∈ ks ∧ v ∉ vs s) = true := decide_eq_true hm
                      have hTb := Aside0.mk (hT.out.block s v hm)
                      have hlz : (((vs s).length : Int) == 0) = decide ((vs s).length = 0) := by
                        by_cases hl : (vs s).length = 0 <;> simp [hl]
                      rw [e1, show decide ((s ∈ ks ∧ v ∉ vs s) ∧ (vs s).length = 0) = (((vs s).length : Int) == 0) from by rw [hlz]; by_cases hl : (vs s).length = 0 <;> simp [hl, hm.1, hm.2]] at hO
                      replace hO := Aside0.mk hO
                      clear e1 hlz hm
                      go_wp2_with (first | (go_at_call 76; refine hO.out.mono ?_; rintro e w2 ⟨rfl, hB2⟩; have r1 : w2.cell? ⟨q, 1, none⟩ = some (.string s) := (blk_cell hB2.var 1).trans rfl; have r2 : w2.cell? ⟨q, 2, none⟩ = some (.int .i64 v) := (blk_cell hB2.var 2).trans rfl; obtain ⟨_, _, _, _, hX⟩ := hB2.x; have hC := Aside0.mk (rcount_walk hX s (by omega)); rw [← hT.out.1 s] at hC; have hB2' := Aside0.mk hB2; clear hX) | (go_at_call 77; refine hC.out.mono ?_; rintro e w3 ⟨rfl, hb3⟩; have hB3 := Aside0.mk (hB2'.out.below hb3); clear hb3))
                      clear r1 r2 hB2' hC hO
                      have r1 : w3.cell? ⟨q, 1, none⟩ = some (.string s) := (blk_cell hB3.out.var 1).trans rfl
                      have r2 : w3.cell? ⟨q, 2, none⟩ = some (.int .i64 v) := (blk_cell hB3.out.var 2).trans rfl
                      obtain ⟨A2, c2, vr, hx2, hrow2, hbs, hApp⟩ := hB3.out.pairApp (by intro cs e; cases e)
                      have x0 : w3.cell? ⟨xb, 1, none⟩ = some (.slice A2 Q.length c2) := (blk_cell hx2 1).trans rfl
                      have nx2 := blk_lt hx2
                      have nq2 := blk_lt hB3.out.var
                      obtain ⟨i0, hi, hz0, hz1, hz2⟩ := info_parts info124
                      have hmax : 100000 ≤ maxLen := by decide
                      have hown2 := Aside0.mk (hrow2.alloc (.cells #[.string s, .int .i64 v] 124))
                      replace hApp := Aside0.mk hApp
                      clear hx2 hrow2 hT hgood
                      go_region_law (refine step_append_own rfl (.tmp 114) (.tmp 120) 114 rfl w.heap.size 124 i0 (.agg #[.string ⟨#[]⟩, .int .i64 0]) 2 24 Try.underlying114 hi hz0 hz1 hz2 rfl (by decide) (.slice A2 Q.length c2) Q.length _ (by simp [Act.eval]) hown2.out ⟨w3.heap.size, 0, none⟩ 1 1 [.string s, .int .i64 v] (by simp [Act.eval]) rfl (cells_new _ _ _ (by simp)) (by simp [Value.oneCell']) (by omega) (by omega) (by simp; omega) ?_; intro v' w' hown3 hg3; obtain ⟨hx3, hB4⟩ := hApp.out (s, v) _ v' w' hown3 hg3; obtain ⟨g', cap', rfl⟩ := ownsRow_succ hown3; have y0 : w'.cell? ⟨xb, 1, none⟩ = some (.slice A2 Q.length c2) := (blk_cell hx3 1).trans rfl; have z0 := blk_frozen hx3 1; replace hB4 := Aside0.mk hB4)
                      all_goals (go_wp2_with fail; go_meet; exact ⟨rfl, _, _, _, hB4.out, hTb.out⟩)
                  · as_aux_lemma =>
                      simp only [hm, false_and, decide_false] at hO
                      rw [show blkV ks vs s v = vs from if_neg hm] at hO
                      replace hO := Aside0.mk hO
                      have hPH : (P && !H) = false := by
                        rw [← hP.out, ← hH.out]
                        by_cases a1 : s ∈ ks
                        · have a2 : v ∈ vs s := by
                            by_cases a3 : v ∈ vs s
                            · exact a3
                            · exact absurd ⟨a1, a3⟩ hm
                          simp [a1, a2]
                        · simp [a1]
                      rcases Bool.eq_false_or_eq_true P with hp | hp
                      · have hH1 : H = true := by rw [hp] at hPH; simpa using hPH
                        go_wp2_with (first | (go_at_call 76; refine hO.out.mono ?_; rintro e w2 ⟨rfl, hB2⟩; have r1 : w2.cell? ⟨q, 1, none⟩ = some (.string s) := (blk_cell hB2.var 1).trans rfl; have r2 : w2.cell? ⟨q, 2, none⟩ = some (.int .i64 v) := (blk_cell hB2.var 2).trans rfl; obtain ⟨_, _, _, _, hX⟩ := hB2.x; have hC := Aside0.mk (rcount_walk hX s (by omega)); rw [← hT.out.1 s] at hC; have hB2' := Aside0.mk hB2; clear hX) | (go_at_call 77; refine hC.out.mono ?_; rintro e w3 ⟨rfl, hb3⟩; have hB3 := Aside0.mk (hB2'.out.below hb3); clear hb3))
                        go_meet
                        exact ⟨rfl, _, _, _, hB2'.out, hT.out⟩
                      · go_wp2_with (first | (go_at_call 76; refine hO.out.mono ?_; rintro e w2 ⟨rfl, hB2⟩; have r1 : w2.cell? ⟨q, 1, none⟩ = some (.string s) := (blk_cell hB2.var 1).trans rfl; have r2 : w2.cell? ⟨q, 2, none⟩ = some (.int .i64 v) := (blk_cell hB2.var 2).trans rfl; obtain ⟨_, _, _, _, hX⟩ := hB2.x; have hC := Aside0.mk (rcount_walk hX s (by omega)); rw [← hT.out.1 s] at hC; have hB2' := Aside0.mk hB2; clear hX) | (go_at_call 77; refine hC.out.mono ?_; rintro e w3 ⟨rfl, hb3⟩; have hB3 := Aside0.mk (hB2'.out.below hb3); clear hb3))
                        go_meet
                        exact ⟨rfl, _, _, _, hB2'.out, hT.out⟩
                · by_cases k4 : kd = 4
                  · as_aux_lemma =>
                      subst k4
                      have hO := hB.out.did fun F hF => free_did hF s v hss hwv (by omega)
                      by_cases hm : v ∈ vs s
                      · have hH1 : H = true := by rw [← hH.out]; exact decide_eq_true hm
                        by_cases hl : (vs s).length = 1
                        · simp only [hm, hl, true_and, decide_true] at hO
                          replace hO := Aside0.mk hO
                          go_wp2_with (first | (go_at_call 78; refine hO.out.mono ?_; rintro e w2 ⟨rfl, hB2⟩; have r1 : w2.cell? ⟨q, 1, none⟩ = some (.string s) := (blk_cell hB2.var 1).trans rfl; have r2 : w2.cell? ⟨q, 2, none⟩ = some (.int .i64 v) := (blk_cell hB2.var 2).trans rfl; obtain ⟨_, _, _, _, hX⟩ := hB2.x; have hC := Aside0.mk (rcount_walk hX s (by omega)); rw [← hT.out.1 s] at hC; rw [hl] at hC; have hR0 := Aside0.mk (hB2.rfree s v (by omega)); replace hB2 := Aside0.mk hB2; clear hX) | (go_at_call 77; refine hC.out.mono ?_; rintro e w3 ⟨rfl, hb3⟩; have hB3 := hB2.out.below hb3; have t1 : w3.cell? ⟨q, 1, none⟩ = some (.string s) := (blk_cell hB3.var 1).trans rfl; have t2 : w3.cell? ⟨q, 2, none⟩ = some (.int .i64 v) := (blk_cell hB3.var 2).trans rfl; have hR := Aside0.mk (hB3.rfree s v (by omega))) | (go_at_call 79; (first | refine hR.out.mono ?_ | refine hR0.out.mono ?_); rintro e w4 ⟨⟨z, rfl⟩, hB4⟩; replace hB4 := Aside0.mk hB4))
                          go_meet
                          exact ⟨rfl, _, _, _, hB4.out, hT.out.free s v⟩
                        · have hl2 : (((vs s).length : Int) == 1) = false := beq_eq_false_iff_ne.2 (by omega)
                          simp only [hm, hl, true_and, decide_true, decide_false] at hO
                          replace hO := Aside0.mk hO
                          go_wp2_with (first | (go_at_call 78; refine hO.out.mono ?_; rintro e w2 ⟨rfl, hB2⟩; have r1 : w2.cell? ⟨q, 1, none⟩ = some (.string s) := (blk_cell hB2.var 1).trans rfl; have r2 : w2.cell? ⟨q, 2, none⟩ = some (.int .i64 v) := (blk_cell hB2.var 2).trans rfl; obtain ⟨_, _, _, _, hX⟩ := hB2.x; have hC := Aside0.mk (rcount_walk hX s (by omega)); rw [← hT.out.1 s] at hC; have hR0 := Aside0.mk (hB2.rfree s v (by omega)); replace hB2 := Aside0.mk hB2; clear hX) | (go_at_call 77; refine hC.out.mono ?_; rintro e w3 ⟨rfl, hb3⟩; have hB3 := hB2.out.below hb3; have t1 : w3.cell? ⟨q, 1, none⟩ = some (.string s) := (blk_cell hB3.var 1).trans rfl; have t2 : w3.cell? ⟨q, 2, none⟩ = some (.int .i64 v) := (blk_cell hB3.var 2).trans rfl; have hR := Aside0.mk (hB3.rfree s v (by omega))) | (go_at_call 79; (first | refine hR.out.mono ?_ | refine hR0.out.mono ?_); rintro e w4 ⟨⟨z, rfl⟩, hB4⟩; replace hB4 := Aside0.mk hB4))
                          go_meet
                          exact ⟨rfl, _, _, _, hB4.out, hT.out.free s v⟩
                      · have hH1 : H = false := by rw [← hH.out]; exact decide_eq_false hm
                        simp only [hm, false_and, decide_false] at hO
                        replace hO := Aside0.mk hO
                        go_wp2_with (first | (go_at_call 78; refine hO.out.mono ?_; rintro e w2 ⟨rfl, hB2⟩; have r1 : w2.cell? ⟨q, 1, none⟩ = some (.string s) := (blk_cell hB2.var 1).trans rfl; have r2 : w2.cell? ⟨q, 2, none⟩ = some (.int .i64 v) := (blk_cell hB2.var 2).trans rfl; obtain ⟨_, _, _, _, hX⟩ := hB2.x; have hC := Aside0.mk (rcount_walk hX s (by omega)); rw [← hT.out.1 s] at hC; have hR0 := Aside0.mk (hB2.rfree s v (by omega)); replace hB2 := Aside0.mk hB2; clear hX) | (go_at_call 77; refine hC.out.mono ?_; rintro e w3 ⟨rfl, hb3⟩; have hB3 := hB2.out.below hb3; have t1 : w3.cell? ⟨q, 1, none⟩ = some (.string s) := (blk_cell hB3.var 1).trans rfl; have t2 : w3.cell? ⟨q, 2, none⟩ = some (.int .i64 v) := (blk_cell hB3.var 2).trans rfl; have hR := Aside0.mk (hB3.rfree s v (by omega))) | (go_at_call 79; (first | refine hR.out.mono ?_ | refine hR0.out.mono ?_); rintro e w4 ⟨⟨z, rfl⟩, hB4⟩; replace hB4 := Aside0.mk hB4))
                        go_meet
                        exact ⟨rfl, _, _, _, hB4.out, hT.out.free s v⟩
                  · as_aux_lemma =>
                      have e1 : (kd == 1) = false := beq_eq_false_iff_ne.2 k1
                      have e2 : (kd == 2) = false := beq_eq_false_iff_ne.2 k2
                      have e3 : (kd == 3) = false := beq_eq_false_iff_ne.2 k3
                      have e4 : (kd == 4) = false := beq_eq_false_iff_ne.2 k4
                      go_wp2_with fail
                      go_meet
                      exact ⟨rfl, _, _, _, hB.out.more (Nat.le_succ _), hT.out⟩
          case rest =>
            obtain ⟨rfl, ks2, vs2, Q2, hB2, hT2⟩ := hcut
            as_aux_lemma =>
              obtain ⟨hnd2, hkl2, hsm2, hvn2, hemp2, hgood2⟩ := hB2.facts
              obtain ⟨XA2, XB2, xc2, xd2, hX2⟩ := hB2.x
              have hsum := hT2.sum hnd2
              have hQ2l : Q2.length ≤ k + 1 := by omega
              have hW : ∀ W', XReg.Ext wc.drew W' → Bo w bb xb q (.cells #[.int .i64 kd, .string s, .int .i64 v] 118 (0, 0)) ks2 vs2 (k + 1) ks2 Q2 W' := fun W' h => hB2.below h.of_drew
              have hXW : ∀ W', XReg.Ext wc.drew W' → XIs W' xb XA2 XB2 xc2 xd2 ks2 Q2 := fun W' h => hX2.below h.of_drew
              have c1 : ∀ W', XReg.Ext wc.drew W' → W'.cell? ⟨q, 1, none⟩ = some (.string s) := fun W' h => (blk_cell (hW W' h).var 1).trans rfl
              have c2 : ∀ W', XReg.Ext wc.drew W' → W'.cell? ⟨q, 2, none⟩ = some (.int .i64 v) := fun W' h => (blk_cell (hW W' h).var 2).trans rfl
              have x0 : ∀ W', XReg.Ext wc.drew W' → W'.cell? ⟨xb, 0, none⟩ = some (.slice XA2 ks2.length xc2) := fun W' h => (blk_cell (hXW W' h).1 0).trans rfl
              have x1 : ∀ W', XReg.Ext wc.drew W' → W'.cell? ⟨xb, 1, none⟩ = some (.slice XB2 Q2.length xd2) := fun W' h => (blk_cell (hXW W' h).1 1).trans rfl
              have k80 : ∀ W, XReg.Ext wc.drew W → Calls Try.prog 80 #[.pointer (some ⟨bb, 0, none⟩)] W fun e W' => ∃ u, e = .returned u ∧ XReg.Ext W W' ∧ u = .int .i64 ks2.length := fun W h => by
                obtain ⟨F, hF⟩ := (hW W h).b
                exact (len_did hF).mono fun e W' ⟨h1, h2⟩ => ⟨_, h1, by rw [← h2]; exact XReg.Ext.refl _, rfl⟩
              have k81 : ∀ W, XReg.Ext wc.drew W → Calls Try.prog 81 #[.pointer (some ⟨bb, 0, none⟩)] W fun e W' => ∃ u, e = .returned u ∧ XReg.Ext W W' ∧ u = .int .i64 Q2.length := fun W h => by
                obtain ⟨F, hF⟩ := (hW W h).b
                exact (pairs_did hF).mono fun e W' ⟨h1, h2⟩ => ⟨_, h1, by rw [← h2]; exact XReg.Ext.refl _, by rw [hsum]⟩
              have k82 : ∀ W, XReg.Ext wc.drew W → Calls Try.prog 82 #[.pointer (some ⟨bb, 0, none⟩), .string s] W fun e W' => ∃ u, e = .returned u ∧ XReg.Ext W W' ∧ u = .bool (decide (s ∈ ks2)) := fun W h => by
                obtain ⟨F, hF⟩ := (hW W h).b
                exact (is_did hF s hss).mono fun e W' ⟨h1, h2⟩ => ⟨_, h1, h2, rfl⟩
              have k71 : ∀ W, XReg.Ext wc.drew W → Calls Try.prog 71 #[.pointer (some ⟨xb, 0, none⟩), .string s] W fun e W' => ∃ u, e = .returned u ∧ XReg.Ext W W' ∧ u = .bool (decide (s ∈ ks2)) := fun W h =>
                (ris_walk (hXW W h) s (by omega)).mono fun e W' ⟨h1, h2⟩ => ⟨_, h1, by rw [← h2]; exact XReg.Ext.refl _, rfl⟩
              have k83 : ∀ W, XReg.Ext wc.drew W → Calls Try.prog 83 #[.pointer (some ⟨bb, 0, none⟩), .string s] W fun e W' => ∃ u, e = .returned u ∧ XReg.Ext W W' ∧ u = .int .i64 (vs2 s).length := fun W h => by
                obtain ⟨F, hF⟩ := (hW W h).b
                exact (count_did hF s hss).mono fun e W' ⟨h1, h2⟩ => ⟨_, h1, by rw [← h2]; exact XReg.Ext.refl _, rfl⟩
              have k77 : ∀ W, XReg.Ext wc.drew W → Calls Try.prog 77 #[.pointer (some ⟨xb, 0, none⟩), .string s] W fun e W' => ∃ u, e = .returned u ∧ XReg.Ext W W' ∧ u = .int .i64 (vs2 s).length := fun W h =>
                (rcount_walk (hXW W h) s (by omega)).mono fun e W' ⟨h1, h2⟩ => ⟨_, h1, h2, by rw [hT2.1 s]⟩
              have R1up : ∀ (L : List ByteArray) u W W', RowOf L u W → XReg.Ext W W' → RowOf L u W' := fun L u W W' h hE => h.below hE
              have k85 : ∀ W, XReg.Ext wc.drew W → Calls Try.prog 85 #[.pointer (some ⟨bb, 0, none⟩), .int .i64 v] W fun e W' => ∃ u, e = .returned u ∧ XReg.Ext W W' ∧ RowOf (ks2.filter fun k => decide (v ∈ vs2 k)) u W' := fun W h => by
                obtain ⟨F, hF⟩ := (hW W h).b
                exact (by_did hF v hwv (by omega)).mono fun e W' ⟨r, h1, h2, h3⟩ => ⟨_, h1, h3, RowOf.of_owns h2⟩
              have k86 : ∀ W, XReg.Ext wc.drew W → Calls Try.prog 86 #[.pointer (some ⟨xb, 0, none⟩), .int .i64 v] W fun e W' => ∃ u, e = .returned u ∧ XReg.Ext W W' ∧ RowOf (ks2.filter fun k => decide (v ∈ vs2 k)) u W' := fun W h =>
                (rby_walk (hXW W h) v (by omega) (by omega)).mono fun e W' ⟨r, h1, h2, h3⟩ => ⟨_, h1, h3, by rw [show vs2 = ofP Q2 from funext hT2.1]; exact RowOf.of_owns h2⟩
              have k87 : ∀ W, XReg.Ext wc.drew W → Calls Try.prog 87 #[.pointer (some ⟨bb, 0, none⟩)] W fun e W' => ∃ u, e = .returned u ∧ XReg.Ext W W' ∧ RowOf ks2 u W' := fun W h => by
                obtain ⟨F, hF⟩ := (hW W h).b
                exact (owners_did hF (by omega)).mono fun e W' ⟨r, h1, h2, h3⟩ => ⟨_, h1, h3, RowOf.of_owns h2⟩
              have hfl := List.length_filter_le (fun k => decide (v ∈ vs2 k)) ks2
              have k84 : ∀ u1 u2 W, XReg.Ext wc.drew W → RowOf (ks2.filter fun k => decide (v ∈ vs2 k)) u1 W → RowOf (ks2.filter fun k => decide (v ∈ vs2 k)) u2 W → Calls Try.prog 84 #[u1, u2] W fun e W' => ∃ u, e = .returned u ∧ XReg.Ext W W' ∧ u = .bool true := fun u1 u2 W h r1 r2 => by
                obtain ⟨A1, d1, rfl, r1⟩ := r1
                obtain ⟨A2, d2, rfl, r2⟩ := r2
                exact (texts_walk r1 r2 (by omega)).mono fun e W' ⟨h1, h2⟩ => ⟨_, h1, h2, rfl⟩
              have k84b : ∀ u1 W, XReg.Ext wc.drew W → RowOf ks2 u1 W → Calls Try.prog 84 #[u1, .slice XA2 ks2.length xc2] W fun e W' => ∃ u, e = .returned u ∧ XReg.Ext W W' ∧ u = .bool true := fun u1 W h r1 => by
                obtain ⟨A1, d1, rfl, r1⟩ := r1
                exact (texts_walk r1 (hXW W h).2.1 (by omega)).mono fun e W' ⟨h1, h2⟩ => ⟨_, h1, h2, rfl⟩
              replace hB2 := Aside0.mk hB2
              replace hT2 := Aside0.mk hT2
              clear hW hXW hX2 hsum hnd2 hvn2 hemp2 hgood2 hB hT hgood hnd q0 q1 q2
              have RB := Aside0.mk k85; have RX := Aside0.mk k86; have RO := Aside0.mk k87; have KT := Aside0.mk k84; have KU := Aside0.mk k84b
              clear k85 k86 k87 k84 k84b
              have K0 := Aside0.mk k80; have K1 := Aside0.mk k81; have K2 := Aside0.mk k82; have K3 := Aside0.mk k83; have K7 := Aside0.mk k77; have K71 := Aside0.mk k71
              clear k80 k81 k82 k83 k77 k71
              replace R1up := Aside0.mk R1up
              go_upto_region 30 with fail
              refine XReg.wp_region XReg.Ext XReg.Ext.refl XReg.Ext.trans (by kernel_rfl) (by kernel_rfl) [(3, .det (.pointer (some ⟨bb, 0, none⟩))), (4, .det (.pointer (some ⟨xb, 0, none⟩))), (6, .det (.pointer (some ⟨q, 0, none⟩)))] (XReg.base_cons rfl (XReg.base_cons rfl (XReg.base_cons rfl XReg.base_nil))) ?_
              repeat (first
                | (refine XReg.walk_move XReg.Ext.refl rfl rfl _ rfl (by kernel_rfl) (by kernel_rfl) ?_)
                | (refine XReg.walk_calld K0.out rfl (by kernel_rfl) (by kernel_rfl) _ rfl (by kernel_rfl) (by kernel_rfl) ?_)
                | (refine XReg.walk_calld K1.out rfl (by kernel_rfl) (by kernel_rfl) _ rfl (by kernel_rfl) (by kernel_rfl) ?_)
                | (refine XReg.walk_calld K2.out rfl (by kernel_rfl) (by kernel_rfl) _ rfl (by kernel_rfl) (by kernel_rfl) ?_)
                | (refine XReg.walk_calld K3.out rfl (by kernel_rfl) (by kernel_rfl) _ rfl (by kernel_rfl) (by kernel_rfl) ?_)
                | (refine XReg.walk_calld K7.out rfl (by kernel_rfl) (by kernel_rfl) _ rfl (by kernel_rfl) (by kernel_rfl) ?_)
                | (refine XReg.walk_calld K71.out rfl (by kernel_rfl) (by kernel_rfl) _ rfl (by kernel_rfl) (by kernel_rfl) ?_)
                | (refine XReg.walk_calln (R1up.out _) RB.out rfl (by kernel_rfl) (by kernel_rfl) _ rfl (by kernel_rfl) (by kernel_rfl) ?_)
                | (refine XReg.walk_calln (R1up.out _) RX.out rfl (by kernel_rfl) (by kernel_rfl) _ rfl (by kernel_rfl) (by kernel_rfl) ?_)
                | (refine XReg.walk_calln (R1up.out _) RO.out rfl (by kernel_rfl) (by kernel_rfl) _ rfl (by kernel_rfl) (by kernel_rfl) ?_)
                | (refine XReg.walk_calld2 KT.out rfl (by kernel_rfl) rfl rfl _ rfl (by kernel_rfl) (by kernel_rfl) ?_)
                | (refine XReg.walk_calld1 KU.out rfl (by kernel_rfl) rfl rfl _ rfl (by kernel_rfl) (by kernel_rfl) ?_)
                | (refine XReg.run_1 XReg.Ext.refl rfl rfl _ rfl (by kernel_rfl) (by kernel_rfl) ?_; apply Exists.intro; refine ⟨fun ρ W hE h1 => ?_, ?_⟩; (go_simp; try rfl))
                | (refine XReg.run_2 XReg.Ext.refl rfl rfl rfl _ rfl (by kernel_rfl) (by kernel_rfl) ?_; apply Exists.intro; refine ⟨fun ρ W hE h1 h2 => ?_, ?_⟩; (go_simp; try rfl)))
              clear K0 K1 K2 K3 K7 K71 RB RX RO KT KU R1up
              intro ρ W hE _
              have hZ2 := Aside0.mk (hB2.out.below hE.of_drew).z
              clear hE c1 c2 x0 x1
              simp only [Act.put, List.setIfInBounds_toArray, List.set_cons_zero, List.set_cons_succ]
              go_wp2_with fail
              go_roundw
              case rel => exact ⟨k + 1, by go_num, by omega, _, _, _, hZ2.out, hT2.out⟩
              case measure => simp [intOf]; omega
      · obtain rfl : k = len := by omega
        have hBel : Aside0 (Below w.heap.size w wr) := by obtain ⟨_, _, _, _, _, _, h⟩ := hZ; exact ⟨h⟩
        clear hZ hT
        go_wp2_with (go_at_call 64; refine (awake_walk _).mono ?_; rintro e w2 ⟨rfl, b2⟩; replace b2 := Aside0.mk b2)
        go_ret
        exact ⟨rfl, hBel.out.trans (b2.out.mono hBel.out.size)⟩
end Go.Proofs.Ytnncomhgclffaaa.BI
