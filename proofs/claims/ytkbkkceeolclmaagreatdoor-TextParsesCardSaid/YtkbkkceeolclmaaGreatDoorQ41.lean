/- The document's Same of two equal rules. Small: has a rule few conditions? The law TextRules. The document's add, of names that are only read. -/
import Derived.Test.YtkbkkceeolclmaaGreatDoorQ40
import Derived.Test.YtkbkkceeolclmaaGreatDoorQ10
import Derived.Test.YtkbkkceeolclmaaGreatDoorQLMap
import Derived.Test.YtkbkkceeolclmaaGreatDoorQ39
import Derived.Test.YtkbkkceeolclmaaGreatDoorQ14
set_option linter.unusedVariables false
set_option linter.unusedSimpArgs false
namespace Go.Proofs.YtkbkkceeolclmaaGreatDoor.X
open Go.RowKit Go.TX Go.Proofs.YtkbkkceeolclmaaGreatDoorW.PrintWords Go.Proofs.YtkbkkceeolclmaaGreatDoorL
attribute [local go_sem] YReg.envOf
set_option maxRecDepth 100000 in
set_option maxHeartbeats 4000000 in
theorem same15 (nm : List UInt8) (subs : List Cd) (A1 : Option Addr) (c1 : Nat) (A2 : Option Addr) (c2 : Nat) (w : World) (F1 F2 : Nat → Prop) (hn : csizeL subs ≤ 1000) (hR1 : RepL evR w F1 subs A1 0) (hR2 : RepL evR w F2 subs A2 0) :
    Calls Tryz.prog 15 #[.agg #[.string (str nm), .slice A1 subs.length c1], .agg #[.string (str nm), .slice A2 subs.length c2]] w fun e W => e = .returned (.bool true) ∧ Below w.heap.size w W := by
  have hll := csizeL_len subs
  have hB0 := Aside0.mk (((Below.refl w.heap.size w).alloc (Nat.le_refl _) (.cells #[.string (str nm), .slice A1 subs.length c1] 38)).alloc (by simp) (.cells #[.string (str nm), .slice A2 subs.length c2] 38))
  have hx0 := Aside0.mk (blk_alloc (blk_new w (.cells #[.string (str nm), .slice A1 subs.length c1] 38)) (.cells #[.string (str nm), .slice A2 subs.length c2] 38))
  have hx1 := blk_new (w.alloc (.cells #[.string (str nm), .slice A1 subs.length c1] 38)) (.cells #[.string (str nm), .slice A2 subs.length c2] 38)
  simp only [World.size_alloc] at hx1
  replace hx1 := Aside0.mk hx1
  replace hR1 := Aside0.mk hR1
  replace hR2 := Aside0.mk hR2
  go_enter Tryz.func15, Tryz.ntmps15
  go_upto_region 1 with fail
  generalize (w.alloc (.cells #[.string (str nm), .slice A1 subs.length c1] 38)).alloc (.cells #[.string (str nm), .slice A2 subs.length c2] 38) = W0 at hB0 hx0 hx1 ⊢
  have d0 := (blk_cell hx0.out 0).trans (show _ = some (Value.string (str nm)) from rfl)
  have d1 := (blk_cell hx0.out 1).trans (show _ = some (Value.slice A1 subs.length c1) from rfl)
  have e0 := (blk_cell hx1.out 0).trans (show _ = some (Value.string (str nm)) from rfl)
  have e1 := (blk_cell hx1.out 1).trans (show _ = some (Value.slice A2 subs.length c2) from rfl)
  go_upto_region 4 with fail
  go_loopw [23] (fun i wr => ∃ j : Nat, i = .int .i64 j ∧ j ≤ subs.length ∧ Below w.heap.size w wr ∧ wr.heap[w.heap.size]? = some (.cells #[.string (str nm), .slice A1 subs.length c1] 38) ∧ wr.heap[w.heap.size + 1]? = some (.cells #[.string (str nm), .slice A2 subs.length c2] 38)) (fun i _ => subs.length - (intOf i).toNat)
  case atStart => exact ⟨0, rfl, Nat.zero_le _, hB0.out, hx0.out, hx1.out⟩
  case round =>
    obtain ⟨j, rfl, hj, hBw, hy0, hy1⟩ := hrel
    clear hB0 hx0 hx1 d0 d1 e0 e1
    clear W0
    by_cases hlt : j < subs.length
    · obtain ⟨b1, o1, k1, x1, y1, z1, s1, B1, p1, rfl, hbl1, hq1, hlen1, hr1, htk, hle, u0, u1, u2, u3, u4, u5, u6, u7⟩ := sub_at (hR1.out.below hBw) hlt
      obtain ⟨b2, o2, k2, x2, y2, z2, s2, B2, p2, rfl, hbl2, hq2, hlen2, hr2, _, _, v0, v1, v2, v3, v4, v5, v6, v7⟩ := sub_at (hR2.out.below hBw) hlt
      have hqq := hq1.symm.trans hq2
      injection hqq with g1 g2 g3 g4 g5
      subst g1 g2 g3 g4 g5
      have t0 : ∀ W', YReg.Ext wr.drew W' → W'.cell? ⟨w.heap.size, 1, none⟩ = some (.slice (some ⟨b1, o1, none⟩) subs.length c1) := fun W' h => (blk_cell ((h.of_drew.block _ (blk_lt hy0)).trans hy0) 1).trans rfl
      have t1 : ∀ W', YReg.Ext wr.drew W' → W'.cell? ⟨w.heap.size + 1, 1, none⟩ = some (.slice (some ⟨b2, o2, none⟩) subs.length c2) := fun W' h => (blk_cell ((h.of_drew.block _ (blk_lt hy1)).trans hy1) 1).trans rfl
      have u0 : ∀ W', YReg.Ext wr.drew W' → W'.cell? _ = _ := fun W' h => (h.of_drew.cell (p := ⟨b1, _, none⟩) hbl1).trans u0
      have u1 : ∀ W', YReg.Ext wr.drew W' → W'.cell? _ = _ := fun W' h => (h.of_drew.cell (p := ⟨b1, _, none⟩) hbl1).trans u1
      have u2 : ∀ W', YReg.Ext wr.drew W' → W'.cell? _ = _ := fun W' h => (h.of_drew.cell (p := ⟨b1, _, none⟩) hbl1).trans u2
      have u3 : ∀ W', YReg.Ext wr.drew W' → W'.cell? _ = _ := fun W' h => (h.of_drew.cell (p := ⟨b1, _, none⟩) hbl1).trans u3
      have u4 : ∀ W', YReg.Ext wr.drew W' → W'.cell? _ = _ := fun W' h => (h.of_drew.cell (p := ⟨b1, _, none⟩) hbl1).trans u4
      have u5 : ∀ W', YReg.Ext wr.drew W' → W'.cell? _ = _ := fun W' h => (h.of_drew.cell (p := ⟨b1, _, none⟩) hbl1).trans u5
      have u6 : ∀ W', YReg.Ext wr.drew W' → W'.cell? _ = _ := fun W' h => (h.of_drew.cell (p := ⟨b1, _, none⟩) hbl1).trans u6
      have u7 : ∀ W', YReg.Ext wr.drew W' → W'.cell? _ = _ := fun W' h => (h.of_drew.cell (p := ⟨b1, _, none⟩) hbl1).trans u7
      have v0 : ∀ W', YReg.Ext wr.drew W' → W'.cell? _ = _ := fun W' h => (h.of_drew.cell (p := ⟨b2, _, none⟩) hbl2).trans v0
      have v1 : ∀ W', YReg.Ext wr.drew W' → W'.cell? _ = _ := fun W' h => (h.of_drew.cell (p := ⟨b2, _, none⟩) hbl2).trans v1
      have v2 : ∀ W', YReg.Ext wr.drew W' → W'.cell? _ = _ := fun W' h => (h.of_drew.cell (p := ⟨b2, _, none⟩) hbl2).trans v2
      have v3 : ∀ W', YReg.Ext wr.drew W' → W'.cell? _ = _ := fun W' h => (h.of_drew.cell (p := ⟨b2, _, none⟩) hbl2).trans v3
      have v4 : ∀ W', YReg.Ext wr.drew W' → W'.cell? _ = _ := fun W' h => (h.of_drew.cell (p := ⟨b2, _, none⟩) hbl2).trans v4
      have v5 : ∀ W', YReg.Ext wr.drew W' → W'.cell? _ = _ := fun W' h => (h.of_drew.cell (p := ⟨b2, _, none⟩) hbl2).trans v5
      have v6 : ∀ W', YReg.Ext wr.drew W' → W'.cell? _ = _ := fun W' h => (h.of_drew.cell (p := ⟨b2, _, none⟩) hbl2).trans v6
      have v7 : ∀ W', YReg.Ext wr.drew W' → W'.cell? _ = _ := fun W' h => (h.of_drew.cell (p := ⟨b2, _, none⟩) hbl2).trans v7
      have k38 : Aside0 (∀ W', YReg.Ext wr.drew W' → Calls Tryz.prog 38 #[aC evR k1 x1 y1 z1 (.slice B1 s1.length p1), aC evR k1 x1 y1 z1 (.slice B2 s1.length p2)] W' fun e W2 => ∃ u, e = .returned u ∧ YReg.Ext W' W2 ∧ u = .bool true) := ⟨fun W' h => (same38 (csizeL s1 + 1) k1 x1 y1 z1 s1 B1 p1 B2 p2 W' F1 F2 (by omega) (by omega) (hr1.below h.of_drew) (hr2.below h.of_drew)).mono fun e W2 ⟨h1, h2⟩ => ⟨_, h1, h2, rfl⟩⟩
      replace hq1 := Aside0.mk hq1
      replace hq2 := Aside0.mk hq2
      clear htk hle hlen1 hlen2 hr1 hr2
      replace hBw := Aside0.mk hBw
      replace hy0 := Aside0.mk hy0
      replace hy1 := Aside0.mk hy1
      go_upto_region 6 with fail
      refine YReg.wp_region_tail 11 none YReg.Ext YReg.Ext YReg.Ext.refl YReg.Ext.trans YReg.Ext.trans (fun _ _ h => h) (by kernel_rfl) (by kernel_rfl) (by kernel_rfl) [(2, .det (.pointer (some ⟨w.heap.size, 0, none⟩))), (3, .det (.pointer (some ⟨w.heap.size + 1, 0, none⟩))), (5, .det (.int .i64 (j : Int)))] (YReg.base_cons rfl (YReg.base_cons rfl (YReg.base_cons rfl YReg.base_nil))) ?_
      simp only [List.take_succ_cons, List.take_zero, List.drop_succ_cons, List.drop_zero]
      repeat (first
        | (refine YReg.walk_calld (by decide) k38.out rfl (by kernel_rfl) (by kernel_rfl) _ rfl (by kernel_rfl) (by kernel_rfl) ?_)
        | (refine YReg.run_1 (by decide) YReg.Ext.refl rfl rfl _ rfl (by kernel_rfl) (by kernel_rfl) ?_; apply Exists.intro; refine ⟨fun ρ W hE h1 => ?_, ?_⟩; (go_simp; try rfl))
        | (refine YReg.run_2 (by decide) YReg.Ext.refl rfl rfl rfl _ rfl (by kernel_rfl) (by kernel_rfl) ?_; apply Exists.intro; refine ⟨fun ρ W hE h1 h2 => ?_, ?_⟩; (go_simp; try rfl)))
      intro ρ W1 hE hn
      simp only [Act.put, List.setIfInBounds_toArray, List.set_cons_zero, List.set_cons_succ]
      have hEb := Aside0.mk hE.of_drew
      clear hn hE t0 t1 u0 u1 u2 u3 u4 u5 u6 u7 v0 v1 v2 v3 v4 v5 v6 v7 k38
      go_wp2
      go_roundw
      case rel => exact ⟨j + 1, by go_num, by omega, hBw.out.trans (hEb.out.mono hBw.out.size), (hEb.out.block _ (blk_lt hy0.out)).trans hy0.out, (hEb.out.block _ (blk_lt hy1.out)).trans hy1.out⟩
      case measure => simp [intOf]; omega
    · obtain rfl : j = subs.length := by omega
      replace hBw := Aside0.mk hBw
      clear hy0 hy1
      go_wp2
      go_ret
      exact ⟨rfl, hBw.out⟩
end Go.Proofs.YtkbkkceeolclmaaGreatDoor.X
namespace Go.Proofs.YtkbkkceeolclmaaGreatDoor.X
open Go.RowKit Go.TX Go.Proofs.YtkbkkceeolclmaaGreatDoorW.PrintWords Go.Proofs.YtkbkkceeolclmaaGreatDoorL
end Go.Proofs.YtkbkkceeolclmaaGreatDoor.X
namespace Go.TX
end Go.TX
namespace Go.Proofs.YtkbkkceeolclmaaGreatDoor.X
open Go.RowKit Go.TX Go.Proofs.YtkbkkceeolclmaaGreatDoorW.PrintWords Go.Proofs.YtkbkkceeolclmaaGreatDoorL
attribute [local go_sem] YReg.envOf
/-- The document's rule, as a call gives it. -/
def IsRl (nm : List UInt8) (l : List Cd) (u : Value) (W : World) : Prop := ∃ S n, u = .agg #[.string (str nm), S] ∧ BR n W S l
theorem IsRl.up {nm : List UInt8} {l : List Cd} : ∀ u w w', IsRl nm l u w → YReg.Ext w w' → IsRl nm l u w' := fun _ _ _ ⟨S, n, e, h⟩ hb => ⟨S, n, e, h.below hb⟩
end Go.Proofs.YtkbkkceeolclmaaGreatDoor.X
namespace Go.Proofs.YtkbkkceeolclmaaGreatDoor.X
open Go.RowKit Go.TX Go.Lib Go.Proofs.YtkbkkceeolclmaaGreatDoorW.PrintWords Go.Proofs.YtkbkkceeolclmaaGreatDoorW.PrintLast Go.Proofs.YtkbkkceeolclmaaGreatDoorW.PrintMore Go.Proofs.YtkbkkceeolclmaaGreatDoor.PD
/-- Names in a row of some call's own. -/
def RN (w : World) (v : Value) (ns : List (List UInt8)) : Prop := ∃ P, DN 0 P w v ns
theorem RN.below {w W : World} {v : Value} {ns : List (List UInt8)} (h : RN w v ns) (hb : Below w.heap.size w W) : RN W v ns := h.imp fun _ q => q.below hb
theorem RN.of {n : Nat} {P : Nat → Prop} {w : World} {v : Value} {ns : List (List UInt8)} (h : DN n P w v ns) : RN w v ns := ⟨P, Kd.R_lower h (Nat.zero_le _)⟩
theorem RN.reads {w : World} {v : Value} {ns : List (List UInt8)} (h : RN w v ns) : ∃ A c, v = .slice A ns.length c ∧ ns.length ≤ c ∧ Kd.C Kd.string w A ns.length (ns.map str) := h.elim fun _ q => DN.reads q
/-- They stay where rows of names stay. -/
theorem RN.k9 {w W : World} {v : Value} {ns : List (List UInt8)} (h : RN w v ns) (hk : ∀ (b : Nat) (cs : Array Value), w.heap[b]? = some (.cells cs 9 (0, 0)) → W.heap[b]? = w.heap[b]?) : RN W v ns := by
  obtain ⟨P, h⟩ := h
  have h := Kd.R_bound h
  refine ⟨_, Kd.R_step h fun k hk2 _ => ?_⟩
  obtain ⟨_, _, _, q, hq, cs, hc⟩ := hk2
  have e : q = 9 := by simpa [Kd.string, Kd.scalar] using hq
  subst e
  exact hk k cs hc
theorem RN.set {w : World} {v : Value} {ns : List (List UInt8)} (h : RN w v ns) {g : Nat} {cs : Array Value} {ty : TypeId} (hg : w.heap[g]? = some (.cells cs ty (0, 0))) (ht : ty ≠ 9) (q : Nat) (u : Value) : RN (w.setCell ⟨g, q, none⟩ u) v ns :=
  h.k9 fun b cs2 e => Below.heap_setCell w ⟨g, q, none⟩ u b (by
    show b ≠ g
    intro e2
    subst e2
    rw [hg] at e
    simp only [Option.some.injEq, Obj.cells.injEq] at e
    exact ht e.2.1)
set_option maxRecDepth 100000 in
set_option maxHeartbeats 4000000 in
theorem radd2 {w : World} {v : Value} {ns : List (List UInt8)} (h : RN w v ns) (hl : ns.length ≤ 1000000) (s : List UInt8) :
    Calls Tryz.prog 45 #[v, .string (str s)] w fun e W => ∃ u, e = .returned (.tuple #[u, .int .i64 (findN (addN ns s) s : Nat)]) ∧ RN W u (addN ns s) ∧ Below w.heap.size w W := by
  obtain ⟨A, c, rfl, hc, hC⟩ := h.reads
  replace h := Aside0.mk h
  have hf := Aside0.mk (retiaryref01_Find.calls (ns.length + 1) A c (ns.map str) (str s) _ w (by rw [List.length_map]; exact hC) (by rw [List.length_map]; exact hc) (refFind ns hl s _ (Nat.le_refl _)))
  rw [List.length_map] at hf
  replace hC := Aside0.mk hC
  by_cases hm : s ∈ ns
  · have hea : addN ns s = ns := addN_old hm
    have hpos : decide ((0 : Int) < (findN ns s : Nat)) = true := by
      have : 0 < findN ns s := by unfold findN; rw [if_pos hm]; omega
      simp; omega
    rw [hea]
    generalize ((findN ns s : Nat) : Int) = fv at hf hpos ⊢
    clear hm
    go_enter Tryz.func45, Tryz.ntmps45
    go_wp2_with (go_at_call 48; refine hf.out.mono ?_; rintro e w1 ⟨rfl, ⟨nd, rfl⟩⟩)
    go_ret2
    exact ⟨_, rfl, h.out.below (pw_below_drewN (Below.refl _ _) _), pw_below_drewN (Below.refl _ _) _⟩
  · have hea : addN ns s = ns ++ [s] := by unfold addN; rw [if_neg hm]
    have h0 : findN ns s = 0 := by unfold findN; rw [if_neg hm]
    have hlen : (ns ++ [s]).length = ns.length + 1 := by simp
    have hfn : findN (ns ++ [s]) s = ns.length + 1 := findN_snoc hm
    rw [h0] at hf
    rw [hea, hfn, show ((ns.length + 1 : Nat) : Int) = (ns.length : Int) + 1 by omega]
    clear hm hea h0 hfn
    go_enter Tryz.func45, Tryz.ntmps45
    go_wp2_with (first
      | (go_at_call 48; refine hf.out.mono ?_; rintro e w1 ⟨rfl, ⟨nd, rfl⟩⟩)
      | ((with_reducible refine gate_builtin (b := .append) (xs := #[.tmp 15, .tmp 16]) rfl ?_); at_builtin; refine Kd.R_append_rows Kd.string (w0 := w) w.heap.size rfl (.tmp 15) (.tmp 16) 22 9 (.string ⟨#[]⟩) 16 rfl Tryz.underlying22 info9 rfl (by decide) (by omega) (.slice none 0 0) ([] : List ByteArray) (ns.map str) _ _ _ (fun k_ => w.heap.size ≤ k_) (fun _ => False) rfl rfl ?aO ?aR (fun _ _ h => h) (fun _ h => h.elim) ?aF ?aB ?aS ?aL ?_; (case aR => exact Kd.C_drewN hC.out _); (case aF => exact fun k_ hk => hk); (case aO => exact Kd.R_nil _ _ _ _ _); (case aB => exact pw_below_drewN (Below.refl _ _) _); (case aS => exact Nat.le_refl _); (case aL => simp only [List.length_nil]; omega); intro v2 w2 ho2 hb2 hg2 hat2; replace ho2 := Aside0.mk ho2; replace hb2 := Aside0.mk hb2; clear hg2 hat2)
      | ((with_reducible refine gate_builtin (b := .append) (xs := #[.tmp 18, .tmp 20]) rfl ?_); at_builtin; refine Kd.R_append Kd.string (w0 := w) w.heap.size rfl (.tmp 18) (.tmp 20) 22 9 (.string ⟨#[]⟩) 16 rfl Tryz.underlying22 info9 rfl (by decide) (by omega) v2 ([] ++ ns.map str) (str s) [.string (str s)] (fun k_ => w.heap.size ≤ k_) (fun _ => False) rfl rfl ?aP (fun _ hk => hk.elim) ?aF ?aO ?aB ?aS ?aL ?_; (case aP => exact rfl); (case aF => exact fun k_ hk => Nat.le_trans hb2.out.size hk); (case aO => exact ho2.out); (case aB => exact hb2.out); (case aS => exact hb2.out.size); (case aL => simp only [List.nil_append, List.length_map]; omega); intro v3 w3 ho3 hb3 hg3 hat3; rw [show [] ++ ns.map str ++ [str s] = (ns ++ [s]).map str by simp] at ho3; have hR3 := Aside0.mk (RN.of (ns := ns ++ [s]) ho3); obtain ⟨A3, c3, rfl, hc3, -⟩ := DN.reads (ns := ns ++ [s]) ho3; replace hb3 := Aside0.mk hb3; clear ho3 hg3 hat3; rw [hlen] at hc3 ⊢))
    go_ret2
    exact ⟨.slice A3 (ns.length + 1) c3, rfl, by have := hR3.out; rwa [hlen] at this, hb3.out⟩
end Go.Proofs.YtkbkkceeolclmaaGreatDoor.X
