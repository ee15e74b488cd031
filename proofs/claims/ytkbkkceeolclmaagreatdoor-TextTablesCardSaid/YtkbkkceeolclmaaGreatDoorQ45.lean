/- The law TextRules. From a row's listed variables, and a world's shape, to what the walks ask. -/
import Derived.Test.YtkbkkceeolclmaaGreatDoorRows
import Derived.HandedShaped
import Derived.MakeChecks
import Derived.Stop.LaidErr
import Derived.Stop.Joined
import Derived.Shelf.Vars
import Derived.LaidMore
import Derived.LaidHandle
import Derived.ProofKit
import Derived.WalkKit
import Derived.Test.YtkbkkceeolclmaaGreatDoorQ40
import Derived.Test.YtkbkkceeolclmaaGreatDoorQ42
import Derived.Test.YtkbkkceeolclmaaGreatDoorQ43
import Derived.Test.YtkbkkceeolclmaaGreatDoorQ44
import Derived.Test.YtkbkkceeolclmaaGreatDoorQ19
set_option linter.unusedVariables false
set_option linter.unusedSimpArgs false
namespace Go.TX
mutual
theorem goodC_held : ∀ x : Cd, goodC x → heldC x = x
  | .mk k a b c subs, h => by
    unfold goodC at h
    unfold heldC
    rcases h with ⟨_, ha, hb, hc, rfl⟩ | ⟨_, rfl, rfl, rfl, hs⟩
    · have ea : cutT a = a := cutT_low fun _ => (by have := (tm_small ha).2; omega)
      have eb : cutT b = b := cutT_low fun _ => (by have := (tm_small hb).2; omega)
      have ec : cutT c = c := cutT_low fun _ => (by have := (tm_small hc).2; omega)
      rw [ea, eb, ec]
      rfl
    · have e : cutT (false, 0) = (false, 0) := by decide
      rw [e, goodL_held subs hs]
theorem goodL_held : ∀ l : List Cd, goodL l → heldL l = l
  | [], _ => rfl
  | x :: l, h => by
    unfold heldL
    rw [goodC_held x h.1, goodL_held l h.2]
end
theorem rtext_zero {ns : List (List UInt8)} {nm : List UInt8} {l : List Cd} (h : (rtext ns nm l).2 = 0) : rchk nm l = 0 := by
  unfold rtext at h
  split at h
  · rename_i h1; exact absurd h h1
  · rename_i h1; simpa using h1
theorem rtext_len {ns : List (List UInt8)} (hN : ∀ s ∈ ns, s.length ≤ 32) {nm : List UInt8} {l : List Cd} (h : (rtext ns nm l).2 = 0) : (rtext ns nm l).1.length ≤ 2000 := by
  have hz := rtext_zero h
  obtain ⟨hr, hg, _, h16⟩ := rchk_ok hz
  have hrs := (right_size hr).2
  rw [str_size] at hrs
  unfold rtext at h ⊢
  rw [if_neg (by rw [hz]; simp)] at h ⊢
  cases hw : cwordsL ns l with
  | none => rw [hw] at h; simp at h
  | some ws =>
    have hl := cwordsL_len hN l ws hg hw
    have e : join (nm :: ws) = nm ++ tail ws := by rw [join_cons]; rfl
    simp only
    rw [e, List.length_append]
    omega
end Go.TX
namespace Go.Proofs.YtkbkkceeolclmaaGreatDoor.X
open Go.RowKit Go.TX Go.Proofs.YtkbkkceeolclmaaGreatDoorW.PrintWords Go.Proofs.YtkbkkceeolclmaaGreatDoorL
attribute [local go_sem] YReg.envOf
/-- The document's rule, as a call gives it. -/
def IsRl (nm : List UInt8) (l : List Cd) (u : Value) (W : World) : Prop := ∃ S n, u = .agg #[.string (str nm), S] ∧ BR n W S l
theorem IsRl.up {nm : List UInt8} {l : List Cd} : ∀ u w w', IsRl nm l u w → YReg.Ext w w' → IsRl nm l u w' := fun _ _ _ ⟨S, n, e, h⟩ hb => ⟨S, n, e, h.below hb⟩
set_option maxRecDepth 100000 in
set_option maxHeartbeats 8000000 in
theorem law_rules (inp : List (List UInt8)) (A0 : Option Addr) (cap0 : Nat) (nm : List UInt8) (l : List Cd) (A1 : Option Addr) (cap1 : Nat) (w : World) (hC : Kd.C Kd.string w A0 inp.length (inp.map str)) (hcap : inp.length ≤ cap0)
    (hll : l.length ≤ 9223372036854775807) (hR : RepL evA w (fun b => b < w.heap.size) l A1 0) (hE : Env w) :
    Calls Tryz.prog 3 #[.slice A0 inp.length cap0, .agg #[.string (str nm), .slice A1 l.length cap1]] w fun e W => e = .returned (.bool true) ∧ Below w.heap.size w W := by
  have hB0 := Aside0.mk ((Below.refl w.heap.size w).alloc (Nat.le_refl _) (.cells #[.string (str nm), .slice A1 l.length cap1] 25))
  have hx0 := Aside0.mk (blk_new w (.cells #[.string (str nm), .slice A1 l.length cap1] 25))
  have htab := Aside0.mk (table_walk inp A0 cap0 (w.alloc (.cells #[.string (str nm), .slice A1 l.length cap1] 25)) (Kd.C_below hC hB0.out) hcap)
  have hz0 := Aside0.mk (show (w.alloc (.cells #[.string (str nm), .slice A1 l.length cap1] 25)).heap.size = w.heap.size + 1 by simp)
  have hnsl := Aside0.mk (tabN_len inp)
  have hnsn := Aside0.mk (tabN_names inp)
  generalize tabN inp = ns at htab hnsl hnsn
  replace hR := Aside0.mk hR
  replace hE := Aside0.mk hE
  clear hC
  go_enter Tryz.func3, Tryz.ntmps3
  go_upto_region 1 with fail
  generalize w.alloc (.cells #[.string (str nm), .slice A1 l.length cap1] 25) = W0 at hB0 hx0 htab hz0 ⊢
  generalize hg : w.heap.size = g at hx0 hz0 ⊢
  replace hg := Aside0.mk hg
  go_upto_region 2 with (go_at_call 8; refine htab.out.mono ?_; rintro e W1 (⟨hok, t, v, rfl, hts⟩ | ⟨hno, rfl, hb1⟩))
  rotate_left
  · have hB1 := Aside0.mk (hB0.out.trans (hb1.mono hB0.out.size))
    have haw := Aside0.mk (awake_walk W1 (hE.out.of hB1.out (Nat.le_refl _)))
    replace hb1 := Aside0.mk hb1
    go_wp2_with (go_at_call 10; refine haw.out.mono ?_; rintro e w2 ⟨rfl, hb2⟩; replace hb2 := Aside0.mk hb2)
    go_ret
    exact ⟨rfl, hB1.out.trans (hb2.out.mono hB1.out.size)⟩
  obtain ⟨T, P, hT, hP, hTb, hPb, hTP, hb1⟩ := hts
  obtain ⟨Av, cv, rfl, hcv, hKv⟩ := hP.reads
  have hB1 := Aside0.mk (hB0.out.trans (hb1.mono hB0.out.size))
  have hx1 := Aside0.mk ((hb1.block g (blk_lt hx0.out)).trans hx0.out)
  have hnl : ns.length ≤ 40 := by have := hnsl.out; have := hok.1; omega
  have hz1 := Aside0.mk (show g + 1 ≤ W1.heap.size by have := hb1.size; have := hz0.out; omega)
  have hTg := Aside0.mk (fun b (q : T b) => show g + 1 ≤ b by have := (hTb b q).1; have := hz0.out; omega)
  have hTl := Aside0.mk (fun b (q : T b) => show b < W1.heap.size from (hTb b q).2)
  replace hP : DN 0 P W1 (.slice Av ns.length cv) ns := Kd.R_lower hP (Nat.zero_le _)
  replace hPb : ∀ b, P b → b < W1.heap.size := fun b q => (hPb b q).2
  replace hT := Aside0.mk hT
  replace hP := Aside0.mk hP
  replace hPb := Aside0.mk hPb
  replace hTP := Aside0.mk hTP
  replace hKv := Aside0.mk hKv
  clear hTb hb1 hB0 hx0 htab hz0
  clear W0
  have hsm := Aside0.mk (small9 (str nm) l A1 cap1 W1 60 hll (RepL.mono (fun b hb => Nat.lt_of_lt_of_le hb hB1.out.size) l A1 0 (hR.out.below hB1.out)) (by decide) (by decide))
  have x0 := (blk_cell hx1.out 0).trans (show _ = some (Value.string (str nm)) from rfl)
  have x1 := (blk_cell hx1.out 1).trans (show _ = some (Value.slice A1 l.length cap1) from rfl)
  go_upto_region 3 with (go_at_call 9; refine hsm.out.mono ?_; rintro e W2 ⟨rb, rfl, hb2, hsz⟩; have hB2 := Aside0.mk (hB1.out.trans (hb2.mono hB1.out.size)); have hx2 := Aside0.mk ((hb2.block g (blk_lt hx1.out)).trans hx1.out); have y0 := (blk_cell hx2.out 0).trans (show _ = some (Value.string (str nm)) from rfl); have y1 := (blk_cell hx2.out 1).trans (show _ = some (Value.slice A1 l.length cap1) from rfl); replace hsz := Aside0.mk hsz; replace hb2 := Aside0.mk hb2; rcases rb with _ | _)
  · have haw := Aside0.mk (awake_walk W2 (hE.out.of hB2.out (Nat.le_refl _)))
    go_wp2_with (go_at_call 10; refine haw.out.mono ?_; rintro e w3 ⟨rfl, hb3⟩; replace hb3 := Aside0.mk hb3)
    go_ret
    exact ⟨rfl, hB2.out.trans (hb3.out.mono hB2.out.size)⟩
  · obtain ⟨hcs, hns⟩ := hsz.out trivial
    rw [str_size] at hns
    have hcs' : csizeL l ≤ 60 := by omega
    have hshort := Aside0.mk (names_short hnsn.out)
    have hrt := rtext_walk hshort.out (by omega) nm (by omega) l A1 cap1 W2 _ (by omega) (hR.out.below hB2.out) (hT.out.below hb2.out) (hE.out.of hB2.out (Nat.le_refl _))
    obtain ⟨⟨S, cd⟩, hq⟩ : ∃ q, rtext ns nm l = q := ⟨_, rfl⟩
    rw [hq] at hrt
    simp only at hrt
    replace hrt := Aside0.mk hrt
    go_upto_region 5 with (go_at_call 11; refine hrt.out.mono ?_; rintro e W3 ⟨rfl, hb3⟩; replace hb3 := Aside0.mk hb3)
    have hB3 := Aside0.mk (hB2.out.trans (hb3.out.mono hB2.out.size))
    have hx3 := Aside0.mk ((hb3.out.block g (blk_lt hx2.out)).trans hx2.out)
    have hT3 := Aside0.mk ((hT.out.below hb2.out).below hb3.out)
    have hP3 := Aside0.mk ((hP.out.below hb2.out).below hb3.out)
    have hK3 := Aside0.mk (Kd.C_below (Kd.C_below hKv.out hb2.out) hb3.out)
    have hT3l := Aside0.mk (fun b (q : T b) => show b < W3.heap.size from Nat.lt_of_lt_of_le (hTl.out b q) (Nat.le_trans hb2.out.size hb3.out.size))
    have hP3l := Aside0.mk (fun b (q : P b) => show b < W3.heap.size from Nat.lt_of_lt_of_le (hPb.out b q) (Nat.le_trans hb2.out.size hb3.out.size))
    clear y0 y1 hrt hT hP hKv hsm hsz hx1 hx2 x0 x1
    have x0 := (blk_cell hx3.out 0).trans (show _ = some (Value.string (str nm)) from rfl)
    have x1 := (blk_cell hx3.out 1).trans (show _ = some (Value.slice A1 l.length cap1) from rfl)
    have href := Aside0.mk (ref13 (csizeL l + 1) (str nm) l A1 cap1 W3 _ (Nat.lt_succ_self _) (by omega) (hR.out.below hB3.out))
    go_upto_region 6 with (first | (go_at_call 13; refine href.out.mono ?_; rintro e W4 ⟨S4, rfl, hb4, hbr4⟩; obtain ⟨A4, c4, rfl, hrr4⟩ := hbr4.reads; have hrrt := rrtext_walk hshort.out (by omega) Av cv hcv nm (by omega) l A4 c4 W4 _ (by omega) hrr4 (Kd.C_below hK3.out hb4); rw [hq] at hrrt; simp only at hrrt; replace hrrt := Aside0.mk hrrt; replace hb4 := Aside0.mk (show Below W3.heap.size W3 W4 from hb4)) | (go_at_call 12; refine hrrt.out.mono ?_; rintro e W5 ⟨rfl, hb5⟩; replace hb5 := Aside0.mk hb5))
    have hb35 := Aside0.mk (hb4.out.trans (hb5.out.mono hb4.out.size))
    have hB5 := Aside0.mk (hB3.out.trans (hb35.out.mono hB3.out.size))
    have hx5 := Aside0.mk ((hb35.out.block g (blk_lt hx3.out)).trans hx3.out)
    have hT5 := Aside0.mk (hT3.out.below hb35.out)
    have hP5 := Aside0.mk (hP3.out.below hb35.out)
    have hT5l := Aside0.mk (fun b (q : T b) => show b < W5.heap.size from Nat.lt_of_lt_of_le (hT3l.out b q) hb35.out.size)
    have hP5l := Aside0.mk (fun b (q : P b) => show b < W5.heap.size from Nat.lt_of_lt_of_le (hP3l.out b q) hb35.out.size)
    clear x0 x1 href hrrt hT3 hP3 hK3 hT3l hP3l hx3 hb4 hb5 hb35 hbr4 hrr4
    by_cases hcd : cd = 0
    · subst hcd
      have hz : rchk nm l = 0 := rtext_zero (by rw [hq])
      obtain ⟨_, hgl, _, _⟩ := rchk_ok hz
      have hpr : rparse ns S = ((nm, l), ns, 0) := by
        have := rparse_rtext hnsn.out (by omega) (nm := nm) (l := l) (by rw [hq]) (goodL_held l hgl)
        rw [hq] at this
        exact this
      have hSl : S.length ≤ 5000 := by
        have := rtext_len hshort.out (nm := nm) (l := l) (by rw [hq])
        rw [hq] at this
        simp only at this
        omega
      have hpw := parse_walk hT5.out hT5l.out hnsn.out (by omega) (hE.out.of hB5.out (Nat.le_refl _)) S hSl
      rw [hpr] at hpw
      replace hpw := Aside0.mk hpw
      replace hq := Aside0.mk hq
      clear hz hgl hpr
      go_upto_region 11 with (go_at_call 14; refine hpw.out.mono ?_; rintro e W6 ⟨V6, rfl, hfr6, ⟨T6, hT6, htb6⟩, hbx6⟩; obtain ⟨A6, c6, rfl, hrd6⟩ := hbx6.reads; replace hfr6 := Aside0.mk hfr6; replace htb6 := Aside0.mk htb6; replace hrd6 := Aside0.mk hrd6; clear hbx6)
      have hFw := hfr6.out.below (B := g) (by have := hB5.out.size; have := hg.out; omega) (fun b q => by have := hTg.out b q; omega)
      have hB6 : Below w.heap.size w W6 := hB5.out.trans (hg.out.symm ▸ hFw)
      have hA7 := (Below.refl W6.heap.size W6).alloc (Nat.le_refl _) (.cells #[.string (str nm), .slice A6 l.length c6] 25)
      have hn7 := Aside0.mk (blk_new W6 (.cells #[.string (str nm), .slice A6 l.length c6] 25))
      have hB7 := Aside0.mk (hB6.trans (hA7.mono hB6.size))
      have hx6 := (hfr6.out.ch.block g (blk_lt hx5.out) (fun q => by have := hTg.out g q; omega)).trans hx5.out
      have hx7 := Aside0.mk (blk_alloc hx6 (.cells #[.string (str nm), .slice A6 l.length c6] 25))
      have hT7 := Aside0.mk (htb6.out.below hA7)
      have hP6 : DN 0 P W6 (.slice Av ns.length cv) ns := hP5.out.step fun b q hl => hfr6.out.ch.block b hl (fun q2 => hTP.out b q2 q)
      have hP7 := hP6.below hA7
      obtain ⟨Aw, cw, ew, hcw, hK7⟩ := hP7.reads
      cases ew
      replace hK7 := Aside0.mk hK7
      have hr7 := Aside0.mk (hrd6.out.below hA7)
      clear hFw hB6 hA7 hx6 hP6 hP7 hfr6 htb6 hrd6 hpw hx5 hT5 hP5 hB5
      generalize W6.alloc (.cells #[.string (str nm), .slice A6 l.length c6] 25) = W7 at hn7 hB7 hx7 hT7 hK7 hr7 ⊢
      generalize W6.heap.size = g7 at hn7 ⊢
      have k13a : Aside0 (∀ W', YReg.Ext W7.drew W' → Calls Tryz.prog 13 #[.agg #[.string (str nm), .slice A6 l.length c6]] W' fun e W2 => ∃ u, e = .returned u ∧ YReg.Ext W' W2 ∧ IsRl nm l u W2) := ⟨fun W' h => (ref13 (csizeL l + 1) (str nm) l A6 c6 W' _ (Nat.lt_succ_self _) (by omega) (hr7.out.below h.of_drew)).mono fun e W2 ⟨S, h1, h2, h3⟩ => ⟨_, h1, h2, S, _, rfl, h3⟩⟩
      have k13b : Aside0 (∀ W', YReg.Ext W7.drew W' → Calls Tryz.prog 13 #[.agg #[.string (str nm), .slice A1 l.length cap1]] W' fun e W2 => ∃ u, e = .returned u ∧ YReg.Ext W' W2 ∧ IsRl nm l u W2) := ⟨fun W' h => (ref13 (csizeL l + 1) (str nm) l A1 cap1 W' _ (Nat.lt_succ_self _) (by omega) ((hR.out.below hB7.out).below h.of_drew)).mono fun e W2 ⟨S, h1, h2, h3⟩ => ⟨_, h1, h2, S, _, rfl, h3⟩⟩
      have k15 : Aside0 (∀ u1 u2 W', YReg.Ext W7.drew W' → IsRl nm l u1 W' → IsRl nm l u2 W' → Calls Tryz.prog 15 #[u1, u2] W' fun e W2 => ∃ u, e = .returned u ∧ YReg.Ext W' W2 ∧ u = .bool true) := ⟨fun u1 u2 W' h ⟨S1, n1, q1, r1⟩ ⟨S2, n2, q2, r2⟩ => by
        obtain ⟨B1, d1, rfl, t1⟩ := r1.reads
        obtain ⟨B2, d2, rfl, t2⟩ := r2.reads
        subst q1 q2
        exact (same15 nm l B1 d1 B2 d2 W' _ _ (by omega) t1 t2).mono fun e W2 ⟨h1, h2⟩ => ⟨_, h1, h2, rfl⟩⟩
      have k16 : Aside0 (∀ W', YReg.Ext W7.drew W' → Calls Tryz.prog 16 #[.pointer (some ⟨t, 0, none⟩), .slice Av ns.length cv] W' fun e W2 => ∃ u, e = .returned u ∧ YReg.Ext W' W2 ∧ u = .bool true) := ⟨fun W' h => (has_walk (hT7.out.below h.of_drew) Av cv (Kd.C_below hK7.out h.of_drew) hcw (by omega)).mono fun e W2 ⟨h1, h2⟩ => ⟨_, h1, h2 ▸ YReg.Ext.refl _, rfl⟩⟩
      have k10 : Aside0 (∀ W', YReg.Ext W7.drew W' → Calls Tryz.prog 10 #[] W' fun e W2 => ∃ u, e = .returned u ∧ YReg.Ext W' W2 ∧ u = .bool true) := ⟨fun W' h => (awake_walk W' ((hE.out.of hB7.out (Nat.le_refl _)).below h.of_drew)).mono fun e W2 ⟨h1, h2⟩ => ⟨_, h1, h2, rfl⟩⟩
      have s0 : ∀ W', YReg.Ext W7.drew W' → W'.cell? ⟨g7, 0, none⟩ = some (.string (str nm)) := fun W' h => (blk_cell ((h.of_drew.block _ (blk_lt hn7.out)).trans hn7.out) 0).trans rfl
      have s1 : ∀ W', YReg.Ext W7.drew W' → W'.cell? ⟨g7, 1, none⟩ = some (.slice A6 l.length c6) := fun W' h => (blk_cell ((h.of_drew.block _ (blk_lt hn7.out)).trans hn7.out) 1).trans rfl
      have s2 : ∀ W', YReg.Ext W7.drew W' → W'.cell? ⟨g, 0, none⟩ = some (.string (str nm)) := fun W' h => (blk_cell ((h.of_drew.block _ (blk_lt hx7.out)).trans hx7.out) 0).trans rfl
      have s3 : ∀ W', YReg.Ext W7.drew W' → W'.cell? ⟨g, 1, none⟩ = some (.slice A1 l.length cap1) := fun W' h => (blk_cell ((h.of_drew.block _ (blk_lt hx7.out)).trans hx7.out) 1).trans rfl
      refine YReg.wp_region_tail 17 none YReg.Ext YReg.Ext YReg.Ext.refl YReg.Ext.trans YReg.Ext.trans (fun _ _ h => h) (by kernel_rfl) (by kernel_rfl) (by kernel_rfl) [(13, .det (.int .i64 0)), (12, .det (.pointer (some ⟨g7, 0, none⟩))), (3, .det (.pointer (some ⟨g, 0, none⟩))), (5, .det (.pointer (some ⟨t, 0, none⟩))), (6, .det (.slice Av ns.length cv))] (YReg.base_cons rfl (YReg.base_cons rfl (YReg.base_cons rfl (YReg.base_cons rfl (YReg.base_cons rfl YReg.base_nil))))) ?_
      simp only [List.take_succ_cons, List.take_zero, List.drop_succ_cons, List.drop_zero]
      repeat (first
        | (refine YReg.walk_calln (by decide) IsRl.up k13a.out rfl (by kernel_rfl) rfl _ rfl (by kernel_rfl) (by kernel_rfl) ?_)
        | (refine YReg.walk_calln (by decide) IsRl.up k13b.out rfl (by kernel_rfl) rfl _ rfl (by kernel_rfl) (by kernel_rfl) ?_)
        | (refine YReg.walk_calld2 (by decide) k15.out rfl (by kernel_rfl) rfl rfl _ rfl (by kernel_rfl) (by kernel_rfl) ?_)
        | (refine YReg.walk_calld (by decide) k16.out rfl (by kernel_rfl) rfl _ rfl (by kernel_rfl) (by kernel_rfl) ?_)
        | (refine YReg.walk_calld (by decide) k10.out rfl (by kernel_rfl) rfl _ rfl (by kernel_rfl) (by kernel_rfl) ?_)
        | (refine YReg.run_1 (by decide) YReg.Ext.refl rfl rfl _ rfl (by kernel_rfl) (by kernel_rfl) ?_; apply Exists.intro; refine ⟨fun ρ W hE h1 => ?_, ?_⟩; (go_simp; try rfl))
        | (refine YReg.run_2 (by decide) YReg.Ext.refl rfl rfl rfl _ rfl (by kernel_rfl) (by kernel_rfl) ?_; apply Exists.intro; refine ⟨fun ρ W hE h1 h2 => ?_, ?_⟩; (go_simp; try rfl)))
      intro ρ W8 hE8 hn
      simp only [Act.put, List.setIfInBounds_toArray, List.set_cons_zero, List.set_cons_succ]
      have hB8 := Aside0.mk (hB7.out.trans (hE8.of_drew.mono hB7.out.size))
      clear hn hE8 s0 s1 s2 s3 k10 k13a k13b k15 k16
      generalize ρ 62 = x62
      generalize ρ 64 = x64
      go_wp2
      go_ret
      exact ⟨rfl, hB8.out⟩
    · have hcd' : (cd != 0) = true := bne_iff_ne.2 hcd
      have haw := Aside0.mk (awake_walk W5 (hE.out.of hB5.out (Nat.le_refl _)))
      replace hcd := Aside0.mk hcd
      go_wp2_with (go_at_call 10; refine haw.out.mono ?_; rintro e w6 ⟨rfl, hb6⟩; replace hb6 := Aside0.mk hb6)
      go_ret
      exact ⟨rfl, hB5.out.trans (hb6.out.mono hB5.out.size)⟩
end Go.Proofs.YtkbkkceeolclmaaGreatDoor.X
namespace Go.Proofs.YtkbkkceeolclmaaGreatDoor.X
open Go.RowKit Go.Lib
/-- The builder of the kit, the world's shape kept. -/
theorem returns_shaped {H : Type} {enc : TypeId × Value → H} {a : Assume} {C : Checked} {os : Os} {f : FuncId} {fn : Func} {s : ChangeSpec} {conds : List PathCond} {apart fresh handsOn again : Bool} {X : World → Array Value → Prop}
    (hX : ∀ (w w' : World) (args : Array Value), w.heap = w'.heap → X w args → X w' args)
    (own : ownKnob C.prog.godebug = none) (started : os.Started) (noInit : C.prog.inits.idxOf? f = none) (hfn : C.prog.funcs[f]? = some fn)
    (witness : ∃ (w : World) (tape : Tape) (i : Input), w.os = os ∧ (w.forCall tape i).Shaped C.prog ∧ i.vars = [] ∧ Input.okWide C.prog (w.forCall tape i) .any w.heap.size f i ∧
      ((s.pre enc C.prog fn conds apart (w.forCall tape i).memory i.args ∧ X (w.forCall tape i).memory i.args) ∧ sizedMet enc C.prog fn (OpenSpec.ofChange s) apart (w.forCall tape i).memory i.args) ∧ a.holds C.prog (lone (Frame.enter C.prog f i.args .normal) [] (w.forCall tape i)))
    (contract : ∀ (W : World) (base : Nat) (args : Array Value) (ds gs : List (DataW H)) (before : List MemPlace),
      (∀ (j : Nat) t v, fn.params[j]? = some t → args[j]? = some v → Value.okWide C.prog W .any base t v) →
      DataW.Whole enc C.prog fn.params.toList s.vars apart W args.toList ds gs before → X W args → W.ShapedOpen C.prog →
      Calls C.prog f args W fun e W' => ∃ v, e = .returned v ∧ s.post enc C.prog fn apart fresh handsOn again W args v W') :
    ReturnsInHanded a C os f .any (fun w args => (s.pre enc C.prog fn conds apart w args ∧ X w args) ∧ sizedMet enc C.prog fn (OpenSpec.ofChange s) apart w args) (s.post enc C.prog fn apart fresh handsOn again) := by
  refine returnsInHanded_of_calls own started noInit witness ?_
  intro w tape i _ hsh _ hok hpre _
  obtain ⟨_, _, _, fn', hfn', _, _, _, _, hval⟩ := hok
  have e : fn' = fn := Option.some.inj (hfn'.symm.trans hfn)
  subst e
  obtain ⟨⟨⟨ds, gs, before, hw, _⟩, hx⟩, _⟩ := hpre
  have hw' := DataW.Whole.of_heap (w' := w.forCall tape i) (by rfl) hw
  refine (contract (w.forCall tape i) w.heap.size i.args ds gs before hval hw' (hX _ _ _ (by rfl) hx) hsh).mono fun e W' ⟨v, he, hp⟩ => ?_
  subst he
  exact ChangeSpec.post_blind hp
theorem env_of {W : World} (hL : laidMetH Tryz.prog Rows.textRulesRow.laid W) (hS : W.ShapedOpen Tryz.prog) : Env W := by
  have h : laidMet Tryz.prog Rows.textRulesRow.laid W := by rw [← MakeChecks.laidMetH_plain _ _ _ (by kernel_rfl)]; exact hL
  have h2 : laidMet Tryz.prog (("internal/strconv.uint64pow10", tabData .u64 pow10Tab) :: _) W := h.tail.tail
  refine ⟨tabIs_of_head (g := 1) (by kernel_rfl) (t := 195) (e := 179) (n := 20) (by kernel_rfl) (by kernel_rfl) (by kernel_rfl) (by kernel_rfl) (by kernel_rfl) h2, ?_⟩
  exact Go.Proofs.cell_of_shapedOpen_int (zero := #[.int .i64 0]) (t := 3) hS (of_decide_eq_true (by kernel_rfl)) (by kernel_rfl) rfl (by kernel_rfl) (by kernel_rfl) Tryz.underlying3
/-- The cells of a table. -/
def cellsIn (d : DataW Unit) : Array Value := match d with
  | .agg l => (l.map fun x => match x with
    | .lit (.int k z) => Value.int k z
    | _ => undef).toArray
  | _ => #[]
/-- A start: what the door's run leaves, and the pinned table. -/
noncomputable def start (os : Os) : World :=
  { World.doorLaid Tryz.prog 3000 os with heap := (World.doorLaid Tryz.prog 3000 os).heap.setIfInBounds 2 (.cells (cellsIn Rows.laid_unicode_utf8_first) 200 (0, 0)) }
theorem start_met (os : Os) (args : Array Value) : laidMetH Tryz.prog Rows.textRulesRow.laid ((start os).forCall (fun _ _ => 0) ⟨#[], args, []⟩).memory :=
  laidMetH_of_parts3 (fuel := 8) (laidMet_of_run' 8 (by kernel_rfl) (by kernel_rfl)) (by kernel_rfl) (by kernel_rfl)
theorem start_shaped (os : Os) (args : Array Value) : ((start os).forCall (fun _ _ => 0) ⟨#[], args, []⟩).Shaped Tryz.prog := World.shaped_of_RefB (by kernel_rfl) (by kernel_rfl)
end Go.Proofs.YtkbkkceeolclmaaGreatDoor.X
