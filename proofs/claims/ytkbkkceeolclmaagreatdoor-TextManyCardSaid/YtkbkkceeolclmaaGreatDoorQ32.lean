/- The program's check of a rule. -/
import Derived.Test.YtkbkkceeolclmaaGreatDoorQ27
import Derived.Test.YtkbkkceeolclmaaGreatDoorQ31
set_option linter.unusedVariables false
set_option linter.unusedSimpArgs false
namespace Go.Proofs.YtkbkkceeolclmaaGreatDoor.X
open Go.RowKit Go.TX Go.Proofs.YtkbkkceeolclmaaGreatDoorW.PrintWords Go.Proofs.YtkbkkceeolclmaaGreatDoorL
/-- A value that stands as it is. -/
def Is (c : Value) (u : Value) (_ : World) : Prop := u = c
theorem Is.up {c : Value} : ∀ u w w', Is c u w → YReg.Ext w w' → Is c u w' := fun _ _ _ h _ => h
/-- The ways that a call gives. -/
def Made (ws : List (List Nat)) (u : Value) (W : World) : Prop := ∃ n, OW n W u ws
theorem Made.up {ws : List (List Nat)} : ∀ u w w', Made ws u w → YReg.Ext w w' → Made ws u w' := fun _ _ _ ⟨n, h⟩ hb => ⟨n, OW.below h hb⟩
attribute [local go_sem] YReg.envOf
set_option maxRecDepth 100000 in
set_option maxHeartbeats 2000000 in
theorem rule_walk (nm : List UInt8) (hnm : nm.length ≤ 5000) (l : List Cd) (A : Option Addr) (cap : Nat) (w : World) (F : Nat → Prop) (hs : csizeL l ≤ 5000) (hR : RepL evA w F l A 0) :
    Calls Tryz.prog 28 #[.agg #[.string (str nm), .slice A l.length cap]] w fun e W => e = .returned (.int .i64 (rchk nm l)) ∧ Below w.heap.size w W := by
  have hlen := csizeL_len l
  have hB0 := Aside0.mk ((Below.refl w.heap.size w).alloc (Nat.le_refl _) (.cells #[.string (str nm), .slice A l.length cap] 25))
  have hbx := Aside0.mk (blk_new w (.cells #[.string (str nm), .slice A l.length cap] 25))
  replace hR := Aside0.mk hR
  have hrt := Aside0.mk (fun W => right_walk (str nm) (by rw [str_size]; omega) W)
  cases h1 : rightName (str nm) with
  | false =>
    have e : rchk nm l = 1 := by unfold rchk; rw [if_pos h1]
    rw [e]
    rw [h1] at hrt
    clear e
    replace h1 := Aside0.mk h1
    go_enter Tryz.func28, Tryz.ntmps28
    go_wp2_with (go_at_call 35; refine (hrt.out _).mono ?_; rintro e w2 ⟨rfl, hb2⟩; have hbx2 := Aside0.mk ((hb2.block _ (blk_lt hbx.out)).trans hbx.out); have x10 := (blk_cell hbx2.out 1).trans (show _ = some (Value.slice A l.length cap) from rfl); replace hb2 := Aside0.mk (hB0.out.trans (hb2.mono hB0.out.size)))
    go_ret
    exact ⟨rfl, hb2.out⟩
  | true =>
    rw [h1] at hrt
    by_cases h0 : l.length = 0
    · have hnil := List.length_eq_zero_iff.1 h0
      subst hnil
      have e : rchk nm [] = 2 := by unfold rchk; rw [if_neg (by rw [h1]; simp), if_pos (show ([] : List Cd).isEmpty = true from rfl)]
      rw [e]
      clear e
      replace h1 := Aside0.mk h1
      go_enter Tryz.func28, Tryz.ntmps28
      go_wp2_with (go_at_call 35; refine (hrt.out _).mono ?_; rintro e w2 ⟨rfl, hb2⟩; have hbx2 := Aside0.mk ((hb2.block _ (blk_lt hbx.out)).trans hbx.out); have x10 := (blk_cell hbx2.out 1).trans (show _ = some (Value.slice A ([] : List Cd).length cap) from rfl); replace hb2 := Aside0.mk (hB0.out.trans (hb2.mono hB0.out.size)))
      go_ret
      exact ⟨rfl, hb2.out⟩
    have hne : l.isEmpty = false := by cases l with | nil => simp at h0 | cons x l => rfl
    have h0' : ((l.length : Int) == 0) = false := by rw [beq_eq_false_iff_ne]; omega
    obtain ⟨r, hr⟩ : ∃ r, rchk nm l = r := ⟨_, rfl⟩
    have hbad := Aside0.mk (fun (h : cchkL 1 l ≠ 0) => show r = cchkL 1 l from by rw [← hr]; unfold rchk; rw [if_neg (by rw [h1]; simp), if_neg (by rw [hne]; simp), if_pos h])
    have hlong := Aside0.mk (fun (h : cchkL 1 l = 0) (h4 : 16 < csizeL l) => show r = 7 from by rw [← hr]; unfold rchk; rw [if_neg (by rw [h1]; simp), if_neg (by rw [hne]; simp), if_neg (by rw [h]; simp), if_pos h4])
    have hend := Aside0.mk (fun (h : cchkL 1 l = 0) (h4 : ¬ 16 < csizeL l) => hr.symm.trans (rchk_parts h1 hne h h4))
    rw [hr]
    clear hr
    replace h1 := Aside0.mk h1
    replace hne := Aside0.mk hne
    go_enter Tryz.func28, Tryz.ntmps28
    go_wp2_with (go_at_call 35; refine (hrt.out _).mono ?_; rintro e w2 ⟨rfl, hb2⟩; have hbx2 := Aside0.mk ((hb2.block _ (blk_lt hbx.out)).trans hbx.out); have x10 := (blk_cell hbx2.out 1).trans (show _ = some (Value.slice A l.length cap) from rfl); replace hb2 := Aside0.mk (hB0.out.trans (hb2.mono hB0.out.size)))
    go_loopw [21, 3] (fun i m wq => ∃ j : Nat, i = .int .i64 j ∧ j ≤ l.length ∧ m = .int .i64 (csizeL (l.take j)) ∧ Below w.heap.size w wq ∧ wq.heap[w.heap.size]? = some (.cells #[.string (str nm), .slice A l.length cap] 25 (0, 0)) ∧ ∀ q (hq : q < l.length), q < j → cchk 1 l[q] = 0) (fun i _ _ => l.length - (intOf i).toNat)
    case atStart => exact ⟨0, rfl, Nat.zero_le _, by simp [csizeL], hb2.out, hbx2.out, fun q _ h => absurd h (Nat.not_lt_zero _)⟩
    case round =>
      obtain ⟨j, rfl, hj, rfl, hBq, hxq, hall⟩ := hrel
      clear hB0 hbx hb2 hbx2 x10
      by_cases hlt2 : j < l.length
      · obtain ⟨b', o, k', x, y, z, subs', B, cap', rfl, hbl, hx, hlen', hR', htk, hle, c0, c1, c2, c3, c4, c5, c6, c7⟩ := sub_at (hR.out.below hBq) hlt2
        have hcall := Aside0.mk (chk_all (csizeL subs' + 1) k' x y z subs' B cap' (wr.alloc (oC evA 72 k' x y z (.slice B subs'.length cap'))) F 1 (by omega) hlen' (hR'.below ((Below.refl _ _).alloc (Nat.le_refl _) _)) (by omega) (by omega))
        have hsz := Aside0.mk (fun (W : World) (hW : Below (wr.alloc (oC evA 72 k' x y z (.slice B subs'.length cap'))).heap.size (wr.alloc (oC evA 72 k' x y z (.slice B subs'.length cap'))) W) => size_walk (csizeL subs' + 1) k' x y z subs' B cap' W F (by omega) (by omega) ((hR'.below ((Below.refl _ _).alloc (Nat.le_refl _) _)).below hW))
        have hBx := Aside0.mk (hBq.alloc hBq.size (oC evA 72 k' x y z (.slice B subs'.length cap')))
        have hbx := Aside0.mk (blk_new wr (oC evA 72 k' x y z (.slice B subs'.length cap')))
        have hxx := Aside0.mk (blk_alloc hxq (oC evA 72 k' x y z (.slice B subs'.length cap')))
        rw [← hx] at hcall
        have hfirst := Aside0.mk (cchkL_first 1 l j hlt2 (fun q hq hqj => hall q hq hqj))
        have hb2 : (csizeL (l.take j) : Int) + ((1 + csizeL subs' : Nat) : Int) = (csizeL (l.take (j + 1)) : Int) := by omega
        have hb3 : (csizeL (l.take j) : Int) + ((1 + csizeL subs' : Nat) : Int) ≤ 1000000 := by omega
        have hb4 : (0 : Int) ≤ (csizeL (l.take j) : Int) + ((1 + csizeL subs' : Nat) : Int) := by omega
        replace hb2 := Aside0.mk hb2
        replace hall := Aside0.mk hall
        replace hBq := Aside0.mk hBq
        replace hxq := Aside0.mk hxq
        clear htk hle hR' hx
        generalize hv : cchk 1 l[j] = v at hcall hfirst
        generalize (1 + csizeL subs' : Nat) = s1 at hsz hb2 hb3 hb4
        generalize hs0 : csizeL (l.take j) = s0 at hb2 hb3 hb4 ⊢
        replace hs0 := Aside0.mk hs0
        replace hv := Aside0.mk hv
        by_cases hv0 : v = 0
        · subst hv0
          go_wp2_with (first
            | (go_at_call 50; refine hcall.out.mono ?_; rintro e w2 ⟨rfl, hb⟩; have hx2 := Aside0.mk ((hb.block _ (blk_lt hbx.out)).trans hbx.out); obtain ⟨e0, e1, e2, e3, e4, e5, e6, e7⟩ := box8 hx2.out; have hy2 := Aside0.mk ((hb.block _ (blk_lt hxx.out)).trans hxx.out); replace hb := Aside0.mk hb)
            | (go_at_call 51; refine (hsz.out _ hb.out).mono ?_; rintro e w3 ⟨rfl, hb3'⟩; have hy3 := Aside0.mk ((hb3'.block _ (blk_lt hy2.out)).trans hy2.out); replace hb3' := Aside0.mk (hBx.out.trans ((hb.out.trans (hb3'.mono hb.out.size)).mono hBx.out.size))))
          go_roundw
          case rel => exact ⟨j + 1, by go_num, by omega, by rw [hb2.out], hb3'.out, hy3.out, fun q hq hqj => by
            by_cases e : q = j
            · have := hv.out; simp only [e]; exact this
            · exact hall.out q hq (by omega)⟩
          case measure => simp [intOf]; omega
        · have hv1 : (v != 0) = true := bne_iff_ne.2 hv0
          have hrv : r = v := by rw [hbad.out (by rw [hfirst.out hv0]; exact hv0), hfirst.out hv0]
          subst hrv
          go_wp2_with (go_at_call 50; refine hcall.out.mono ?_; rintro e w2 ⟨rfl, hb⟩; replace hb := Aside0.mk (hBx.out.trans (hb.mono hBx.out.size)))
          go_ret
          exact ⟨rfl, hb.out⟩
      · obtain rfl : j = l.length := by omega
        have hnone := cchkL_none 1 l (fun q hq => hall q hq hq)
        have hfine := Aside0.mk (fineL_of_chk 1 l hnone)
        rw [List.take_length]
        replace hBq := Aside0.mk hBq
        clear hall hbad
        have x0 := (blk_cell hxq 0).trans (show _ = some (Value.string (str nm)) from rfl)
        have x1 := (blk_cell hxq 1).trans (show _ = some (Value.slice A l.length cap) from rfl)
        by_cases h16 : 16 < csizeL l
        · have hr7 := hlong.out hnone h16
          subst hr7
          go_wp2
          go_ret
          exact ⟨rfl, hBq.out⟩
        have hrr := hend.out hnone h16
        replace hrr := Aside0.mk hrr
        replace hxq := Aside0.mk hxq
        clear hlong hend
        go_wp2
        go_loopw [7] (fun i wq => ∃ q : Nat, i = .int .i64 q ∧ 1 ≤ q ∧ q ≤ 33 ∧ Below w.heap.size w wq ∧ wq.heap[w.heap.size]? = some (.cells #[.string (str nm), .slice A l.length cap] 25 (0, 0)) ∧ ∀ u : Nat, u + 1 < q → outR ((u : Int) + 1) l ≠ 1) (fun i _ => 33 - (intOf i).toNat)
        case atStart => exact ⟨1, rfl, by omega, by omega, hBq.out, hxq.out, fun u h => absurd h (by omega)⟩
        case round =>
          obtain ⟨q, rfl, hq1, hq, hBz, hxz, hno⟩ := hrel
          clear hBq hxq x0 x1
          have x1 := (blk_cell hxz 1).trans (show _ = some (Value.slice A l.length cap) from rfl)
          by_cases hq32 : q < 33
          · have hip := inPlace_eq (q : Int) l hfine.out
            generalize ho : outR (q : Int) l = o at hip
            have k53 : Aside0 (∀ W', YReg.Ext wr.drew W' → Calls Tryz.prog 53 #[.agg #[.string (str nm), .slice A l.length cap], .int .i64 (q : Int)] W' fun e W2 => ∃ u, e = .returned u ∧ YReg.Ext W' W2 ∧ Made (TX.ways (q : Int) l 0 []) u W2) := ⟨fun W' h => (places_walk (str nm) l A cap q W' F (by omega) (hR.out.below (hBz.trans (h.of_drew.mono hBz.size)))).mono fun e W2 ⟨V, e1, e2, e3⟩ => ⟨V, e1, e2, _, e3⟩⟩
            have k52 : Aside0 (∀ u1 u2 W', YReg.Ext wr.drew W' → Is (.agg #[.string (str nm), .slice A l.length cap]) u1 W' → Made (TX.ways (q : Int) l 0 []) u2 W' → Calls Tryz.prog 52 #[u1, u2] W' fun e W2 => ∃ u, e = .returned u ∧ YReg.Ext W' W2 ∧ u = .bool (decide (o ≠ 1))) := ⟨fun u1 u2 W' h h1 h2 => by
              obtain ⟨n, h2⟩ := h2
              have h1' : u1 = _ := h1
              subst h1'
              refine (placed_walk (str nm) l A cap q W' F (by omega) (hR.out.below (hBz.trans (h.of_drew.mono hBz.size))) n u2 h2).mono ?_
              rintro e W2 ⟨e1, e2⟩
              exact ⟨_, e1, e2, by rw [hip]⟩⟩
            clear hip
            have s0 : ∀ W', YReg.Ext wr.drew W' → W'.cell? ⟨w.heap.size, 0, none⟩ = some (.string (str nm)) := fun W' h => (blk_cell ((h.of_drew.block _ (blk_lt hxz)).trans hxz) 0).trans rfl
            have s1 : ∀ W', YReg.Ext wr.drew W' → W'.cell? ⟨w.heap.size, 1, none⟩ = some (.slice A l.length cap) := fun W' h => (blk_cell ((h.of_drew.block _ (blk_lt hxz)).trans hxz) 1).trans rfl
            generalize TX.ways (q : Int) l 0 [] = ws at k53 k52
            replace ho := Aside0.mk ho
            replace hno := Aside0.mk hno
            replace hBz := Aside0.mk hBz
            replace hxz := Aside0.mk hxz
            go_upto_region 19 with fail
            refine YReg.wp_region_tail 5 none YReg.Ext YReg.Ext YReg.Ext.refl YReg.Ext.trans YReg.Ext.trans (fun _ _ h => h) (by kernel_rfl) (by kernel_rfl) (by kernel_rfl) [(1, .det (.pointer (some ⟨w.heap.size, 0, none⟩))), (7, .det (.int .i64 (q : Int)))] (YReg.base_cons rfl (YReg.base_cons rfl YReg.base_nil)) ?_
            simp only [List.take_succ_cons, List.take_zero, List.drop_succ_cons, List.drop_zero]
            refine YReg.nd_1 (by decide) (Is (.agg #[.string (str nm), .slice A l.length cap])) Is.up rfl rfl (fun ρ W' hE h1 => ⟨_, W', by (go_simp; try rfl), YReg.Ext.refl _, rfl⟩) _ rfl (by kernel_rfl) (by kernel_rfl) ?_
            repeat (first
              | (refine YReg.walk_calln (by decide) Made.up k53.out rfl (by kernel_rfl) (by kernel_rfl) _ rfl (by kernel_rfl) (by kernel_rfl) ?_)
              | (refine YReg.walk_calld2 (by decide) k52.out rfl (by kernel_rfl) (by kernel_rfl) (by kernel_rfl) _ rfl (by kernel_rfl) (by kernel_rfl) ?_)
              | (refine YReg.run_1 (by decide) YReg.Ext.refl rfl rfl _ rfl (by kernel_rfl) (by kernel_rfl) ?_; apply Exists.intro; refine ⟨fun ρ W hE h1 => ?_, ?_⟩; (go_simp; try rfl)))
            intro ρ W1 hE hn
            simp only [Act.put, List.setIfInBounds_toArray, List.set_cons_zero, List.set_cons_succ]
            have hb := Aside0.mk (hBz.out.trans (hE.of_drew.mono hBz.out.size))
            have hx2 := Aside0.mk ((hE.of_drew.block _ (blk_lt hxz.out)).trans hxz.out)
            clear hn hE k53 k52 s0 s1 hBz hxz x1
            generalize ρ 41 = x41
            generalize ρ 44 = x44
            by_cases ho1 : o = 1
            · subst ho1
              have hr6 : r = 6 := by
                rw [hrr.out, if_pos]
                rw [List.any_eq_true]
                refine ⟨q - 1, List.mem_range.2 (by omega), decide_eq_true ?_⟩
                have := ho.out
                rw [show (((q - 1 : Nat)) : Int) + 1 = (q : Int) from by omega]
                exact this
              subst hr6
              have hd : decide ((1 : Int) ≠ 1) = false := by decide
              rw [hd]
              go_wp2
              go_ret
              exact ⟨rfl, hb.out⟩
            · have hd : decide (o ≠ 1) = true := decide_eq_true ho1
              rw [hd]
              replace ho1 := Aside0.mk ho1
              go_wp2
              go_roundw
              case rel => exact ⟨q + 1, by go_num, by omega, by omega, hb.out, hx2.out, fun u hu => by
                by_cases e : u + 1 = q
                · have := ho.out
                  rw [← e] at this
                  push_cast at this
                  rw [this]
                  exact ho1.out
                · exact hno.out u (by omega)⟩
              case measure => simp [intOf]; omega
          · obtain rfl : q = 33 := by omega
            have hr0 : r = 0 := by
              rw [hrr.out, if_neg]
              rw [List.any_eq_true]
              rintro ⟨u, hu, hd⟩
              exact hno u (by have := List.mem_range.1 hu; omega) (of_decide_eq_true hd)
            subst hr0
            clear hno
            replace hBz := Aside0.mk hBz
            go_wp2
            go_ret
            exact ⟨rfl, hBz.out⟩
end Go.Proofs.YtkbkkceeolclmaaGreatDoor.X
