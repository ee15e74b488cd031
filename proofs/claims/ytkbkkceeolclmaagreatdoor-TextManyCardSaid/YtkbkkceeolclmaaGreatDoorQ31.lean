/- The document's check of a rule. -/
import Derived.Test.YtkbkkceeolclmaaGreatDoorQ29
import Derived.Test.YtkbkkceeolclmaaGreatDoorQ30
import Derived.Test.YtkbkkceeolclmaaGreatDoorQ11
import Derived.Test.YtkbkkceeolclmaaGreatDoorQ08
set_option linter.unusedVariables false
set_option linter.unusedSimpArgs false
namespace Go.Proofs.YtkbkkceeolclmaaGreatDoor.X
open Go.RowKit Go.TX Go.Proofs.YtkbkkceeolclmaaGreatDoorW.PrintWords
/-- What the first of the conditions' checks tells, and the size. -/
theorem rchk_parts {nm : List UInt8} {l : List Cd} (h1 : rightName (str nm) = true) (h2 : l.isEmpty = false) (h3 : cchkL 1 l = 0) (h4 : ¬ 16 < csizeL l) : rchk nm l = if (List.range 32).any (fun v => decide (outR ((v : Int) + 1) l = 1)) then 6 else 0 := by
  unfold rchk
  rw [if_neg (by rw [h1]; simp), if_neg (by rw [h2]; simp), if_neg (by rw [h3]; simp), if_neg h4]
set_option maxRecDepth 100000 in
set_option maxHeartbeats 2000000 in
theorem rrule_walk (nm : List UInt8) (hnm : nm.length ≤ 1000) (l : List Cd) (A : Option Addr) (cap : Nat) (w : World) (F : Nat → Prop) (hs : csizeL l ≤ 1000) (hR : RepL evR w F l A 0) :
    Calls Tryz.prog 30 #[.agg #[.string (str nm), .slice A l.length cap]] w fun e W => e = .returned (.int .i64 (rchk nm l)) ∧ Below w.heap.size w W := by
  have hlen := csizeL_len l
  have hB0 := Aside0.mk ((Below.refl w.heap.size w).alloc (Nat.le_refl _) (.cells #[.string (str nm), .slice A l.length cap] 38))
  have hbx := Aside0.mk (blk_new w (.cells #[.string (str nm), .slice A l.length cap] 38))
  replace hR := Aside0.mk hR
  have hrt := Aside0.mk (fun W => rright_walk (str nm) (by rw [str_size]; omega) W)
  cases h1 : rightName (str nm) with
  | false =>
    have e : rchk nm l = 1 := by unfold rchk; rw [if_pos h1]
    rw [e]
    rw [h1] at hrt
    clear e
    replace h1 := Aside0.mk h1
    go_enter Tryz.func30, Tryz.ntmps30
    go_wp2_with (go_at_call 42; refine (hrt.out _).mono ?_; rintro e w2 ⟨rfl, rfl⟩)
    go_ret
    exact ⟨rfl, hB0.out⟩
  | true =>
    rw [h1] at hrt
    by_cases h0 : l.length = 0
    · have hnil := List.length_eq_zero_iff.1 h0
      subst hnil
      have e : rchk nm [] = 2 := by unfold rchk; rw [if_neg (by rw [h1]; simp), if_pos (show ([] : List Cd).isEmpty = true from rfl)]
      rw [e]
      clear e
      replace h1 := Aside0.mk h1
      go_enter Tryz.func30, Tryz.ntmps30
      go_wp2_with (go_at_call 42; refine (hrt.out _).mono ?_; rintro e w2 ⟨rfl, rfl⟩)
      go_ret
      exact ⟨rfl, hB0.out⟩
    have hne : l.isEmpty = false := by cases l with | nil => simp at h0 | cons x l => rfl
    have h0' : ((l.length : Int) == 0) = false := by rw [beq_eq_false_iff_ne]; omega
    obtain ⟨r, hr⟩ : ∃ r, rchk nm l = r := ⟨_, rfl⟩
    have hbad := Aside0.mk (fun (h : cchkL 1 l ≠ 0) => show r = cchkL 1 l from by rw [← hr]; unfold rchk; rw [if_neg (by rw [h1]; simp), if_neg (by rw [hne]; simp), if_pos h])
    have hlong := Aside0.mk (fun (h : cchkL 1 l = 0) (h4 : 16 < csizeL l) => show r = 7 from by rw [← hr]; unfold rchk; rw [if_neg (by rw [h1]; simp), if_neg (by rw [hne]; simp), if_neg (by rw [h]; simp), if_pos h4])
    have hend := Aside0.mk (fun (h : cchkL 1 l = 0) (h4 : ¬ 16 < csizeL l) => hr.symm.trans (rchk_parts h1 hne h h4))
    rw [hr]
    clear hr
    replace h1 := Aside0.mk h1
    replace hne := Aside0.mk hne
    go_enter Tryz.func30, Tryz.ntmps30
    go_wp2_with (go_at_call 42; refine (hrt.out _).mono ?_; rintro e w2 ⟨rfl, rfl⟩)
    go_loopw [19, 3] (fun i m wq => ∃ j : Nat, i = .int .i64 j ∧ j ≤ l.length ∧ m = .int .i64 (csizeL (l.take j)) ∧ Below w.heap.size w wq ∧ wq.heap[w.heap.size]? = some (.cells #[.string (str nm), .slice A l.length cap] 38 (0, 0)) ∧ ∀ q (hq : q < l.length), q < j → cchk 1 l[q] = 0) (fun i _ _ => l.length - (intOf i).toNat)
    case atStart => exact ⟨0, rfl, Nat.zero_le _, by simp [csizeL], hB0.out, hbx.out, fun q _ h => absurd h (Nat.not_lt_zero _)⟩
    case round =>
      obtain ⟨j, rfl, hj, rfl, hBq, hxq, hall⟩ := hrel
      clear hB0 hbx
      by_cases hlt2 : j < l.length
      · obtain ⟨b', o, k', x, y, z, subs', B, cap', rfl, hbl, hx, hlen', hR', htk, hle, c0, c1, c2, c3, c4, c5, c6, c7⟩ := sub_at (hR.out.below hBq) hlt2
        have hcall := Aside0.mk (rchk_all (csizeL subs' + 1) k' x y z subs' B cap' (wr.alloc (oC evR 81 k' x y z (.slice B subs'.length cap'))) F 1 (by omega) hlen' (hR'.below ((Below.refl _ _).alloc (Nat.le_refl _) _)) (by omega) (by omega))
        have hsz := Aside0.mk (fun (W : World) (hW : Below (wr.alloc (oC evR 81 k' x y z (.slice B subs'.length cap'))).heap.size (wr.alloc (oC evR 81 k' x y z (.slice B subs'.length cap'))) W) => rsize_walk (csizeL subs' + 1) k' x y z subs' B cap' W F (by omega) (by omega) ((hR'.below ((Below.refl _ _).alloc (Nat.le_refl _) _)).below hW))
        have hBx := Aside0.mk (hBq.alloc hBq.size (oC evR 81 k' x y z (.slice B subs'.length cap')))
        have hbx := Aside0.mk (blk_new wr (oC evR 81 k' x y z (.slice B subs'.length cap')))
        have hxx := Aside0.mk (blk_alloc hxq (oC evR 81 k' x y z (.slice B subs'.length cap')))
        rw [← hx] at hcall
        have hfirst := Aside0.mk (cchkL_first 1 l j hlt2 (fun q hq hqj => hall q hq hqj))
        have hb2 : (csizeL (l.take j) : Int) + ((1 + csizeL subs' : Nat) : Int) = (csizeL (l.take (j + 1)) : Int) := by omega
        have hb3 : (csizeL (l.take j) : Int) + ((1 + csizeL subs' : Nat) : Int) ≤ 1000000 := by omega
        have hb4 : (0 : Int) ≤ (csizeL (l.take j) : Int) + ((1 + csizeL subs' : Nat) : Int) := by omega
        replace hb2 := Aside0.mk hb2
        replace hall := Aside0.mk hall
        replace hBq := Aside0.mk hBq
        replace hxq := Aside0.mk hxq
        clear htk hle hR' hx
        generalize hv : cchk 1 l[j] = v at hcall hfirst
        generalize (1 + csizeL subs' : Nat) = s1 at hsz hb2 hb3 hb4
        generalize hs0 : csizeL (l.take j) = s0 at hb2 hb3 hb4 ⊢
        replace hs0 := Aside0.mk hs0
        replace hv := Aside0.mk hv
        by_cases hv0 : v = 0
        · subst hv0
          go_wp2_with (first
            | (go_at_call 55; refine hcall.out.mono ?_; rintro e w2 ⟨rfl, hb⟩; have hx2 := Aside0.mk ((hb.block _ (blk_lt hbx.out)).trans hbx.out); obtain ⟨e0, e1, e2, e3, e4, e5, e6, e7⟩ := box8 hx2.out; have hy2 := Aside0.mk ((hb.block _ (blk_lt hxx.out)).trans hxx.out); replace hb := Aside0.mk hb)
            | (go_at_call 56; refine (hsz.out _ hb.out).mono ?_; rintro e w3 ⟨rfl, hb3'⟩; have hy3 := Aside0.mk ((hb3'.block _ (blk_lt hy2.out)).trans hy2.out); replace hb3' := Aside0.mk (hBx.out.trans ((hb.out.trans (hb3'.mono hb.out.size)).mono hBx.out.size))))
          go_roundw
          case rel => exact ⟨j + 1, by go_num, by omega, by rw [hb2.out], hb3'.out, hy3.out, fun q hq hqj => by
            by_cases e : q = j
            · have := hv.out; simp only [e]; exact this
            · exact hall.out q hq (by omega)⟩
          case measure => simp [intOf]; omega
        · have hv1 : (v != 0) = true := bne_iff_ne.2 hv0
          have hrv : r = v := by rw [hbad.out (by rw [hfirst.out hv0]; exact hv0), hfirst.out hv0]
          subst hrv
          go_wp2_with (go_at_call 55; refine hcall.out.mono ?_; rintro e w2 ⟨rfl, hb⟩; replace hb := Aside0.mk (hBx.out.trans (hb.mono hBx.out.size)))
          go_ret
          exact ⟨rfl, hb.out⟩
      · obtain rfl : j = l.length := by omega
        have hnone := cchkL_none 1 l (fun q hq => hall q hq hq)
        rw [List.take_length]
        replace hBq := Aside0.mk hBq
        clear hall hbad
        have x0 := (blk_cell hxq 0).trans (show _ = some (Value.string (str nm)) from rfl)
        have x1 := (blk_cell hxq 1).trans (show _ = some (Value.slice A l.length cap) from rfl)
        by_cases h16 : 16 < csizeL l
        · have hr7 := hlong.out hnone h16
          subst hr7
          go_wp2
          go_ret
          exact ⟨rfl, hBq.out⟩
        have hrr := hend.out hnone h16
        replace hrr := Aside0.mk hrr
        replace hxq := Aside0.mk hxq
        clear hlong hend
        go_wp2
        go_loopw [7] (fun i wq => ∃ q : Nat, i = .int .i64 q ∧ 1 ≤ q ∧ q ≤ 33 ∧ Below w.heap.size w wq ∧ wq.heap[w.heap.size]? = some (.cells #[.string (str nm), .slice A l.length cap] 38 (0, 0)) ∧ ∀ u : Nat, u + 1 < q → outR ((u : Int) + 1) l ≠ 1) (fun i _ => 33 - (intOf i).toNat)
        case atStart => exact ⟨1, rfl, by omega, by omega, hBq.out, hxq.out, fun u h => absurd h (by omega)⟩
        case round =>
          obtain ⟨q, rfl, hq1, hq, hBz, hxz, hno⟩ := hrel
          clear hBq hxq x0 x1
          have x1 := (blk_cell hxz 1).trans (show _ = some (Value.slice A l.length cap) from rfl)
          by_cases hq32 : q < 33
          · have hcall := Aside0.mk (out_all (csizeL l + 1) l A cap wr F (q : Int) (by omega) (by omega) (hR.out.below hBz))
            generalize ho : outR (q : Int) l = o at hcall
            replace ho := Aside0.mk ho
            replace hno := Aside0.mk hno
            replace hBz := Aside0.mk hBz
            replace hxz := Aside0.mk hxz
            by_cases ho1 : o = 1
            · subst ho1
              have hr6 : r = 6 := by
                rw [hrr.out, if_pos]
                rw [List.any_eq_true]
                refine ⟨q - 1, List.mem_range.2 (by omega), decide_eq_true ?_⟩
                have := ho.out
                rw [show (((q - 1 : Nat)) : Int) + 1 = (q : Int) from by omega]
                exact this
              subst hr6
              go_wp2_with (go_at_call 57; refine hcall.out.mono ?_; rintro e w2 ⟨rfl, hb⟩; replace hb := Aside0.mk (hBz.out.trans (hb.mono hBz.out.size)))
              go_ret
              exact ⟨rfl, hb.out⟩
            · have ho1' : (o == 1) = false := by rw [beq_eq_false_iff_ne]; exact ho1
              replace ho1 := Aside0.mk ho1
              go_wp2_with (go_at_call 57; refine hcall.out.mono ?_; rintro e w2 ⟨rfl, hb⟩; have hx2 := Aside0.mk ((hb.block _ (blk_lt hxz.out)).trans hxz.out); replace hb := Aside0.mk (hBz.out.trans (hb.mono hBz.out.size)))
              go_roundw
              case rel => exact ⟨q + 1, by go_num, by omega, by omega, hb.out, hx2.out, fun u hu => by
                by_cases e : u + 1 = q
                · have := ho.out
                  rw [← e] at this
                  push_cast at this
                  rw [this]
                  exact ho1.out
                · exact hno.out u (by omega)⟩
              case measure => simp [intOf]; omega
          · obtain rfl : q = 33 := by omega
            have hr0 : r = 0 := by
              rw [hrr.out, if_neg]
              rw [List.any_eq_true]
              rintro ⟨u, hu, hd⟩
              exact hno u (by have := List.mem_range.1 hu; omega) (of_decide_eq_true hd)
            subst hr0
            clear hno
            replace hBz := Aside0.mk hBz
            go_wp2
            go_ret
            exact ⟨rfl, hBz.out⟩
end Go.Proofs.YtkbkkceeolclmaaGreatDoor.X
