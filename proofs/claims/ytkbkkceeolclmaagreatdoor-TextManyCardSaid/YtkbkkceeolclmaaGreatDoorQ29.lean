/- The document's check of a condition. -/
import Derived.Test.YtkbkkceeolclmaaGreatDoorQ28
set_option linter.unusedVariables false
set_option linter.unusedSimpArgs false
namespace Go.Proofs.YtkbkkceeolclmaaGreatDoor.X
open Go.RowKit Go.TX Go.Proofs.YtkbkkceeolclmaaGreatDoorW.PrintWords
def RChkTo (n : Nat) : Prop := ∀ (k : Int) (a b c : Tm) (subs : List Cd) (A : Option Addr) (cap : Nat) (w : World) (F : Nat → Prop) (d : Int), csizeL subs < n → subs.length ≤ 9223372036854775807 → RepL evR w F subs A 0 → 1 ≤ d → d ≤ 4 →
    Calls Tryz.prog 55 #[aC evR k a b c (.slice A subs.length cap), .int .i64 d] w fun e W => e = .returned (.int .i64 (cchk d (.mk k a b c subs))) ∧ Below w.heap.size w W
set_option maxRecDepth 100000 in
set_option maxHeartbeats 2000000 in
theorem rchk_all : ∀ n, RChkTo n
  | 0 => fun k a b c subs A cap w F d h => by omega
  | n + 1 => by
    have H := rchk_all n
    intro k a b c subs A cap w F d hn hlen hR h1 h2
    have hB0 := Aside0.mk ((Below.refl w.heap.size w).alloc (Nat.le_refl _) (oC evR 81 k a b c (.slice A subs.length cap)))
    have hx0 := Aside0.mk (blk_new w (oC evR 81 k a b c (.slice A subs.length cap)))
    replace H := Aside0.mk H
    have hR0 := Aside0.mk hR
    clear hR
    by_cases hd : 3 < d
    · have e : cchk d (.mk k a b c subs) = 5 := by unfold cchk; rw [if_pos hd]
      rw [e]
      clear e
      go_enter Tryz.func55, Tryz.ntmps55
      go_wp2
      go_ret
      exact ⟨rfl, hB0.out⟩
    by_cases hk0 : k < 1
    · have e : cchk d (.mk k a b c subs) = 3 := by unfold cchk; rw [if_neg hd, if_pos (.inl hk0)]
      rw [e]
      clear e
      go_enter Tryz.func55, Tryz.ntmps55
      go_wp2
      go_ret
      exact ⟨rfl, hB0.out⟩
    by_cases hk3 : 3 < k
    · have e : cchk d (.mk k a b c subs) = 3 := by unfold cchk; rw [if_neg hd, if_pos (.inr hk3)]
      rw [e]
      clear e
      go_enter Tryz.func55, Tryz.ntmps55
      go_wp2
      go_ret
      exact ⟨rfl, hB0.out⟩
    by_cases hlt : k < 3
    · have e : cchk d (.mk k a b c subs) = if tmRight a && tmRight b && tmRight c then (if subs.isEmpty then 0 else 4) else 4 := by unfold cchk; rw [if_neg hd, if_neg (by omega), if_pos hlt]
      rw [e]
      clear e H
      have Ra := Aside0.mk (right76 a)
      have Rb := Aside0.mk (right76 b)
      have Rc := Aside0.mk (right76 c)
      generalize tmRight a = ra at Ra ⊢
      generalize tmRight b = rb at Rb ⊢
      generalize tmRight c = rc at Rc ⊢
      go_enter Tryz.func55, Tryz.ntmps55
      go_wp2
      go_loopw [5] (fun i wr => ∃ q : Nat, i = .int .i64 q ∧ q ≤ 3 ∧ Below w.heap.size w wr ∧ wr.heap[w.heap.size]? = some (oC evR 81 k a b c (.slice A subs.length cap)) ∧ (0 < q → ra = true) ∧ (1 < q → rb = true) ∧ (2 < q → rc = true)) (fun i _ => 3 - (intOf i).toNat)
      case atStart => exact ⟨0, rfl, by omega, hB0.out, hx0.out, fun h => absurd h (by omega), fun h => absurd h (by omega), fun h => absurd h (by omega)⟩
      case round =>
        obtain ⟨q, rfl, hq, hBw, hxw, ha, hb, hc⟩ := hrel
        clear hB0 hx0 hR0
        obtain ⟨e0, e1, e2, e3, e4, e5, e6, e7⟩ := box8 hxw
        replace hBw := Aside0.mk hBw
        replace hxw := Aside0.mk hxw
        rcases (show q = 0 ∨ q = 1 ∨ q = 2 ∨ q = 3 by omega) with rfl | rfl | rfl | rfl
        · cases ra
          · go_wp2_with (go_at_call 76; refine (Ra.out _).mono ?_; rintro e w2 ⟨rfl, hb2⟩; replace hb2 := Aside0.mk (hBw.out.trans (hb2.mono hBw.out.size)))
            go_ret
            exact ⟨rfl, hb2.out⟩
          · go_wp2_with (go_at_call 76; refine (Ra.out _).mono ?_; rintro e w2 ⟨rfl, hb2⟩; have hx2 := Aside0.mk ((hb2.block _ (blk_lt hxw.out)).trans hxw.out); replace hb2 := Aside0.mk (hBw.out.trans (hb2.mono hBw.out.size)))
            go_roundw
            case rel => exact ⟨1, rfl, by omega, hb2.out, hx2.out, fun _ => by first | rfl | trivial, fun h => absurd h (by omega), fun h => absurd h (by omega)⟩
            case measure => simp [intOf]
        · have ha' := ha (by omega)
          subst ha'
          cases rb
          · go_wp2_with (go_at_call 76; refine (Rb.out _).mono ?_; rintro e w2 ⟨rfl, hb2⟩; replace hb2 := Aside0.mk (hBw.out.trans (hb2.mono hBw.out.size)))
            go_ret
            exact ⟨rfl, hb2.out⟩
          · go_wp2_with (go_at_call 76; refine (Rb.out _).mono ?_; rintro e w2 ⟨rfl, hb2⟩; have hx2 := Aside0.mk ((hb2.block _ (blk_lt hxw.out)).trans hxw.out); replace hb2 := Aside0.mk (hBw.out.trans (hb2.mono hBw.out.size)))
            go_roundw
            case rel => exact ⟨2, rfl, by omega, hb2.out, hx2.out, fun _ => by first | rfl | trivial, fun _ => by first | rfl | trivial, fun h => absurd h (by omega)⟩
            case measure => simp [intOf]
        · have ha' := ha (by omega)
          have hb' := hb (by omega)
          subst ha' hb'
          cases rc
          · go_wp2_with (go_at_call 76; refine (Rc.out _).mono ?_; rintro e w2 ⟨rfl, hb2⟩; replace hb2 := Aside0.mk (hBw.out.trans (hb2.mono hBw.out.size)))
            go_ret
            exact ⟨rfl, hb2.out⟩
          · go_wp2_with (go_at_call 76; refine (Rc.out _).mono ?_; rintro e w2 ⟨rfl, hb2⟩; have hx2 := Aside0.mk ((hb2.block _ (blk_lt hxw.out)).trans hxw.out); replace hb2 := Aside0.mk (hBw.out.trans (hb2.mono hBw.out.size)))
            go_roundw
            case rel => exact ⟨3, rfl, by omega, hb2.out, hx2.out, fun _ => by first | rfl | trivial, fun _ => by first | rfl | trivial, fun _ => by first | rfl | trivial⟩
            case measure => simp [intOf]
        · have ha' := ha (by omega)
          have hb' := hb (by omega)
          have hc' := hc (by omega)
          subst ha' hb' hc'
          cases subs with
          | nil =>
            go_wp2
            go_ret
            exact ⟨rfl, hBw.out⟩
          | cons u l =>
            have hpos : (0 : Int) < ((u :: l).length : Int) := by simp
            go_wp2
            go_ret
            exact ⟨rfl, hBw.out⟩
    · obtain rfl : k = 3 := by omega
      have e : cchk d (.mk 3 a b c subs) = if a = (false, 0) ∧ b = (false, 0) ∧ c = (false, 0) then (if subs.isEmpty then 2 else cchkL (d + 1) subs) else 4 := by unfold cchk; rw [if_neg hd, if_neg (by omega), if_neg (by omega)]
      rw [e]
      clear e
      generalize hrr : (if subs.isEmpty then 2 else cchkL (d + 1) subs) = rr
      replace hrr := Aside0.mk hrr
      go_enter Tryz.func55, Tryz.ntmps55
      go_wp2
      go_loopw [6] (fun i wr => ∃ q : Nat, i = .int .i64 q ∧ q ≤ 3 ∧ Below w.heap.size w wr ∧ wr.heap[w.heap.size]? = some (oC evR 81 3 a b c (.slice A subs.length cap)) ∧ (0 < q → a = (false, 0)) ∧ (1 < q → b = (false, 0)) ∧ (2 < q → c = (false, 0))) (fun i _ => 3 - (intOf i).toNat)
      case atStart => exact ⟨0, rfl, by omega, hB0.out, hx0.out, fun h => absurd h (by omega), fun h => absurd h (by omega), fun h => absurd h (by omega)⟩
      case round =>
        obtain ⟨q, rfl, hq, hBw, hxw, ha, hb, hc⟩ := hrel
        clear hB0 hx0
        obtain ⟨e0, e1, e2, e3, e4, e5, e6, e7⟩ := box8 hxw
        simp only [evR, evI] at e1 e3 e5
        replace hBw := Aside0.mk hBw
        replace hxw := Aside0.mk hxw
        rcases (show q = 0 ∨ q = 1 ∨ q = 2 ∨ q = 3 by omega) with rfl | rfl | rfl | rfl
        · have hq' := hq
          clear hq'
          obtain ⟨a1, a2⟩ := a
          cases a1
          · by_cases hz : a2 = 0
            · subst hz
              go_wp2
              go_roundw
              case rel => exact ⟨1, rfl, by omega, hBw.out, hxw.out, fun _ => by first | rfl | trivial, fun h => absurd h (by omega), fun h => absurd h (by omega)⟩
              case measure => simp [intOf]
            · have hz1 : (a2 != 0) = true := bne_iff_ne.2 hz
              go_wp2
              go_ret
              exact ⟨by simp, hBw.out⟩
          · go_wp2
            go_ret
            exact ⟨by simp, hBw.out⟩
        · have hq' := hq
          clear hq'
          have ha' := ha (by omega)
          subst ha'
          obtain ⟨b1, b2⟩ := b
          cases b1
          · by_cases hz : b2 = 0
            · subst hz
              go_wp2
              go_roundw
              case rel => exact ⟨2, rfl, by omega, hBw.out, hxw.out, fun _ => by first | rfl | trivial, fun _ => by first | rfl | trivial, fun h => absurd h (by omega)⟩
              case measure => simp [intOf]
            · have hz1 : (b2 != 0) = true := bne_iff_ne.2 hz
              go_wp2
              go_ret
              exact ⟨by simp, hBw.out⟩
          · go_wp2
            go_ret
            exact ⟨by simp, hBw.out⟩
        · have hq' := hq
          clear hq'
          have ha' := ha (by omega)
          subst ha'
          have hb' := hb (by omega)
          subst hb'
          obtain ⟨c1, c2⟩ := c
          cases c1
          · by_cases hz : c2 = 0
            · subst hz
              go_wp2
              go_roundw
              case rel => exact ⟨3, rfl, by omega, hBw.out, hxw.out, fun _ => by first | rfl | trivial, fun _ => by first | rfl | trivial, fun _ => by first | rfl | trivial⟩
              case measure => simp [intOf]
            · have hz1 : (c2 != 0) = true := bne_iff_ne.2 hz
              go_wp2
              go_ret
              exact ⟨by simp, hBw.out⟩
          · go_wp2
            go_ret
            exact ⟨by simp, hBw.out⟩
        · have ha' := ha (by omega)
          have hb' := hb (by omega)
          have hc' := hc (by omega)
          subst ha' hb' hc'
          have hB := Aside0.mk hBw.out
          by_cases h0 : subs.length = 0
          · have hnil := List.length_eq_zero_iff.1 h0
            subst hnil
            have hr2 : rr = 2 := hrr.out.symm
            subst hr2
            go_wp2
            go_ret
            exact ⟨rfl, hB.out⟩
          · have hne : subs.isEmpty = false := by cases subs with | nil => simp at h0 | cons x l => rfl
            have h0' : ((subs.length : Int) == 0) = false := by rw [beq_eq_false_iff_ne]; omega
            have hr2 : rr = cchkL (d + 1) subs := by rw [← hrr.out, hne]; rfl
            replace hr2 := Aside0.mk hr2
            clear hne
            go_wp2
            go_loopw [62] (fun i wq => ∃ j : Nat, i = .int .i64 j ∧ j ≤ subs.length ∧ Below w.heap.size w wq ∧ ∀ q (hq : q < subs.length), q < j → cchk (d + 1) subs[q] = 0) (fun i _ => subs.length - (intOf i).toNat)
            case atStart => exact ⟨0, rfl, Nat.zero_le _, hB.out, fun q _ h => absurd h (Nat.not_lt_zero _)⟩
            case round =>
              obtain ⟨j, rfl, hj, hBq, hall⟩ := hrel
              clear hB hBw hxw e0 e1 e2 e3 e4 e5 e6 e7 ha hb hc
              by_cases hlt2 : j < subs.length
              · obtain ⟨b', o, k', x, y, z, subs', B, cap', rfl, hbl, hx, hlen', hR', htk, hle, c0, c1, c2, c3, c4, c5, c6, c7⟩ := sub_at (hR0.out.below hBq) hlt2
                have hcall := Aside0.mk (H.out k' x y z subs' B cap' (wr.alloc (oC evR 81 k' x y z (.slice B subs'.length cap'))) F (d + 1) (by omega) hlen' (hR'.below ((Below.refl _ _).alloc (Nat.le_refl _) _)) (by omega) (by omega))
                have hBx := Aside0.mk (hBq.alloc hBq.size (oC evR 81 k' x y z (.slice B subs'.length cap')))
                rw [← hx] at hcall
                have hfirst := Aside0.mk (cchkL_first (d + 1) subs j hlt2 (fun q hq hqj => hall q hq hqj))
                replace hall := Aside0.mk hall
                replace hBq := Aside0.mk hBq
                clear htk hle hR' hx
                generalize hv : cchk (d + 1) subs[j] = v at hcall hfirst
                replace hv := Aside0.mk hv
                by_cases hv0 : v = 0
                · subst hv0
                  go_wp2_with (go_at_call 55; refine hcall.out.mono ?_; rintro e w2 ⟨rfl, hb⟩; replace hb := Aside0.mk hb)
                  go_roundw
                  case rel => exact ⟨j + 1, by go_num, by omega, hBx.out.trans (hb.out.mono hBx.out.size), fun q hq hqj => by
                    by_cases e : q = j
                    · have := hv.out; simp only [e]; exact this
                    · exact hall.out q hq (by omega)⟩
                  case measure => simp [intOf]; omega
                · have hv1 : (v != 0) = true := bne_iff_ne.2 hv0
                  go_wp2_with (go_at_call 55; refine hcall.out.mono ?_; rintro e w2 ⟨rfl, hb⟩; replace hb := Aside0.mk hb)
                  go_ret
                  exact ⟨by rw [hr2.out, hfirst.out hv0]; rfl, hBx.out.trans (hb.out.mono hBx.out.size)⟩
              · obtain rfl : j = subs.length := by omega
                have hnone := Aside0.mk (cchkL_none (d + 1) subs (fun q hq => hall q hq hq))
                replace hBq := Aside0.mk hBq
                clear hall
                go_wp2
                go_ret
                exact ⟨by rw [hr2.out, hnone.out]; rfl, hBq.out⟩
end Go.Proofs.YtkbkkceeolclmaaGreatDoor.X
