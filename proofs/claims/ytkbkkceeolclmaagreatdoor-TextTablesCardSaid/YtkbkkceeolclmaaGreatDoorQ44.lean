/- Small: has a rule few conditions? -/
import Derived.Test.YtkbkkceeolclmaaGreatDoorQ11
import Derived.Test.YtkbkkceeolclmaaGreatDoorQLMap
set_option linter.unusedVariables false
set_option linter.unusedSimpArgs false
namespace Go.Proofs.YtkbkkceeolclmaaGreatDoor.X
open Go.RowKit Go.TX Go.Proofs.YtkbkkceeolclmaaGreatDoorW.PrintWords Go.Proofs.YtkbkkceeolclmaaGreatDoorL
/-- What a count leaves. -/
def SmPost (w : World) (nb : Nat) (cnt most : Int) (size : Nat) (e : Ending) (W : World) : Prop :=
  ∃ b m, e = .returned (.bool b) ∧ Ch w W (fun x => x = nb) ∧ W.heap[nb]? = some (.cells #[.int .i64 m] 3 (0, 0)) ∧ 0 ≤ m ∧ m ≤ most + 1 ∧ (b = true → m = cnt + size ∧ m ≤ most)
set_option maxRecDepth 100000 in
set_option maxHeartbeats 1000000 in
theorem small_walk (n : Nat) : ∀ (k : Int) (a b c : Tm) (subs : List Cd) (A : Option Addr) (cap : Nat) (w : World) (F : Nat → Prop) (nb : Nat) (deep cnt most : Int), csizeL subs < n → subs.length ≤ 9223372036854775807 → RepL evA w F subs A 0 → (∀ x, F x → x ≠ nb) →
    w.heap[nb]? = some (.cells #[.int .i64 cnt] 3 (0, 0)) → 0 ≤ cnt → cnt ≤ most → most ≤ 1000 → -1 ≤ deep → deep ≤ 5 →
    Calls Tryz.prog 49 #[aC evA k a b c (.slice A subs.length cap), .int .i64 deep, .int .i64 most, .pointer (some ⟨nb, 0, none⟩)] w (SmPost w nb cnt most (1 + csizeL subs)) := by
  induction n with
  | zero => intro k a b c subs A cap w F nb deep cnt most h; omega
  | succ n ih =>
    intro k a b c subs A cap w F nb deep cnt most hn hlen hR hF hnb h0 h1 h2 h3 h4
    have hnl := blk_lt hnb
    have hB0 := Aside0.mk (((Ch.refl w (fun x => x = nb)).setCell ⟨nb, 0, none⟩ (fun _ => rfl) (.int .i64 (cnt + 1))).alloc (oC evA 72 k a b c (.slice A subs.length cap)))
    have q0 := (blk_cell hnb 0).trans (show _ = some (Value.int .i64 cnt) from rfl)
    have q1 := blk_frozen hnb 0
    have hnb1 := Aside0.mk (blk_alloc (blk_put hnb 0 (.int .i64 (cnt + 1)) rfl) (oC evA 72 k a b c (.slice A subs.length cap)))
    have hbx1 := blk_new (w.setCell ⟨nb, 0, none⟩ (.int .i64 (cnt + 1))) (oC evA 72 k a b c (.slice A subs.length cap))
    rw [show (w.setCell ⟨nb, 0, none⟩ (.int .i64 (cnt + 1))).heap.size = w.heap.size by simp [World.setCell]] at hbx1
    replace hbx1 := Aside0.mk hbx1
    have hR1 := Aside0.mk (RepL.move (W := (w.setCell ⟨nb, 0, none⟩ (.int .i64 (cnt + 1))).alloc (oC evA 72 k a b c (.slice A subs.length cap))) subs A 0 hR (fun x hx hl => (Below.heap_alloc _ _ _ (by simpa [World.setCell] using hl)).trans (Below.heap_setCell _ _ _ _ (hF x hx))))
    replace hF := Aside0.mk hF
    clear hR hnb
    go_enter Tryz.func49, Tryz.ntmps49
    go_upto_region 2 with fail
    generalize (w.setCell ⟨nb, 0, none⟩ (.int .i64 (cnt + 1))).alloc (oC evA 72 k a b c (.slice A subs.length cap)) = W0 at hB0 hnb1 hbx1 hR1 ⊢
    clear q0 q1
    have q0 := (blk_cell hnb1.out 0).trans (show _ = some (Value.int .i64 (cnt + 1)) from rfl)
    have q7 := (blk_cell hbx1.out 7).trans (show _ = some (Value.slice A subs.length cap) from rfl)
    by_cases hgt : most < cnt + 1
    · go_wp2
      go_ret
      exact ⟨false, _, rfl, hB0.out, hnb1.out, by omega, by omega, fun h => by cases h⟩
    by_cases hd0 : deep < 0
    · go_wp2
      go_ret
      exact ⟨false, _, rfl, hB0.out, hnb1.out, by omega, by omega, fun h => by cases h⟩
    go_wp2
    have hlt0 := Aside0.mk (show cnt + 1 ≤ most by omega)
    clear q0 q7
    go_loopw [28] (fun i wr => ∃ j : Nat, i = .int .i64 j ∧ j ≤ subs.length ∧ Ch w wr (fun x => x = nb) ∧ wr.heap[nb]? = some (.cells #[.int .i64 (cnt + 1 + csizeL (subs.take j))] 3 (0, 0)) ∧ cnt + 1 + csizeL (subs.take j) ≤ most ∧ RepL evA wr F subs A 0) (fun i _ => subs.length - (intOf i).toNat)
    case atStart => exact ⟨0, rfl, Nat.zero_le _, hB0.out, by simpa [csizeL] using hnb1.out, by simpa [csizeL] using hlt0.out, hR1.out⟩
    case round =>
      obtain ⟨j, rfl, hj, hCw, hnw, hmost, hRw⟩ := hrel
      clear hB0 hnb1 hbx1 hR1
      by_cases hlt : j < subs.length
      · obtain ⟨b', o, k', x, y, z, subs', B, cap', rfl, hbl, hx, hlen', hR', htk, _, c0, c1, c2, c3, c4, c5, c6, c7⟩ := sub_at hRw hlt
        have hle := csizeL_take_le subs (j + 1)
        have hcall := Aside0.mk (ih k' x y z subs' B cap' (wr.alloc (oC evA 72 k' x y z (.slice B subs'.length cap'))) F nb (deep - 1) (cnt + 1 + csizeL (subs.take j)) most (by omega) hlen' (hR'.below ((Below.refl _ _).alloc (Nat.le_refl _) _)) hF.out (blk_alloc hnw _) (by omega) hmost h2 (by omega) (by omega))
        have hCx := Aside0.mk (hCw.alloc (oC evA 72 k' x y z (.slice B subs'.length cap')))
        have hRx := Aside0.mk (hRw.below ((Below.refl _ _).alloc (Nat.le_refl _) (oC evA 72 k' x y z (.slice B subs'.length cap'))))
        replace htk := Aside0.mk htk
        replace hx := Aside0.mk hx
        clear hle hR' hRw hCw hnw
        generalize hs0 : cnt + 1 + (csizeL (subs.take j) : Int) = s0 at hcall hmost
        replace hs0 := Aside0.mk hs0
        have hne := hF
        go_wp2_with (go_at_call 49; refine hcall.out.mono ?_; rintro e w2 ⟨rb, m, rfl, hc2, hn2, hm0, hm1, hm2⟩; replace hc2 := Aside0.mk hc2; replace hn2 := Aside0.mk hn2; replace hm2 := Aside0.mk hm2; cases rb)
        · go_ret
          exact ⟨false, m, rfl, hCx.out.then hc2.out (fun _ _ h => h), hn2.out, hm0, hm1, fun h => by cases h⟩
        · go_roundw
          case rel =>
            have hm := hm2.out trivial
            have ht := htk.out
            have hz := hs0.out
            have e : cnt + 1 + (csizeL (subs.take (j + 1)) : Int) = m := by rw [hm.1]; omega
            exact ⟨j + 1, by go_num, by omega, hCx.out.then hc2.out (fun _ _ h => h), by rw [e]; exact hn2.out, by rw [e]; exact hm.2, RepL.move subs _ 0 hRx.out (fun q hq hl => hc2.out.block q hl (hF.out q hq))⟩
          case measure => simp [intOf]; omega
      · obtain rfl : j = subs.length := by omega
        rw [List.take_length] at hnw hmost
        replace hCw := Aside0.mk hCw
        replace hnw := Aside0.mk hnw
        clear hRw
        go_wp2
        go_ret
        exact ⟨true, _, rfl, hCw.out, hnw.out, by omega, by omega, fun _ => ⟨by omega, hmost⟩⟩
theorem small27 (k : Int) (a b c : Tm) (subs : List Cd) (A : Option Addr) (cap : Nat) (w : World) (most : Int) (hlen : subs.length ≤ 9223372036854775807) (hR : RepL evA w (fun b => b < w.heap.size) subs A 0) (h0 : 0 ≤ most) (h1 : most ≤ 1000) :
    Calls Tryz.prog 27 #[aC evA k a b c (.slice A subs.length cap), .int .i64 most] w fun e W => ∃ r : Bool, e = .returned (.bool r) ∧ Below w.heap.size w W ∧ (r = true → 1 + csizeL subs ≤ most) := by
  have hB := Aside0.mk (((Below.refl w.heap.size w).alloc (Nat.le_refl _) (oC evA 72 k a b c (.slice A subs.length cap))).alloc (by simp) (.cells #[.int .i64 0] 3))
  have hn := blk_new (w.alloc (oC evA 72 k a b c (.slice A subs.length cap))) (.cells #[.int .i64 0] 3)
  simp only [World.size_alloc] at hn
  have hb := Aside0.mk (blk_alloc (blk_new w (oC evA 72 k a b c (.slice A subs.length cap))) (.cells #[.int .i64 0] 3))
  have hR2 := Aside0.mk ((hR.below ((Below.refl _ _).alloc (Nat.le_refl _) (oC evA 72 k a b c (.slice A subs.length cap)))).below ((Below.refl _ _).alloc (Nat.le_refl _) (.cells #[.int .i64 0] 3)))
  replace hn := Aside0.mk hn
  clear hR
  go_enter Tryz.func27, Tryz.ntmps27
  go_upto_region 2 with fail
  generalize (w.alloc (oC evA 72 k a b c (.slice A subs.length cap))).alloc (.cells #[.int .i64 0] 3) = W0 at hB hn hb hR2 ⊢
  have hcall := Aside0.mk (small_walk (csizeL subs + 1) k a b c subs A cap W0 (fun b => b < w.heap.size) (w.heap.size + 1) 5 0 most (by omega) hlen hR2.out (fun x hx e => by omega) hn.out (by omega) h0 h1 (by omega) (by omega))
  have c0 := (blk_cell hb.out 0).trans (show _ = some (Value.int .i64 k) from rfl)
  have c1 := (blk_cell hb.out 1).trans (show _ = some (evA a.1) from rfl)
  have c2 := (blk_cell hb.out 2).trans (show _ = some (Value.int .i64 a.2) from rfl)
  have c3 := (blk_cell hb.out 3).trans (show _ = some (evA b.1) from rfl)
  have c4 := (blk_cell hb.out 4).trans (show _ = some (Value.int .i64 b.2) from rfl)
  have c5 := (blk_cell hb.out 5).trans (show _ = some (evA c.1) from rfl)
  have c6 := (blk_cell hb.out 6).trans (show _ = some (Value.int .i64 c.2) from rfl)
  have c7 := (blk_cell hb.out 7).trans (show _ = some (Value.slice A subs.length cap) from rfl)
  go_wp2_with (go_at_call 49; refine hcall.out.mono ?_; rintro e w2 ⟨rb, m, rfl, hc2, hn2, hm0, hm1, hm2⟩; replace hc2 := Aside0.mk hc2; replace hm2 := Aside0.mk hm2)
  go_ret
  exact ⟨rb, rfl, hc2.out.below hB.out (by have := blk_lt hn.out; omega) (fun x hx => by omega), fun h => by have := hm2.out h; omega⟩
theorem small9 (nm : ByteArray) (conds : List Cd) (A : Option Addr) (cap : Nat) (w : World) (most : Int) (hlen : conds.length ≤ 9223372036854775807) (hR : RepL evA w (fun b => b < w.heap.size) conds A 0) (h0 : 0 ≤ most) (h1 : most ≤ 900) :
    Calls Tryz.prog 9 #[.agg #[.string nm, .slice A conds.length cap], .int .i64 most] w fun e W => ∃ r : Bool, e = .returned (.bool r) ∧ Below w.heap.size w W ∧ (r = true → csizeL conds ≤ most ∧ nm.size ≤ 200) := by
  have hB := Aside0.mk ((Below.refl w.heap.size w).alloc (Nat.le_refl _) (.cells #[.string nm, .slice A conds.length cap] 25))
  have hb := Aside0.mk (blk_new w (.cells #[.string nm, .slice A conds.length cap] 25))
  have hR2 := hR.below ((Below.refl _ _).alloc (Nat.le_refl _) (.cells #[.string nm, .slice A conds.length cap] 25))
  have hcall := Aside0.mk (small27 0 (false, 0) (false, 0) (false, 0) conds A cap (w.alloc (.cells #[.string nm, .slice A conds.length cap] 25)) (most + 1) hlen (RepL.mono (fun b hb => by simp; omega) conds A 0 hR2) (by omega) (by omega))
  clear hR hR2
  go_enter Tryz.func9, Tryz.ntmps9
  go_wp2_with (go_at_call 27; refine hcall.out.mono ?_; rintro e w2 ⟨rb, rfl, hb2, hm⟩; have hx := (hb2.block _ (blk_lt hb.out)).trans hb.out; have x0 := (blk_cell hx 0).trans (show _ = some (Value.string nm) from rfl); replace hx := Aside0.mk hx; replace hb2 := Aside0.mk (hB.out.trans (hb2.mono hB.out.size)); replace hm := Aside0.mk hm; cases rb)
  · go_ret
    exact ⟨false, rfl, hb2.out, fun h => by cases h⟩
  · go_ret
    refine ⟨_, rfl, hb2.out, fun h => ⟨?_, ?_⟩⟩
    · have := hm.out trivial; omega
    · simp at h; omega
end Go.Proofs.YtkbkkceeolclmaaGreatDoor.X
