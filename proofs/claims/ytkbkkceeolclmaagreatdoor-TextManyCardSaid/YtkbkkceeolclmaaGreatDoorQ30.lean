/- Where a variable stands, by scopes: the document's. -/
import Derived.Test.YtkbkkceeolclmaaGreatDoorQ11
set_option linter.unusedVariables false
set_option linter.unusedSimpArgs false
namespace Go.Proofs.YtkbkkceeolclmaaGreatDoor.X
open Go.RowKit Go.TX Go.Proofs.YtkbkkceeolclmaaGreatDoorW.PrintWords
theorem hasL_yes (v : Int) : ∀ (l : List Cd) (j : Nat) (hj : j < l.length), has v l[j] = true → hasL v l = true
  | x :: l, 0, _, h => by simp only [List.getElem_cons_zero] at h; unfold hasL; rw [h]; rfl
  | x :: l, j + 1, hj, h => by
    simp only [List.getElem_cons_succ] at h
    unfold hasL
    rw [hasL_yes v l j (by simpa using hj) h, Bool.or_true]
theorem hasL_no (v : Int) : ∀ (l : List Cd), (∀ i (hi : i < l.length), has v l[i] = false) → hasL v l = false
  | [], _ => rfl
  | x :: l, h => by
    have hx := h 0 (by simp)
    simp only [List.getElem_cons_zero] at hx
    unfold hasL
    rw [hx, Bool.false_or]
    exact hasL_no v l fun i hi => by
      have := h (i + 1) (by simpa using hi)
      simpa using this
theorem has_own {v k : Int} {a b c : Tm} {subs : List Cd} (hk : k < 3) (h : a = (true, v) ∨ b = (true, v) ∨ c = (true, v)) : has v (.mk k a b c subs) = true := by
  unfold has own
  rw [decide_eq_true hk]
  rcases h with h | h | h <;> rw [decide_eq_true h] <;> simp
theorem has_not {v k : Int} {a b c : Tm} {subs : List Cd} (h : k < 3 → a ≠ (true, v) ∧ b ≠ (true, v) ∧ c ≠ (true, v)) : has v (.mk k a b c subs) = hasL v subs := by
  unfold has own
  by_cases hk : k < 3
  · obtain ⟨h1, h2, h3⟩ := h hk
    rw [decide_eq_false h1, decide_eq_false h2, decide_eq_false h3]
    simp
  · rw [decide_eq_false hk]
    simp
def HasTo (n : Nat) : Prop := ∀ (k : Int) (a b c : Tm) (subs : List Cd) (A : Option Addr) (cap : Nat) (w : World) (F : Nat → Prop) (v : Int), csizeL subs < n → subs.length ≤ 9223372036854775807 → RepL evR w F subs A 0 →
    Calls Tryz.prog 77 #[aC evR k a b c (.slice A subs.length cap), .int .i64 v] w fun e W => e = .returned (.bool (has v (.mk k a b c subs))) ∧ Below w.heap.size w W
set_option maxRecDepth 100000 in
set_option maxHeartbeats 2000000 in
theorem has_all : ∀ n, HasTo n
  | 0 => fun k a b c subs A cap w F v h => by omega
  | n + 1 => by
    have H := has_all n
    intro k a b c subs A cap w F v hn hlen hR
    have hB0 := Aside0.mk ((Below.refl w.heap.size w).alloc (Nat.le_refl _) (oC evR 81 k a b c (.slice A subs.length cap)))
    have hx0 := Aside0.mk (blk_new w (oC evR 81 k a b c (.slice A subs.length cap)))
    replace H := Aside0.mk H
    replace hR := Aside0.mk hR
    obtain ⟨r, hr⟩ : ∃ r, has v (.mk k a b c subs) = r := ⟨_, rfl⟩
    have hyes := Aside0.mk (fun (hk : k < 3) (h : a = (true, v) ∨ b = (true, v) ∨ c = (true, v)) => hr.symm.trans (has_own hk h))
    have hnot := Aside0.mk (fun (h : k < 3 → a ≠ (true, v) ∧ b ≠ (true, v) ∧ c ≠ (true, v)) => hr.symm.trans (has_not h))
    rw [hr]
    clear hr
    go_enter Tryz.func77, Tryz.ntmps77
    go_wp2
    go_loopw [5] (fun i wr => ∃ q : Nat, i = .int .i64 q ∧ q ≤ 3 ∧ Below w.heap.size w wr ∧ wr.heap[w.heap.size]? = some (oC evR 81 k a b c (.slice A subs.length cap)) ∧ (0 < q → k < 3 → a ≠ (true, v)) ∧ (1 < q → k < 3 → b ≠ (true, v)) ∧ (2 < q → k < 3 → c ≠ (true, v))) (fun i _ => 3 - (intOf i).toNat)
    case atStart => exact ⟨0, rfl, by omega, hB0.out, hx0.out, fun h => absurd h (by omega), fun h => absurd h (by omega), fun h => absurd h (by omega)⟩
    case round =>
      obtain ⟨q, rfl, hq, hBw, hxw, ha, hb, hc⟩ := hrel
      clear hB0 hx0
      obtain ⟨e0, e1, e2, e3, e4, e5, e6, e7⟩ := box8 hxw
      replace hBw := Aside0.mk hBw
      replace hxw := Aside0.mk hxw
      replace ha := Aside0.mk ha
      replace hb := Aside0.mk hb
      replace hc := Aside0.mk hc
      rcases (show q = 0 ∨ q = 1 ∨ q = 2 ∨ q = 3 by omega) with rfl | rfl | rfl | rfl
      · by_cases hk : k < 3
        · by_cases h1 : a.1 = true
          · by_cases h2 : a.2 = v
            · have hi : evI a.1 = 1 := by rw [h1]; rfl
              have hr := hyes.out hk (.inl (Prod.ext h1 h2))
              subst hr
              clear h1
              go_wp2
              go_ret
              exact ⟨rfl, hBw.out⟩
            · have hi : evI a.1 = 1 := by rw [h1]; rfl
              have h2' : (a.2 == v) = false := by rw [beq_eq_false_iff_ne]; exact h2
              clear h1
              go_wp2
              go_roundw
              case rel => exact ⟨1, rfl, by omega, hBw.out, hxw.out, fun _ => fun _ e => h2 (by rw [e]), fun h => absurd h (by omega), fun h => absurd h (by omega)⟩
              case measure => simp [intOf]
          · have hi : evI a.1 = 0 := by cases h3 : a.1 with | true => exact absurd h3 h1 | false => rfl
            replace h1 := Aside0.mk h1
            go_wp2
            go_roundw
            case rel => exact ⟨1, rfl, by omega, hBw.out, hxw.out, fun _ => fun _ e => h1.out (by rw [e]), fun h => absurd h (by omega), fun h => absurd h (by omega)⟩
            case measure => simp [intOf]
        · go_wp2
          go_roundw
          case rel => exact ⟨1, rfl, by omega, hBw.out, hxw.out, fun _ => fun h => absurd h hk, fun h => absurd h (by omega), fun h => absurd h (by omega)⟩
          case measure => simp [intOf]
      · by_cases hk : k < 3
        · by_cases h1 : b.1 = true
          · by_cases h2 : b.2 = v
            · have hi : evI b.1 = 1 := by rw [h1]; rfl
              have hr := hyes.out hk (.inr <| .inl (Prod.ext h1 h2))
              subst hr
              clear h1
              go_wp2
              go_ret
              exact ⟨rfl, hBw.out⟩
            · have hi : evI b.1 = 1 := by rw [h1]; rfl
              have h2' : (b.2 == v) = false := by rw [beq_eq_false_iff_ne]; exact h2
              clear h1
              go_wp2
              go_roundw
              case rel => exact ⟨2, rfl, by omega, hBw.out, hxw.out, fun _ => ha.out (by omega), fun _ => fun _ e => h2 (by rw [e]), fun h => absurd h (by omega)⟩
              case measure => simp [intOf]
          · have hi : evI b.1 = 0 := by cases h3 : b.1 with | true => exact absurd h3 h1 | false => rfl
            replace h1 := Aside0.mk h1
            go_wp2
            go_roundw
            case rel => exact ⟨2, rfl, by omega, hBw.out, hxw.out, fun _ => ha.out (by omega), fun _ => fun _ e => h1.out (by rw [e]), fun h => absurd h (by omega)⟩
            case measure => simp [intOf]
        · go_wp2
          go_roundw
          case rel => exact ⟨2, rfl, by omega, hBw.out, hxw.out, fun _ => ha.out (by omega), fun _ => fun h => absurd h hk, fun h => absurd h (by omega)⟩
          case measure => simp [intOf]
      · by_cases hk : k < 3
        · by_cases h1 : c.1 = true
          · by_cases h2 : c.2 = v
            · have hi : evI c.1 = 1 := by rw [h1]; rfl
              have hr := hyes.out hk (.inr <| .inr (Prod.ext h1 h2))
              subst hr
              clear h1
              go_wp2
              go_ret
              exact ⟨rfl, hBw.out⟩
            · have hi : evI c.1 = 1 := by rw [h1]; rfl
              have h2' : (c.2 == v) = false := by rw [beq_eq_false_iff_ne]; exact h2
              clear h1
              go_wp2
              go_roundw
              case rel => exact ⟨3, rfl, by omega, hBw.out, hxw.out, fun _ => ha.out (by omega), fun _ => hb.out (by omega), fun _ => fun _ e => h2 (by rw [e])⟩
              case measure => simp [intOf]
          · have hi : evI c.1 = 0 := by cases h3 : c.1 with | true => exact absurd h3 h1 | false => rfl
            replace h1 := Aside0.mk h1
            go_wp2
            go_roundw
            case rel => exact ⟨3, rfl, by omega, hBw.out, hxw.out, fun _ => ha.out (by omega), fun _ => hb.out (by omega), fun _ => fun _ e => h1.out (by rw [e])⟩
            case measure => simp [intOf]
        · go_wp2
          go_roundw
          case rel => exact ⟨3, rfl, by omega, hBw.out, hxw.out, fun _ => ha.out (by omega), fun _ => hb.out (by omega), fun _ => fun h => absurd h hk⟩
          case measure => simp [intOf]
      · have hr := hnot.out (fun hk => ⟨ha.out (by omega) hk, hb.out (by omega) hk, hc.out (by omega) hk⟩)
        subst hr
        clear hyes hnot ha hb hc
        have hB := hBw
        rw [show ((3 : Nat) : Int) = 3 from rfl]
        go_wp2
        go_loopw [35] (fun i wq => ∃ j : Nat, i = .int .i64 j ∧ j ≤ subs.length ∧ Below w.heap.size w wq ∧ ∀ q (hq : q < subs.length), q < j → has v subs[q] = false) (fun i _ => subs.length - (intOf i).toNat)
        case atStart => exact ⟨0, rfl, Nat.zero_le _, hB.out, fun q _ h => absurd h (Nat.not_lt_zero _)⟩
        case round =>
          obtain ⟨j, rfl, hj, hBq, hall⟩ := hrel
          clear hB hBw hxw e0 e1 e2 e3 e4 e5 e6 e7
          by_cases hlt2 : j < subs.length
          · obtain ⟨b', o, k', x, y, z, subs', B, cap', rfl, hbl, hx, hlen', hR', htk, hle, c0, c1, c2, c3, c4, c5, c6, c7⟩ := sub_at (hR.out.below hBq) hlt2
            have hcall := Aside0.mk (H.out k' x y z subs' B cap' (wr.alloc (oC evR 81 k' x y z (.slice B subs'.length cap'))) F v (by omega) hlen' (hR'.below ((Below.refl _ _).alloc (Nat.le_refl _) _)))
            have hBx := Aside0.mk (hBq.alloc hBq.size (oC evR 81 k' x y z (.slice B subs'.length cap')))
            rw [← hx] at hcall
            have hfirst := Aside0.mk (hasL_yes v subs j hlt2)
            replace hall := Aside0.mk hall
            replace hBq := Aside0.mk hBq
            clear htk hle hR' hx
            generalize hv : has v subs[j] = hv0 at hcall hfirst
            replace hv := Aside0.mk hv
            cases hv0
            · go_wp2_with (go_at_call 77; refine hcall.out.mono ?_; rintro e w2 ⟨rfl, hb⟩; replace hb := Aside0.mk hb)
              go_roundw
              case rel => exact ⟨j + 1, by go_num, by omega, hBx.out.trans (hb.out.mono hBx.out.size), fun q hq hqj => by
                by_cases e : q = j
                · have := hv.out; simp only [e]; exact this
                · exact hall.out q hq (by omega)⟩
              case measure => simp [intOf]; omega
            · go_wp2_with (go_at_call 77; refine hcall.out.mono ?_; rintro e w2 ⟨rfl, hb⟩; replace hb := Aside0.mk hb)
              go_ret
              exact ⟨by rw [hfirst.out (by first | rfl | trivial)]; rfl, hBx.out.trans (hb.out.mono hBx.out.size)⟩
          · obtain rfl : j = subs.length := by omega
            have hnone := Aside0.mk (hasL_no v subs (fun q hq => hall q hq hq))
            replace hBq := Aside0.mk hBq
            clear hall
            go_wp2
            go_ret
            exact ⟨by rw [hnone.out]; rfl, hBq.out⟩
/-- Does a variable stand in one of the conditions from a place on? -/
theorem rest_walk (subs : List Cd) (A : Option Addr) (cap : Nat) (w : World) (F : Nat → Prop) (at_ : Nat) (v : Int) (hlen : subs.length ≤ 1000000) (ha : at_ ≤ subs.length) (hR : RepL evR w F subs A 0) :
    Calls Tryz.prog 78 #[.slice A subs.length cap, .int .i64 at_, .int .i64 v] w fun e W => e = .returned (.bool (hasL v (subs.drop at_))) ∧ Below w.heap.size w W := by
  replace hR := Aside0.mk hR
  obtain ⟨r, hr⟩ : ∃ r, hasL v (subs.drop at_) = r := ⟨_, rfl⟩
  rw [hr]
  replace hr := Aside0.mk hr
  go_enter Tryz.func78, Tryz.ntmps78
  go_wp2
  go_loopw [7] (fun i wq => ∃ j : Nat, i = .int .i64 j ∧ at_ ≤ j ∧ j ≤ subs.length ∧ Below w.heap.size w wq ∧ hasL v (subs.drop j) = r) (fun i _ => subs.length - (intOf i).toNat)
  case atStart => exact ⟨at_, rfl, Nat.le_refl _, ha, Below.refl _ _, hr.out⟩
  case round =>
    obtain ⟨j, rfl, hj0, hj, hBq, hall⟩ := hrel
    by_cases hlt2 : j < subs.length
    · obtain ⟨b', o, k', x, y, z, subs', B, cap', rfl, hbl, hx, hlen', hR', htk, hle, c0, c1, c2, c3, c4, c5, c6, c7⟩ := sub_at (hR.out.below hBq) hlt2
      have hcall := Aside0.mk (has_all (csizeL subs' + 1) k' x y z subs' B cap' wr F v (by omega) hlen' hR')
      rw [← hx] at hcall
      rw [List.drop_eq_getElem_cons hlt2] at hall
      unfold hasL at hall
      replace hBq := Aside0.mk hBq
      clear htk hle hR' hx
      generalize has v subs[j] = hv0 at hcall hall
      cases hv0
      · rw [Bool.false_or] at hall
        replace hall := Aside0.mk hall
        go_wp2_with (go_at_call 77; refine hcall.out.mono ?_; rintro e w2 ⟨rfl, hb⟩; replace hb := Aside0.mk hb)
        go_roundw
        case rel => exact ⟨j + 1, by go_num, by omega, by omega, hBq.out.trans (hb.out.mono hBq.out.size), hall.out⟩
        case measure => simp [intOf]; omega
      · rw [Bool.true_or] at hall
        subst hall
        go_wp2_with (go_at_call 77; refine hcall.out.mono ?_; rintro e w2 ⟨rfl, hb⟩; replace hb := Aside0.mk hb)
        go_ret
        exact ⟨rfl, hBq.out.trans (hb.out.mono hBq.out.size)⟩
    · obtain rfl : j = subs.length := by omega
      rw [List.drop_length] at hall
      unfold hasL at hall
      subst hall
      replace hBq := Aside0.mk hBq
      go_wp2
      go_ret
      exact ⟨rfl, hBq.out⟩
theorem outR_skip (v : Int) : ∀ (l : List Cd) (j : Nat) (hj : j < l.length), has v l[j] = false → outR v (l.drop j) = outR v (l.drop (j + 1)) := fun l j hj h => by
  rw [List.drop_eq_getElem_cons hj]
  conv => lhs; unfold outR
  rw [if_neg (by rw [h]; simp)]
theorem outR_cons (v k : Int) (x y z : Tm) (subs l : List Cd) : outR v (.mk k x y z subs :: l) = if has v (.mk k x y z subs) then (if k = 1 then 2 else if hasL v l then 1 else if k = 3 ∧ outR v subs = 1 then 1 else 0) else outR v l := by
  conv => lhs; unfold outR
  rfl
def OutTo (n : Nat) : Prop := ∀ (l : List Cd) (A : Option Addr) (cap : Nat) (w : World) (F : Nat → Prop) (v : Int), csizeL l < n → csizeL l ≤ 1000000 → RepL evR w F l A 0 →
    Calls Tryz.prog 57 #[.slice A l.length cap, .int .i64 v] w fun e W => e = .returned (.int .i64 (outR v l)) ∧ Below w.heap.size w W
set_option maxRecDepth 100000 in
set_option maxHeartbeats 2000000 in
theorem out_all : ∀ n, OutTo n
  | 0 => fun l A cap w F v h => by omega
  | n + 1 => by
    have H := Aside0.mk (out_all n)
    intro l A cap w F v hn hn1 hR
    have hlen := csizeL_len l
    replace hR := Aside0.mk hR
    obtain ⟨r, hr⟩ : ∃ r, outR v l = r := ⟨_, rfl⟩
    rw [hr]
    replace hr := Aside0.mk hr
    go_enter Tryz.func57, Tryz.ntmps57
    go_wp2
    go_loopw [9] (fun i wq => ∃ j : Nat, i = .int .i64 j ∧ j ≤ l.length ∧ Below w.heap.size w wq ∧ outR v (l.drop j) = r) (fun i _ => l.length - (intOf i).toNat)
    case atStart => exact ⟨0, rfl, Nat.zero_le _, Below.refl _ _, by simpa using hr.out⟩
    case round =>
      obtain ⟨j, rfl, hj, hBq, hall⟩ := hrel
      by_cases hlt2 : j < l.length
      · obtain ⟨b', o, k', x, y, z, subs', B, cap', rfl, hbl, hx, hlen', hR', htk, hle, c0, c1, c2, c3, c4, c5, c6, c7⟩ := sub_at (hR.out.below hBq) hlt2
        have hcall := Aside0.mk (has_all (csizeL subs' + 1) k' x y z subs' B cap' (wr.alloc (oC evR 81 k' x y z (.slice B subs'.length cap'))) F v (by omega) hlen' (hR'.below ((Below.refl _ _).alloc (Nat.le_refl _) _)))
        have hBx := Aside0.mk (hBq.alloc hBq.size (oC evR 81 k' x y z (.slice B subs'.length cap')))
        have hbx := Aside0.mk (blk_new wr (oC evR 81 k' x y z (.slice B subs'.length cap')))
        have hRx := Aside0.mk (hR'.below ((Below.refl _ _).alloc (Nat.le_refl _) (oC evR 81 k' x y z (.slice B subs'.length cap'))))
        have hRl := Aside0.mk ((hR.out.below hBq).below ((Below.refl _ _).alloc (Nat.le_refl _) (oC evR 81 k' x y z (.slice B subs'.length cap'))))
        have hskip := outR_skip v l j hlt2
        rw [hx] at hskip
        rw [List.drop_eq_getElem_cons hlt2, hx] at hall
        have hcs : csizeL subs' < n := by omega
        have hcs1 : csizeL subs' ≤ 1000000 := by omega
        replace hBq := Aside0.mk hBq
        clear htk hle hR'
        replace hx := Aside0.mk hx
        rw [outR_cons] at hall
        generalize has v (.mk k' x y z subs') = hv at hcall hall hskip
        cases hv
        · simp only [Bool.false_eq_true, if_false] at hall
          replace hall := Aside0.mk hall
          clear hskip
          go_wp2_with (go_at_call 77; refine hcall.out.mono ?_; rintro e w2 ⟨rfl, hb⟩; replace hb := Aside0.mk (hBx.out.trans (hb.mono hBx.out.size)))
          go_roundw
          case rel => exact ⟨j + 1, by go_num, by omega, hb.out, hall.out⟩
          case measure => simp [intOf]; omega
        · simp only [if_true] at hall
          clear hskip
          by_cases hk1 : k' = 1
          · subst hk1
            rw [if_pos rfl] at hall
            subst hall
            go_wp2_with (go_at_call 77; refine hcall.out.mono ?_; rintro e w2 ⟨rfl, hb⟩; have hx2 := Aside0.mk ((hb.block _ (blk_lt hbx.out)).trans hbx.out); obtain ⟨e0, e1, e2, e3, e4, e5, e6, e7⟩ := box8 hx2.out; replace hb := Aside0.mk (hBx.out.trans (hb.mono hBx.out.size)))
            go_ret
            exact ⟨rfl, hb.out⟩
          rw [if_neg hk1] at hall
          have hk1' : (k' == 1) = false := by rw [beq_eq_false_iff_ne]; exact hk1
          have hrest := Aside0.mk (fun (W : World) (hW : Below (wr.alloc (oC evR 81 k' x y z (.slice B subs'.length cap'))).heap.size (wr.alloc (oC evR 81 k' x y z (.slice B subs'.length cap'))) W) => rest_walk l (some ⟨b', o, none⟩) cap W F (j + 1) v (by omega) (by omega) (hRl.out.below hW))
          rw [show (((j + 1 : Nat)) : Int) = (j : Int) + 1 from by omega] at hrest
          generalize hasL v (l.drop (j + 1)) = hl at hall hrest
          cases hl
          · simp only [Bool.false_eq_true, if_false] at hall
            by_cases hk3 : k' = 3
            · subst hk3
              have hout := Aside0.mk (fun (W : World) (hW : Below (wr.alloc (oC evR 81 3 x y z (.slice B subs'.length cap'))).heap.size (wr.alloc (oC evR 81 3 x y z (.slice B subs'.length cap'))) W) => H.out subs' B cap' W F v hcs hcs1 (hRx.out.below hW))
              simp only [true_and] at hall
              generalize outR v subs' = ro at hall hout
              by_cases hro : ro = 1
              · subst hro
                rw [if_pos rfl] at hall
                subst hall
                go_wp2_with (first
                  | (go_at_call 77; refine hcall.out.mono ?_; rintro e w2 ⟨rfl, hb⟩; have hx2 := Aside0.mk ((hb.block _ (blk_lt hbx.out)).trans hbx.out); obtain ⟨e0, e1, e2, e3, e4, e5, e6, e7⟩ := box8 hx2.out; replace hb := Aside0.mk hb)
                  | (go_at_call 78; refine (hrest.out _ hb.out).mono ?_; rintro e w3 ⟨rfl, hb3⟩; have hx3 := Aside0.mk ((hb3.block _ (blk_lt hx2.out)).trans hx2.out); obtain ⟨e0, e1, e2, e3, e4, e5, e6, e7⟩ := box8 hx3.out; replace hb3 := Aside0.mk (hb.out.trans (hb3.mono hb.out.size)))
                  | (go_at_call 57; refine (hout.out _ hb3.out).mono ?_; rintro e w4 ⟨rfl, hb4⟩; replace hb4 := Aside0.mk (hBx.out.trans ((hb3.out.trans (hb4.mono hb3.out.size)).mono hBx.out.size))))
                go_ret
                exact ⟨rfl, hb4.out⟩
              · rw [if_neg hro] at hall
                subst hall
                have hro' : (ro == 1) = false := by rw [beq_eq_false_iff_ne]; exact hro
                go_wp2_with (first
                  | (go_at_call 77; refine hcall.out.mono ?_; rintro e w2 ⟨rfl, hb⟩; have hx2 := Aside0.mk ((hb.block _ (blk_lt hbx.out)).trans hbx.out); obtain ⟨e0, e1, e2, e3, e4, e5, e6, e7⟩ := box8 hx2.out; replace hb := Aside0.mk hb)
                  | (go_at_call 78; refine (hrest.out _ hb.out).mono ?_; rintro e w3 ⟨rfl, hb3⟩; have hx3 := Aside0.mk ((hb3.block _ (blk_lt hx2.out)).trans hx2.out); obtain ⟨e0, e1, e2, e3, e4, e5, e6, e7⟩ := box8 hx3.out; replace hb3 := Aside0.mk (hb.out.trans (hb3.mono hb.out.size)))
                  | (go_at_call 57; refine (hout.out _ hb3.out).mono ?_; rintro e w4 ⟨rfl, hb4⟩; replace hb4 := Aside0.mk (hBx.out.trans ((hb3.out.trans (hb4.mono hb3.out.size)).mono hBx.out.size))))
                go_ret
                exact ⟨rfl, hb4.out⟩
            · rw [if_neg (fun h => hk3 h.1)] at hall
              subst hall
              have hk3' : (k' == 3) = false := by rw [beq_eq_false_iff_ne]; exact hk3
              go_wp2_with (first
                | (go_at_call 77; refine hcall.out.mono ?_; rintro e w2 ⟨rfl, hb⟩; have hx2 := Aside0.mk ((hb.block _ (blk_lt hbx.out)).trans hbx.out); obtain ⟨e0, e1, e2, e3, e4, e5, e6, e7⟩ := box8 hx2.out; replace hb := Aside0.mk hb)
                | (go_at_call 78; refine (hrest.out _ hb.out).mono ?_; rintro e w3 ⟨rfl, hb3⟩; have hx3 := Aside0.mk ((hb3.block _ (blk_lt hx2.out)).trans hx2.out); obtain ⟨e0, e1, e2, e3, e4, e5, e6, e7⟩ := box8 hx3.out; replace hb3 := Aside0.mk (hBx.out.trans ((hb.out.trans (hb3.mono hb.out.size)).mono hBx.out.size))))
              go_ret
              exact ⟨rfl, hb3.out⟩
          · simp only [if_true] at hall
            subst hall
            go_wp2_with (first
              | (go_at_call 77; refine hcall.out.mono ?_; rintro e w2 ⟨rfl, hb⟩; have hx2 := Aside0.mk ((hb.block _ (blk_lt hbx.out)).trans hbx.out); obtain ⟨e0, e1, e2, e3, e4, e5, e6, e7⟩ := box8 hx2.out; replace hb := Aside0.mk hb)
              | (go_at_call 78; refine (hrest.out _ hb.out).mono ?_; rintro e w3 ⟨rfl, hb3⟩; replace hb3 := Aside0.mk (hBx.out.trans ((hb.out.trans (hb3.mono hb.out.size)).mono hBx.out.size))))
            go_ret
            exact ⟨rfl, hb3.out⟩
      · obtain rfl : j = l.length := by omega
        rw [List.drop_length] at hall
        unfold outR at hall
        subst hall
        replace hBq := Aside0.mk hBq
        go_wp2
        go_ret
        exact ⟨rfl, hBq.out⟩
end Go.Proofs.YtkbkkceeolclmaaGreatDoor.X
