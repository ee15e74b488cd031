/- What is wrong with a condition: the program's and the document's. -/
import Derived.Laws.StructEq
import Derived.Laws.Tables
import Derived.Laws.Cover2
import Derived.KernelRfl
import Derived.Test.YtkbkkceeolclmaaGreatDoorQ11
import Derived.Test.YtkbkkceeolclmaaGreatDoorQv
set_option linter.unusedVariables false
set_option linter.unusedSimpArgs false
namespace Go.Proofs.YtkbkkceeolclmaaGreatDoor.X
open Go.RowKit Go.TX Go.Proofs.YtkbkkceeolclmaaGreatDoorW.PrintWords
set_option maxRecDepth 100000 in
theorem eq69 (n : Nat) (p q : Bool) (x y : Int) (w : World) : (Op.equalIn (n + 2) 69 (.agg #[.bool p, .int .i64 x]) (.agg #[.bool q, .int .i64 y])).run Tryz.prog w = .ok (p == q && x == y) w := by
  have u3 := Tryz.underlying3
  have a3 := Tryz.isAgg3
  have z3 := Tryz.sizeOf3
  have u4 := Tryz.underlying4
  have a4 := Tryz.isAgg4
  have z4 := Tryz.sizeOf4
  refine eqA_of Tryz.underlying69 (by kernel_rfl) ?_
  refine eqf_cons (by rfl) (by go_simp <;> rfl) (by go_simp <;> rfl) (by go_simp) ?_
  exact eqf_last (by rfl) (by go_simp <;> rfl) (by go_simp <;> rfl) (by go_simp)
set_option maxRecDepth 100000 in
theorem eq70 (n : Nat) (a1 b1 c1 d1 e1 f1 : Bool) (a2 b2 c2 d2 e2 f2 : Int) (w : World) : (Op.equalIn (n + 4) 70 (.agg #[.bool a1, .int .i64 a2, .bool b1, .int .i64 b2, .bool c1, .int .i64 c2]) (.agg #[.bool d1, .int .i64 d2, .bool e1, .int .i64 e2, .bool f1, .int .i64 f2])).run Tryz.prog w = .ok (decide ((a1, a2) = (d1, d2) ∧ (b1, b2) = (e1, e2) ∧ (c1, c2) = (f1, f2))) w := by
  have u3 := Tryz.underlying69
  have a3 := Tryz.isAgg69
  have z3 := Tryz.sizeOf69
  have he := eq69
  rw [Op.equalIn]
  simp only [Sem.run_bind, run_underlying Tryz.underlying70, Result.andThen_ok]
  simp only [Std.Legacy.Range.forIn_eq_forIn_range', Std.Legacy.Range.size, Nat.sub_zero, Nat.add_sub_cancel, Nat.div_one, List.range'_succ, List.range'_zero, List.forIn_cons, List.forIn_nil]
  go_simp
  by_cases h1 : a1 = d1 <;> by_cases h2 : a2 = d2 <;> by_cases h3 : b1 = e1 <;> by_cases h4 : b2 = e2 <;> by_cases h5 : c1 = f1 <;> by_cases h6 : c2 = f2 <;> simp [h1, h2, h3, h4, h5, h6]
theorem build70z (w : World) : (Instr.build 70 #[]).run Tryz.prog w = .ok (.agg #[.bool false, .int .i64 0, .bool false, .int .i64 0, .bool false, .int .i64 0]) w := run_build w 70 _ _ (by kernel_rfl)
theorem right69 (t : Tm) (w : World) : Calls Tryz.prog 69 #[.agg #[Value.bool t.1, .int .i64 t.2]] w fun e W => e = .returned (.bool (tmRight t)) ∧ Below w.heap.size w W := by
  obtain ⟨b, n⟩ := t
  by_cases h1 : 1 ≤ n
  · cases b
    · by_cases h2 : n ≤ 4096
      · have e : tmRight (false, n) = true := by unfold tmRight; rw [decide_eq_true h1, decide_eq_true (show n ≤ (if (false : Bool) = true then (32 : Int) else 4096) from h2)]; rfl
        rw [e]
        clear e
        go_enter Tryz.func69, Tryz.ntmps69
        go_wp2
        go_ret
        exact ⟨rfl, (Below.refl _ _).alloc (Nat.le_refl _) _⟩
      · have e : tmRight (false, n) = false := by unfold tmRight; rw [decide_eq_true h1, decide_eq_false (show ¬ n ≤ (if (false : Bool) = true then (32 : Int) else 4096) from h2)]; rfl
        rw [e]
        clear e
        go_enter Tryz.func69, Tryz.ntmps69
        go_wp2
        go_ret
        exact ⟨rfl, (Below.refl _ _).alloc (Nat.le_refl _) _⟩
    · by_cases h2 : n ≤ 32
      · have e : tmRight (true, n) = true := by unfold tmRight; rw [decide_eq_true h1, decide_eq_true (show n ≤ (if (true : Bool) = true then (32 : Int) else 4096) from h2)]; rfl
        rw [e]
        clear e
        go_enter Tryz.func69, Tryz.ntmps69
        go_wp2
        go_ret
        exact ⟨rfl, (Below.refl _ _).alloc (Nat.le_refl _) _⟩
      · have e : tmRight (true, n) = false := by unfold tmRight; rw [decide_eq_true h1, decide_eq_false (show ¬ n ≤ (if (true : Bool) = true then (32 : Int) else 4096) from h2)]; rfl
        rw [e]
        clear e
        go_enter Tryz.func69, Tryz.ntmps69
        go_wp2
        go_ret
        exact ⟨rfl, (Below.refl _ _).alloc (Nat.le_refl _) _⟩
  · cases b
    · have e : tmRight (false, n) = false := by unfold tmRight; rw [decide_eq_false h1]; rfl
      rw [e]
      clear e
      go_enter Tryz.func69, Tryz.ntmps69
      go_wp2
      go_ret
      exact ⟨rfl, (Below.refl _ _).alloc (Nat.le_refl _) _⟩
    · have e : tmRight (true, n) = false := by unfold tmRight; rw [decide_eq_false h1]; rfl
      rw [e]
      clear e
      go_enter Tryz.func69, Tryz.ntmps69
      go_wp2
      go_ret
      exact ⟨rfl, (Below.refl _ _).alloc (Nat.le_refl _) _⟩
theorem right76 (t : Tm) (w : World) : Calls Tryz.prog 76 #[.agg #[evR t.1, .int .i64 t.2]] w fun e W => e = .returned (.bool (tmRight t)) ∧ Below w.heap.size w W := by
  obtain ⟨b, n⟩ := t
  unfold evR evI
  by_cases h1 : 1 ≤ n
  · cases b
    · by_cases h2 : n ≤ 4096
      · have e : tmRight (false, n) = true := by unfold tmRight; rw [decide_eq_true h1, decide_eq_true (show n ≤ (if (false : Bool) = true then (32 : Int) else 4096) from h2)]; rfl
        rw [e]
        clear e
        go_enter Tryz.func76, Tryz.ntmps76
        go_wp2
        go_ret
        exact ⟨rfl, (Below.refl _ _).alloc (Nat.le_refl _) _⟩
      · have e : tmRight (false, n) = false := by unfold tmRight; rw [decide_eq_true h1, decide_eq_false (show ¬ n ≤ (if (false : Bool) = true then (32 : Int) else 4096) from h2)]; rfl
        rw [e]
        clear e
        go_enter Tryz.func76, Tryz.ntmps76
        go_wp2
        go_ret
        exact ⟨rfl, (Below.refl _ _).alloc (Nat.le_refl _) _⟩
    · by_cases h2 : n ≤ 32
      · have e : tmRight (true, n) = true := by unfold tmRight; rw [decide_eq_true h1, decide_eq_true (show n ≤ (if (true : Bool) = true then (32 : Int) else 4096) from h2)]; rfl
        rw [e]
        clear e
        go_enter Tryz.func76, Tryz.ntmps76
        go_wp2
        go_ret
        exact ⟨rfl, (Below.refl _ _).alloc (Nat.le_refl _) _⟩
      · have e : tmRight (true, n) = false := by unfold tmRight; rw [decide_eq_true h1, decide_eq_false (show ¬ n ≤ (if (true : Bool) = true then (32 : Int) else 4096) from h2)]; rfl
        rw [e]
        clear e
        go_enter Tryz.func76, Tryz.ntmps76
        go_wp2
        go_ret
        exact ⟨rfl, (Below.refl _ _).alloc (Nat.le_refl _) _⟩
  · cases b
    · have e : tmRight (false, n) = false := by unfold tmRight; rw [decide_eq_false h1]; rfl
      rw [e]
      clear e
      go_enter Tryz.func76, Tryz.ntmps76
      go_wp2
      go_ret
      exact ⟨rfl, (Below.refl _ _).alloc (Nat.le_refl _) _⟩
    · have e : tmRight (true, n) = false := by unfold tmRight; rw [decide_eq_false h1]; rfl
      rw [e]
      clear e
      go_enter Tryz.func76, Tryz.ntmps76
      go_wp2
      go_ret
      exact ⟨rfl, (Below.refl _ _).alloc (Nat.le_refl _) _⟩
/-- The first that is wrong. -/
theorem cchkL_first (d : Int) : ∀ (l : List Cd) (j : Nat) (hj : j < l.length), (∀ i (hi : i < l.length), i < j → cchk d l[i] = 0) → cchk d l[j] ≠ 0 → cchkL d l = cchk d l[j]
  | x :: l, 0, _, _, h => by
    unfold cchkL
    simp only [List.getElem_cons_zero] at h ⊢
    rw [if_pos h]
  | x :: l, j + 1, hj, h0, h => by
    have hx := h0 0 (by simp) (by omega)
    simp only [List.getElem_cons_zero] at hx
    unfold cchkL
    rw [if_neg (by rw [hx]; simp)]
    simp only [List.getElem_cons_succ] at h ⊢
    exact cchkL_first d l j (by simpa using hj) (fun i hi hij => by
      have := h0 (i + 1) (by simpa using hi) (by omega)
      simpa using this) h
theorem cchkL_none (d : Int) : ∀ (l : List Cd), (∀ i (hi : i < l.length), cchk d l[i] = 0) → cchkL d l = 0
  | [], _ => rfl
  | x :: l, h => by
    have hx := h 0 (by simp)
    simp only [List.getElem_cons_zero] at hx
    unfold cchkL
    rw [if_neg (by rw [hx]; simp)]
    exact cchkL_none d l fun i hi => by
      have := h (i + 1) (by simpa using hi)
      simpa using this
/-- The check of all trees that are smaller. -/
def ChkTo (n : Nat) : Prop := ∀ (k : Int) (a b c : Tm) (subs : List Cd) (A : Option Addr) (cap : Nat) (w : World) (F : Nat → Prop) (d : Int), csizeL subs < n → subs.length ≤ 9223372036854775807 → RepL evA w F subs A 0 → 1 ≤ d → d ≤ 4 →
    Calls Tryz.prog 50 #[aC evA k a b c (.slice A subs.length cap), .int .i64 d] w fun e W => e = .returned (.int .i64 (cchk d (.mk k a b c subs))) ∧ Below w.heap.size w W
attribute [local go_sem high] eq70 build70z
set_option maxRecDepth 100000 in
set_option maxHeartbeats 1000000 in
theorem group_of (n : Nat) (H : ChkTo n) (k : Int) (a b c : Tm) (subs : List Cd) (A : Option Addr) (cap : Nat) (w : World) (F : Nat → Prop) (d : Int) (hn : csizeL subs ≤ n) (hlen : subs.length ≤ 9223372036854775807) (hR : RepL evA w F subs A 0) (h1 : 1 ≤ d) (h2 : d ≤ 3) :
    Calls Tryz.prog 68 #[aC evA k a b c (.slice A subs.length cap), .int .i64 d] w fun e W => e = .returned (.int .i64 (if a = (false, 0) ∧ b = (false, 0) ∧ c = (false, 0) then (if subs.isEmpty then 2 else cchkL (d + 1) subs) else 4)) ∧ Below w.heap.size w W := by
  have hB0 := Aside0.mk ((Below.refl w.heap.size w).alloc (Nat.le_refl _) (oC evA 72 k a b c (.slice A subs.length cap)))
  by_cases hT : a = (false, 0) ∧ b = (false, 0) ∧ c = (false, 0)
  · obtain ⟨rfl, rfl, rfl⟩ := hT
    rw [if_pos ⟨rfl, rfl, rfl⟩]
    by_cases h0 : subs.length = 0
    · have hnil := List.length_eq_zero_iff.1 h0
      subst hnil
      go_enter Tryz.func68, Tryz.ntmps68
      go_wp2
      go_ret
      exact ⟨rfl, hB0.out⟩
    · have hne : subs.isEmpty = false := by cases subs with | nil => simp at h0 | cons x l => rfl
      rw [hne]
      have h0' : ((subs.length : Int) == 0) = false := by rw [beq_eq_false_iff_ne]; omega
      replace hne := Aside0.mk hne
      replace hR := Aside0.mk hR
      go_enter Tryz.func68, Tryz.ntmps68
      go_wp2
      generalize w.alloc (oC evA 72 k (false, 0) (false, 0) (false, 0) (.slice A subs.length cap)) = W0 at hB0 ⊢
      go_loopw [21] (fun i wr => ∃ j : Nat, i = .int .i64 j ∧ j ≤ subs.length ∧ Below w.heap.size w wr ∧ ∀ q (hq : q < subs.length), q < j → cchk (d + 1) subs[q] = 0) (fun i _ => subs.length - (intOf i).toNat)
      case atStart => exact ⟨0, rfl, Nat.zero_le _, hB0.out, fun q _ h => absurd h (Nat.not_lt_zero _)⟩
      case round =>
        obtain ⟨j, rfl, hj, hBw, hall⟩ := hrel
        clear hB0
        by_cases hlt : j < subs.length
        · obtain ⟨b', o, k', x, y, z, subs', B, cap', rfl, hbl, hx, hlen', hR', htk, hle, c0, c1, c2, c3, c4, c5, c6, c7⟩ := sub_at (hR.out.below hBw) hlt
          have hcall := Aside0.mk (H k' x y z subs' B cap' (wr.alloc (oC evA 72 k' x y z (.slice B subs'.length cap'))) F (d + 1) (by omega) hlen' (hR'.below ((Below.refl _ _).alloc (Nat.le_refl _) _)) (by omega) (by omega))
          have hBx := Aside0.mk (hBw.alloc hBw.size (oC evA 72 k' x y z (.slice B subs'.length cap')))
          rw [← hx] at hcall
          have hfirst := Aside0.mk (cchkL_first (d + 1) subs j hlt (fun q hq hqj => hall q hq hqj))
          replace hall := Aside0.mk hall
          replace hBw := Aside0.mk hBw
          clear htk hle hR' hx
          generalize hv : cchk (d + 1) subs[j] = v at hcall hfirst
          replace hv := Aside0.mk hv
          by_cases hv0 : v = 0
          · subst hv0
            go_wp2_with (go_at_call 50; refine hcall.out.mono ?_; rintro e w2 ⟨rfl, hb⟩; replace hb := Aside0.mk hb)
            go_roundw
            case rel => exact ⟨j + 1, by go_num, by omega, hBx.out.trans (hb.out.mono hBx.out.size), fun q hq hqj => by
              by_cases e : q = j
              · have := hv.out; simp only [e]; exact this
              · exact hall.out q hq (by omega)⟩
            case measure => simp [intOf]; omega
          · go_wp2_with (go_at_call 50; refine hcall.out.mono ?_; rintro e w2 ⟨rfl, hb⟩; replace hb := Aside0.mk hb)
            go_ret
            exact ⟨by rw [hfirst.out hv0]; rfl, hBx.out.trans (hb.out.mono hBx.out.size)⟩
        · obtain rfl : j = subs.length := by omega
          have hnone := Aside0.mk (cchkL_none (d + 1) subs (fun q hq => hall q hq hq))
          replace hBw := Aside0.mk hBw
          clear hall
          go_wp2
          go_ret
          exact ⟨by rw [hnone.out]; rfl, hBw.out⟩
  · rw [if_neg hT]
    obtain ⟨a1, a2⟩ := a
    obtain ⟨b1, b2⟩ := b
    obtain ⟨c1, c2⟩ := c
    have hd : decide ((a1, a2) = ((false, 0) : Tm) ∧ (b1, b2) = ((false, 0) : Tm) ∧ (c1, c2) = ((false, 0) : Tm)) = false := decide_eq_false hT
    replace hT := Aside0.mk hT
    go_enter Tryz.func68, Tryz.ntmps68
    go_wp2
    all_goals first
      | (go_ret; exact ⟨rfl, hB0.out⟩)
      | (exfalso; have hT' := hT.out; simp_all)
set_option maxRecDepth 100000 in
set_option maxHeartbeats 2000000 in
theorem chk_all : ∀ n, ChkTo n
  | 0 => fun k a b c subs A cap w F d h => by omega
  | n + 1 => by
    have H := chk_all n
    intro k a b c subs A cap w F d hn hlen hR h1 h2
    have hB0 := Aside0.mk ((Below.refl w.heap.size w).alloc (Nat.le_refl _) (oC evA 72 k a b c (.slice A subs.length cap)))
    have hx0 := Aside0.mk (blk_new w (oC evA 72 k a b c (.slice A subs.length cap)))
    have hG := Aside0.mk (fun (h3 : d ≤ 3) => group_of n H k a b c subs A cap (w.alloc (oC evA 72 k a b c (.slice A subs.length cap))) F d (by omega) hlen (hR.below ((Below.refl _ _).alloc (Nat.le_refl _) _)) h1 h3)
    replace H := Aside0.mk H
    clear hR
    by_cases hd : 3 < d
    · have e : cchk d (.mk k a b c subs) = 5 := by unfold cchk; rw [if_pos hd]
      rw [e]
      clear e hG
      go_enter Tryz.func50, Tryz.ntmps50
      go_wp2
      all_goals first | (exfalso; omega) | skip
      go_ret
      exact ⟨rfl, hB0.out⟩
    by_cases h3 : k = 3
    · subst h3
      have e : cchk d (.mk 3 a b c subs) = if a = (false, 0) ∧ b = (false, 0) ∧ c = (false, 0) then (if subs.isEmpty then 2 else cchkL (d + 1) subs) else 4 := by unfold cchk; rw [if_neg hd, if_neg (by omega), if_neg (by omega)]
      rw [e]
      have hg := Aside0.mk (hG.out (by omega))
      generalize (if a = (false, 0) ∧ b = (false, 0) ∧ c = (false, 0) then (if subs.isEmpty then 2 else cchkL (d + 1) subs) else 4) = r at hg ⊢
      clear e hG
      go_enter Tryz.func50, Tryz.ntmps50
      go_wp2_with (go_at_call 68; refine hg.out.mono ?_; rintro e w2 ⟨rfl, hb⟩; replace hb := Aside0.mk hb)
      all_goals first | (exfalso; omega) | skip
      go_ret
      exact ⟨rfl, hB0.out.trans (hb.out.mono hB0.out.size)⟩
    clear hG
    by_cases hk : k = 1 ∨ k = 2
    · have e : cchk d (.mk k a b c subs) = if tmRight a && tmRight b && tmRight c then (if subs.isEmpty then 0 else 4) else 4 := by unfold cchk; rw [if_neg hd, if_neg (by omega), if_pos (by omega)]
      rw [e]
      clear e
      have Ra := Aside0.mk (right69 a)
      have Rb := Aside0.mk (right69 b)
      have Rc := Aside0.mk (right69 c)
      generalize tmRight a = ra at Ra ⊢
      generalize tmRight b = rb at Rb ⊢
      generalize tmRight c = rc at Rc ⊢
      clear H h3
      rcases hk with rfl | rfl
      · cases ra
        · simp only [Bool.false_and, Bool.false_eq_true, if_false]
          go_enter Tryz.func50, Tryz.ntmps50
          go_wp2_with (first | (go_at_call 69; (with_reducible show Calls Tryz.prog 69 #[.agg #[.bool a.1, .int .i64 a.2]] _ _); refine (Ra.out _).mono ?_; rintro e Wa ⟨rfl, hba⟩; have hxa := Aside0.mk ((hba.block _ (blk_lt hx0.out)).trans hx0.out); obtain ⟨e0, e1, e2, e3, e4, e5, e6, e7⟩ := box8 hxa.out; have hBa := Aside0.mk (hB0.out.trans (hba.mono hB0.out.size)); clear hba) | (go_at_call 69; (with_reducible show Calls Tryz.prog 69 #[.agg #[.bool b.1, .int .i64 b.2]] _ _); refine (Rb.out _).mono ?_; rintro e Wb ⟨rfl, hbb⟩; have hxb := Aside0.mk ((hbb.block _ (blk_lt hxa.out)).trans hxa.out); obtain ⟨e0, e1, e2, e3, e4, e5, e6, e7⟩ := box8 hxb.out; have hBb := Aside0.mk (hBa.out.trans (hbb.mono hBa.out.size)); clear hbb) | (go_at_call 69; (with_reducible show Calls Tryz.prog 69 #[.agg #[.bool c.1, .int .i64 c.2]] _ _); refine (Rc.out _).mono ?_; rintro e Wc ⟨rfl, hbc⟩; have hxc := Aside0.mk ((hbc.block _ (blk_lt hxb.out)).trans hxb.out); obtain ⟨e0, e1, e2, e3, e4, e5, e6, e7⟩ := box8 hxc.out; have hBc := Aside0.mk (hBb.out.trans (hbc.mono hBb.out.size)); clear hbc))
          all_goals first | (exfalso; omega) | skip
          go_ret
          exact ⟨rfl, hBa.out⟩
        cases rb
        · simp only [Bool.and_false, Bool.false_and, Bool.false_eq_true, if_false]
          go_enter Tryz.func50, Tryz.ntmps50
          go_wp2_with (first | (go_at_call 69; (with_reducible show Calls Tryz.prog 69 #[.agg #[.bool a.1, .int .i64 a.2]] _ _); refine (Ra.out _).mono ?_; rintro e Wa ⟨rfl, hba⟩; have hxa := Aside0.mk ((hba.block _ (blk_lt hx0.out)).trans hx0.out); obtain ⟨e0, e1, e2, e3, e4, e5, e6, e7⟩ := box8 hxa.out; have hBa := Aside0.mk (hB0.out.trans (hba.mono hB0.out.size)); clear hba) | (go_at_call 69; (with_reducible show Calls Tryz.prog 69 #[.agg #[.bool b.1, .int .i64 b.2]] _ _); refine (Rb.out _).mono ?_; rintro e Wb ⟨rfl, hbb⟩; have hxb := Aside0.mk ((hbb.block _ (blk_lt hxa.out)).trans hxa.out); obtain ⟨e0, e1, e2, e3, e4, e5, e6, e7⟩ := box8 hxb.out; have hBb := Aside0.mk (hBa.out.trans (hbb.mono hBa.out.size)); clear hbb) | (go_at_call 69; (with_reducible show Calls Tryz.prog 69 #[.agg #[.bool c.1, .int .i64 c.2]] _ _); refine (Rc.out _).mono ?_; rintro e Wc ⟨rfl, hbc⟩; have hxc := Aside0.mk ((hbc.block _ (blk_lt hxb.out)).trans hxb.out); obtain ⟨e0, e1, e2, e3, e4, e5, e6, e7⟩ := box8 hxc.out; have hBc := Aside0.mk (hBb.out.trans (hbc.mono hBb.out.size)); clear hbc))
          all_goals first | (exfalso; omega) | skip
          go_ret
          exact ⟨rfl, hBb.out⟩
        cases rc
        · simp only [Bool.and_false, Bool.false_eq_true, if_false]
          go_enter Tryz.func50, Tryz.ntmps50
          go_wp2_with (first | (go_at_call 69; (with_reducible show Calls Tryz.prog 69 #[.agg #[.bool a.1, .int .i64 a.2]] _ _); refine (Ra.out _).mono ?_; rintro e Wa ⟨rfl, hba⟩; have hxa := Aside0.mk ((hba.block _ (blk_lt hx0.out)).trans hx0.out); obtain ⟨e0, e1, e2, e3, e4, e5, e6, e7⟩ := box8 hxa.out; have hBa := Aside0.mk (hB0.out.trans (hba.mono hB0.out.size)); clear hba) | (go_at_call 69; (with_reducible show Calls Tryz.prog 69 #[.agg #[.bool b.1, .int .i64 b.2]] _ _); refine (Rb.out _).mono ?_; rintro e Wb ⟨rfl, hbb⟩; have hxb := Aside0.mk ((hbb.block _ (blk_lt hxa.out)).trans hxa.out); obtain ⟨e0, e1, e2, e3, e4, e5, e6, e7⟩ := box8 hxb.out; have hBb := Aside0.mk (hBa.out.trans (hbb.mono hBa.out.size)); clear hbb) | (go_at_call 69; (with_reducible show Calls Tryz.prog 69 #[.agg #[.bool c.1, .int .i64 c.2]] _ _); refine (Rc.out _).mono ?_; rintro e Wc ⟨rfl, hbc⟩; have hxc := Aside0.mk ((hbc.block _ (blk_lt hxb.out)).trans hxb.out); obtain ⟨e0, e1, e2, e3, e4, e5, e6, e7⟩ := box8 hxc.out; have hBc := Aside0.mk (hBb.out.trans (hbc.mono hBb.out.size)); clear hbc))
          all_goals first | (exfalso; omega) | skip
          go_ret
          exact ⟨rfl, hBc.out⟩
        simp only [Bool.and_self, if_true]
        cases subs with
        | nil =>
          simp only [List.isEmpty_nil, if_true]
          go_enter Tryz.func50, Tryz.ntmps50
          go_wp2_with (first | (go_at_call 69; (with_reducible show Calls Tryz.prog 69 #[.agg #[.bool a.1, .int .i64 a.2]] _ _); refine (Ra.out _).mono ?_; rintro e Wa ⟨rfl, hba⟩; have hxa := Aside0.mk ((hba.block _ (blk_lt hx0.out)).trans hx0.out); obtain ⟨e0, e1, e2, e3, e4, e5, e6, e7⟩ := box8 hxa.out; have hBa := Aside0.mk (hB0.out.trans (hba.mono hB0.out.size)); clear hba) | (go_at_call 69; (with_reducible show Calls Tryz.prog 69 #[.agg #[.bool b.1, .int .i64 b.2]] _ _); refine (Rb.out _).mono ?_; rintro e Wb ⟨rfl, hbb⟩; have hxb := Aside0.mk ((hbb.block _ (blk_lt hxa.out)).trans hxa.out); obtain ⟨e0, e1, e2, e3, e4, e5, e6, e7⟩ := box8 hxb.out; have hBb := Aside0.mk (hBa.out.trans (hbb.mono hBa.out.size)); clear hbb) | (go_at_call 69; (with_reducible show Calls Tryz.prog 69 #[.agg #[.bool c.1, .int .i64 c.2]] _ _); refine (Rc.out _).mono ?_; rintro e Wc ⟨rfl, hbc⟩; have hxc := Aside0.mk ((hbc.block _ (blk_lt hxb.out)).trans hxb.out); obtain ⟨e0, e1, e2, e3, e4, e5, e6, e7⟩ := box8 hxc.out; have hBc := Aside0.mk (hBb.out.trans (hbc.mono hBb.out.size)); clear hbc))
          all_goals first | (exfalso; omega) | skip
          go_ret
          exact ⟨rfl, hBc.out⟩
        | cons u l =>
          simp only [List.isEmpty_cons, Bool.false_eq_true, if_false]
          have hpos : (0 : Int) < ((u :: l).length : Int) := by simp
          go_enter Tryz.func50, Tryz.ntmps50
          go_wp2_with (first | (go_at_call 69; (with_reducible show Calls Tryz.prog 69 #[.agg #[.bool a.1, .int .i64 a.2]] _ _); refine (Ra.out _).mono ?_; rintro e Wa ⟨rfl, hba⟩; have hxa := Aside0.mk ((hba.block _ (blk_lt hx0.out)).trans hx0.out); obtain ⟨e0, e1, e2, e3, e4, e5, e6, e7⟩ := box8 hxa.out; have hBa := Aside0.mk (hB0.out.trans (hba.mono hB0.out.size)); clear hba) | (go_at_call 69; (with_reducible show Calls Tryz.prog 69 #[.agg #[.bool b.1, .int .i64 b.2]] _ _); refine (Rb.out _).mono ?_; rintro e Wb ⟨rfl, hbb⟩; have hxb := Aside0.mk ((hbb.block _ (blk_lt hxa.out)).trans hxa.out); obtain ⟨e0, e1, e2, e3, e4, e5, e6, e7⟩ := box8 hxb.out; have hBb := Aside0.mk (hBa.out.trans (hbb.mono hBa.out.size)); clear hbb) | (go_at_call 69; (with_reducible show Calls Tryz.prog 69 #[.agg #[.bool c.1, .int .i64 c.2]] _ _); refine (Rc.out _).mono ?_; rintro e Wc ⟨rfl, hbc⟩; have hxc := Aside0.mk ((hbc.block _ (blk_lt hxb.out)).trans hxb.out); obtain ⟨e0, e1, e2, e3, e4, e5, e6, e7⟩ := box8 hxc.out; have hBc := Aside0.mk (hBb.out.trans (hbc.mono hBb.out.size)); clear hbc))
          all_goals first | (exfalso; omega) | skip
          go_ret
          exact ⟨rfl, hBc.out⟩
      · cases ra
        · simp only [Bool.false_and, Bool.false_eq_true, if_false]
          go_enter Tryz.func50, Tryz.ntmps50
          go_wp2_with (first | (go_at_call 69; (with_reducible show Calls Tryz.prog 69 #[.agg #[.bool a.1, .int .i64 a.2]] _ _); refine (Ra.out _).mono ?_; rintro e Wa ⟨rfl, hba⟩; have hxa := Aside0.mk ((hba.block _ (blk_lt hx0.out)).trans hx0.out); obtain ⟨e0, e1, e2, e3, e4, e5, e6, e7⟩ := box8 hxa.out; have hBa := Aside0.mk (hB0.out.trans (hba.mono hB0.out.size)); clear hba) | (go_at_call 69; (with_reducible show Calls Tryz.prog 69 #[.agg #[.bool b.1, .int .i64 b.2]] _ _); refine (Rb.out _).mono ?_; rintro e Wb ⟨rfl, hbb⟩; have hxb := Aside0.mk ((hbb.block _ (blk_lt hxa.out)).trans hxa.out); obtain ⟨e0, e1, e2, e3, e4, e5, e6, e7⟩ := box8 hxb.out; have hBb := Aside0.mk (hBa.out.trans (hbb.mono hBa.out.size)); clear hbb) | (go_at_call 69; (with_reducible show Calls Tryz.prog 69 #[.agg #[.bool c.1, .int .i64 c.2]] _ _); refine (Rc.out _).mono ?_; rintro e Wc ⟨rfl, hbc⟩; have hxc := Aside0.mk ((hbc.block _ (blk_lt hxb.out)).trans hxb.out); obtain ⟨e0, e1, e2, e3, e4, e5, e6, e7⟩ := box8 hxc.out; have hBc := Aside0.mk (hBb.out.trans (hbc.mono hBb.out.size)); clear hbc))
          all_goals first | (exfalso; omega) | skip
          go_ret
          exact ⟨rfl, hBa.out⟩
        cases rb
        · simp only [Bool.and_false, Bool.false_and, Bool.false_eq_true, if_false]
          go_enter Tryz.func50, Tryz.ntmps50
          go_wp2_with (first | (go_at_call 69; (with_reducible show Calls Tryz.prog 69 #[.agg #[.bool a.1, .int .i64 a.2]] _ _); refine (Ra.out _).mono ?_; rintro e Wa ⟨rfl, hba⟩; have hxa := Aside0.mk ((hba.block _ (blk_lt hx0.out)).trans hx0.out); obtain ⟨e0, e1, e2, e3, e4, e5, e6, e7⟩ := box8 hxa.out; have hBa := Aside0.mk (hB0.out.trans (hba.mono hB0.out.size)); clear hba) | (go_at_call 69; (with_reducible show Calls Tryz.prog 69 #[.agg #[.bool b.1, .int .i64 b.2]] _ _); refine (Rb.out _).mono ?_; rintro e Wb ⟨rfl, hbb⟩; have hxb := Aside0.mk ((hbb.block _ (blk_lt hxa.out)).trans hxa.out); obtain ⟨e0, e1, e2, e3, e4, e5, e6, e7⟩ := box8 hxb.out; have hBb := Aside0.mk (hBa.out.trans (hbb.mono hBa.out.size)); clear hbb) | (go_at_call 69; (with_reducible show Calls Tryz.prog 69 #[.agg #[.bool c.1, .int .i64 c.2]] _ _); refine (Rc.out _).mono ?_; rintro e Wc ⟨rfl, hbc⟩; have hxc := Aside0.mk ((hbc.block _ (blk_lt hxb.out)).trans hxb.out); obtain ⟨e0, e1, e2, e3, e4, e5, e6, e7⟩ := box8 hxc.out; have hBc := Aside0.mk (hBb.out.trans (hbc.mono hBb.out.size)); clear hbc))
          all_goals first | (exfalso; omega) | skip
          go_ret
          exact ⟨rfl, hBb.out⟩
        cases rc
        · simp only [Bool.and_false, Bool.false_eq_true, if_false]
          go_enter Tryz.func50, Tryz.ntmps50
          go_wp2_with (first | (go_at_call 69; (with_reducible show Calls Tryz.prog 69 #[.agg #[.bool a.1, .int .i64 a.2]] _ _); refine (Ra.out _).mono ?_; rintro e Wa ⟨rfl, hba⟩; have hxa := Aside0.mk ((hba.block _ (blk_lt hx0.out)).trans hx0.out); obtain ⟨e0, e1, e2, e3, e4, e5, e6, e7⟩ := box8 hxa.out; have hBa := Aside0.mk (hB0.out.trans (hba.mono hB0.out.size)); clear hba) | (go_at_call 69; (with_reducible show Calls Tryz.prog 69 #[.agg #[.bool b.1, .int .i64 b.2]] _ _); refine (Rb.out _).mono ?_; rintro e Wb ⟨rfl, hbb⟩; have hxb := Aside0.mk ((hbb.block _ (blk_lt hxa.out)).trans hxa.out); obtain ⟨e0, e1, e2, e3, e4, e5, e6, e7⟩ := box8 hxb.out; have hBb := Aside0.mk (hBa.out.trans (hbb.mono hBa.out.size)); clear hbb) | (go_at_call 69; (with_reducible show Calls Tryz.prog 69 #[.agg #[.bool c.1, .int .i64 c.2]] _ _); refine (Rc.out _).mono ?_; rintro e Wc ⟨rfl, hbc⟩; have hxc := Aside0.mk ((hbc.block _ (blk_lt hxb.out)).trans hxb.out); obtain ⟨e0, e1, e2, e3, e4, e5, e6, e7⟩ := box8 hxc.out; have hBc := Aside0.mk (hBb.out.trans (hbc.mono hBb.out.size)); clear hbc))
          all_goals first | (exfalso; omega) | skip
          go_ret
          exact ⟨rfl, hBc.out⟩
        simp only [Bool.and_self, if_true]
        cases subs with
        | nil =>
          simp only [List.isEmpty_nil, if_true]
          go_enter Tryz.func50, Tryz.ntmps50
          go_wp2_with (first | (go_at_call 69; (with_reducible show Calls Tryz.prog 69 #[.agg #[.bool a.1, .int .i64 a.2]] _ _); refine (Ra.out _).mono ?_; rintro e Wa ⟨rfl, hba⟩; have hxa := Aside0.mk ((hba.block _ (blk_lt hx0.out)).trans hx0.out); obtain ⟨e0, e1, e2, e3, e4, e5, e6, e7⟩ := box8 hxa.out; have hBa := Aside0.mk (hB0.out.trans (hba.mono hB0.out.size)); clear hba) | (go_at_call 69; (with_reducible show Calls Tryz.prog 69 #[.agg #[.bool b.1, .int .i64 b.2]] _ _); refine (Rb.out _).mono ?_; rintro e Wb ⟨rfl, hbb⟩; have hxb := Aside0.mk ((hbb.block _ (blk_lt hxa.out)).trans hxa.out); obtain ⟨e0, e1, e2, e3, e4, e5, e6, e7⟩ := box8 hxb.out; have hBb := Aside0.mk (hBa.out.trans (hbb.mono hBa.out.size)); clear hbb) | (go_at_call 69; (with_reducible show Calls Tryz.prog 69 #[.agg #[.bool c.1, .int .i64 c.2]] _ _); refine (Rc.out _).mono ?_; rintro e Wc ⟨rfl, hbc⟩; have hxc := Aside0.mk ((hbc.block _ (blk_lt hxb.out)).trans hxb.out); obtain ⟨e0, e1, e2, e3, e4, e5, e6, e7⟩ := box8 hxc.out; have hBc := Aside0.mk (hBb.out.trans (hbc.mono hBb.out.size)); clear hbc))
          all_goals first | (exfalso; omega) | skip
          go_ret
          exact ⟨rfl, hBc.out⟩
        | cons u l =>
          simp only [List.isEmpty_cons, Bool.false_eq_true, if_false]
          have hpos : (0 : Int) < ((u :: l).length : Int) := by simp
          go_enter Tryz.func50, Tryz.ntmps50
          go_wp2_with (first | (go_at_call 69; (with_reducible show Calls Tryz.prog 69 #[.agg #[.bool a.1, .int .i64 a.2]] _ _); refine (Ra.out _).mono ?_; rintro e Wa ⟨rfl, hba⟩; have hxa := Aside0.mk ((hba.block _ (blk_lt hx0.out)).trans hx0.out); obtain ⟨e0, e1, e2, e3, e4, e5, e6, e7⟩ := box8 hxa.out; have hBa := Aside0.mk (hB0.out.trans (hba.mono hB0.out.size)); clear hba) | (go_at_call 69; (with_reducible show Calls Tryz.prog 69 #[.agg #[.bool b.1, .int .i64 b.2]] _ _); refine (Rb.out _).mono ?_; rintro e Wb ⟨rfl, hbb⟩; have hxb := Aside0.mk ((hbb.block _ (blk_lt hxa.out)).trans hxa.out); obtain ⟨e0, e1, e2, e3, e4, e5, e6, e7⟩ := box8 hxb.out; have hBb := Aside0.mk (hBa.out.trans (hbb.mono hBa.out.size)); clear hbb) | (go_at_call 69; (with_reducible show Calls Tryz.prog 69 #[.agg #[.bool c.1, .int .i64 c.2]] _ _); refine (Rc.out _).mono ?_; rintro e Wc ⟨rfl, hbc⟩; have hxc := Aside0.mk ((hbc.block _ (blk_lt hxb.out)).trans hxb.out); obtain ⟨e0, e1, e2, e3, e4, e5, e6, e7⟩ := box8 hxc.out; have hBc := Aside0.mk (hBb.out.trans (hbc.mono hBb.out.size)); clear hbc))
          all_goals first | (exfalso; omega) | skip
          go_ret
          exact ⟨rfl, hBc.out⟩
    · have e : cchk d (.mk k a b c subs) = 3 := by unfold cchk; rw [if_neg hd, if_pos (by omega)]
      rw [e]
      have hk1 : k ≠ 1 := fun e => hk (.inl e)
      have hk2 : k ≠ 2 := fun e => hk (.inr e)
      have q1 : (k != 1) = true := bne_iff_ne.2 hk1
      have q2 : (k != 2) = true := bne_iff_ne.2 hk2
      have q3 : (k == 3) = false := by rw [beq_eq_false_iff_ne]; exact h3
      clear e hk
      go_enter Tryz.func50, Tryz.ntmps50
      go_wp2
      all_goals first | (exfalso; omega) | skip
      go_ret
      exact ⟨rfl, hB0.out⟩
end Go.Proofs.YtkbkkceeolclmaaGreatDoor.X
