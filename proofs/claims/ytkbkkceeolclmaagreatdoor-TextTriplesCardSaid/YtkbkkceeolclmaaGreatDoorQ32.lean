/- A triple's text. A triple's text, read again. -/
import Derived.Test.YtkbkkceeolclmaaGreatDoorQ31
import Derived.Test.YtkbkkceeolclmaaGreatDoorQ30
set_option linter.unusedVariables false
set_option linter.unusedSimpArgs false
namespace Go.TX
def okI (n : Int) : Bool := decide (1 ≤ n) && decide (n ≤ 4096)
def tripR (a b c : Int) : Bool := okI a && okI b && okI c
/-- A triple's text, the error's number. -/
def t3text (ns : List (List UInt8)) (a b c : Int) : List UInt8 × Int :=
  if tripR a b c = false then ([], 4) else match twords ns [(false, a), (false, b), (false, c)] with
    | some l => (join l, 0)
    | none => ([], 16)
theorem twords_none {ns : List (List UInt8)} {a b c t : Tm} {q : Nat} (hq : [a, b, c][q]? = some t) (h : tword ns t = none) : twords ns [a, b, c] = none := by
  match q, hq with
  | 0, hq => cases hq; simp [twords, h]
  | 1, hq =>
    cases hq
    simp only [twords, h]
    split <;> simp_all
  | 2, hq =>
    cases hq
    simp only [twords, h]
    split <;> simp_all
theorem twords3 {ns : List (List UInt8)} {a b c : Tm} {l : List (List UInt8)} (h : twords ns [a, b, c] = some l) : ∃ x y z, l = [x, y, z] ∧ tword ns a = some x ∧ tword ns b = some y ∧ tword ns c = some z := by
  cases ha : tword ns a with
  | none => simp [twords, ha] at h
  | some x =>
    cases hb : tword ns b with
    | none => simp [twords, ha, hb] at h
    | some y =>
      cases hc : tword ns c with
      | none => simp [twords, ha, hb, hc] at h
      | some z =>
        simp [twords, ha, hb, hc] at h
        exact ⟨x, y, z, h.symm, rfl, rfl, rfl⟩
theorem tword_mem {ns : List (List UInt8)} {n : Int} {x : List UInt8} (h : tword ns (false, n) = some x) : x ∈ ns ∧ 1 ≤ n ∧ n ≤ ns.length ∧ ns[(n - 1).toNat]? = some x := by
  unfold tword at h
  simp only [Bool.false_eq_true, if_false] at h
  split at h
  · rename_i hn
    exact ⟨List.mem_of_getElem? h, hn.1, hn.2, h⟩
  · cases h
theorem tripR_get {a b c n : Int} {q : Nat} (h : tripR a b c = true) (hq : [a, b, c][q]? = some n) : 1 ≤ n ∧ n ≤ 4096 := by
  unfold tripR okI at h
  simp only [Bool.and_eq_true, decide_eq_true_eq] at h
  match q, hq with
  | 0, hq => cases hq; exact h.1.1
  | 1, hq => cases hq; exact h.1.2
  | 2, hq => cases hq; exact h.2
theorem tripR_not {a b c n : Int} {q : Nat} (hq : [a, b, c][q]? = some n) (h : okI n = false) : tripR a b c = false := by
  unfold tripR
  match q, hq with
  | 0, hq => cases hq; simp [h]
  | 1, hq => cases hq; simp [h]
  | 2, hq => cases hq; simp [h]
end Go.TX
namespace Go.Proofs.YtkbkkceeolclmaaGreatDoor.X
open Go.RowKit Go.TX Go.Proofs.YtkbkkceeolclmaaGreatDoorW.PrintWords Go.Proofs.YtkbkkceeolclmaaGreatDoorL
theorem i560 (a b c : Int) (w : World) : (Instr.index 56 (.agg #[.int .i64 a, .int .i64 b, .int .i64 c]) (.int .i64 0)).run Tryz.prog w = .ok (.int .i64 a) w := by kernel_rfl
theorem i561 (a b c : Int) (w : World) : (Instr.index 56 (.agg #[.int .i64 a, .int .i64 b, .int .i64 c]) (.int .i64 1)).run Tryz.prog w = .ok (.int .i64 b) w := by kernel_rfl
theorem i562 (a b c : Int) (w : World) : (Instr.index 56 (.agg #[.int .i64 a, .int .i64 b, .int .i64 c]) (.int .i64 2)).run Tryz.prog w = .ok (.int .i64 c) w := by kernel_rfl
theorem i56q (a b c : Int) (q : Nat) (hq : q < 3) : ∃ n, [a, b, c][q]? = some n ∧ (∀ w, (Instr.index 56 (.agg #[.int .i64 a, .int .i64 b, .int .i64 c]) (.int .i64 (q : Int))).run Tryz.prog w = .ok (.int .i64 n) w) := by
  match q, hq with
  | 0, _ => exact ⟨a, rfl, fun w => i560 _ _ _ w⟩
  | 1, _ => exact ⟨b, rfl, fun w => i561 _ _ _ w⟩
  | 2, _ => exact ⟨c, rfl, fun w => i562 _ _ _ w⟩
set_option maxRecDepth 100000 in
set_option maxHeartbeats 1000000 in
theorem right46 (a b c : Int) (w : World) : Calls Tryz.prog 46 #[.agg #[.int .i64 a, .int .i64 b, .int .i64 c]] w fun e W => e = .returned (.bool (tripR a b c)) ∧ Below w.heap.size w W := by
  have hB0 := Aside0.mk ((Below.refl w.heap.size w).alloc (Nat.le_refl _) (.cells #[.int .i64 a, .int .i64 b, .int .i64 c] 56))
  have hx0 := blk_new w (.cells #[.int .i64 a, .int .i64 b, .int .i64 c] 56)
  have e0 := (blk_cell hx0 0).trans (show _ = some (Value.int .i64 a) from rfl)
  have e1 := (blk_cell hx0 1).trans (show _ = some (Value.int .i64 b) from rfl)
  have e2 := (blk_cell hx0 2).trans (show _ = some (Value.int .i64 c) from rfl)
  obtain ⟨r, hr⟩ : ∃ r, tripR a b c = r := ⟨_, rfl⟩
  rw [hr]
  replace hr := Aside0.mk hr
  clear hx0
  go_enter Tryz.func46, Tryz.ntmps46
  go_upto_region 2 with fail
  generalize w.alloc (.cells #[.int .i64 a, .int .i64 b, .int .i64 c] 56) = W0 at hB0 e0 e1 e2 ⊢
  go_loopw [6] (fun i wr => ∃ q : Nat, i = .int .i64 q ∧ q ≤ 3 ∧ W0 = wr ∧ ∀ (j : Nat) (n : Int), j < q → [a, b, c][j]? = some n → okI n = true) (fun i _ => 3 - (intOf i).toNat)
  case atStart => exact ⟨0, rfl, Nat.zero_le _, rfl, fun j n h => absurd h (Nat.not_lt_zero _)⟩
  case round =>
    obtain ⟨q, rfl, hq, rfl, hall⟩ := hrel
    replace hall := Aside0.mk hall
    clear e0 e1 e2
    by_cases hlt : q < 3
    · obtain ⟨n, hqn, hix⟩ := i56q a b c q hlt
      replace hqn := Aside0.mk hqn
      by_cases h1 : n < 1
      · obtain rfl : r = false := hr.out.symm.trans (tripR_not hqn.out (by unfold okI; rw [decide_eq_false (by omega)]; rfl))
        go_wp2
        go_ret
        exact ⟨rfl, hB0.out⟩
      · by_cases h2 : n > 4096
        · obtain rfl : r = false := hr.out.symm.trans (tripR_not hqn.out (by unfold okI; rw [decide_eq_false (show ¬ n ≤ 4096 by omega), Bool.and_false]))
          go_wp2
          go_ret
          exact ⟨rfl, hB0.out⟩
        · go_wp2
          go_roundw
          case rel => exact ⟨q + 1, by go_num, by omega, by first | rfl | trivial, fun j m hj hm => by
            by_cases e : j = q
            · subst e
              rw [hqn.out] at hm
              cases hm
              unfold okI
              rw [decide_eq_true (by omega), decide_eq_true (by omega)]
              rfl
            · exact hall.out j m (by omega) hm⟩
          case measure => simp [intOf]; omega
    · obtain rfl : q = 3 := by omega
      obtain rfl : r = true := hr.out.symm.trans (by unfold tripR; rw [hall.out 0 a (by omega) rfl, hall.out 1 b (by omega) rfl, hall.out 2 c (by omega) rfl]; rfl)
      go_wp2
      go_ret
      exact ⟨rfl, hB0.out⟩
end Go.Proofs.YtkbkkceeolclmaaGreatDoor.X
namespace Go.Proofs.YtkbkkceeolclmaaGreatDoor.X
open Go.RowKit Go.TX Go.Proofs.YtkbkkceeolclmaaGreatDoorW.PrintWords Go.Proofs.YtkbkkceeolclmaaGreatDoorL
set_option maxRecDepth 100000 in
set_option maxHeartbeats 4000000 in
theorem t3_walk {F : Nat → Prop} {tb : Nat} {ns : List (List UInt8)} (hN : ∀ s ∈ ns, s.length ≤ 32) (hlen : ns.length ≤ 1000000) (a b c : Int) (w : World) (hT : Tb w F tb ns) :
    Calls Tryz.prog 24 #[.agg #[.int .i64 a, .int .i64 b, .int .i64 c], .pointer (some ⟨tb, 0, none⟩)] w fun e W => e = .returned (.tuple #[.string (str (t3text ns a b c).1), .int .i64 (t3text ns a b c).2]) ∧ Below w.heap.size w W := by
  obtain ⟨i0, hi, hz0, hz1, hz2⟩ := info_parts info9
  replace hi := Aside0.mk hi
  replace hz0 := Aside0.mk hz0
  replace hz1 := Aside0.mk hz1
  replace hz2 := Aside0.mk hz2
  have hmax : 1000000 ≤ maxLen := by decide
  have hB0 := Aside0.mk ((Below.refl w.heap.size w).alloc (Nat.le_refl _) (.cells #[.int .i64 a, .int .i64 b, .int .i64 c] 56))
  have hx0 := Aside0.mk (blk_new w (.cells #[.int .i64 a, .int .i64 b, .int .i64 c] 56))
  have hrt := Aside0.mk (right46 a b c (w.alloc (.cells #[.int .i64 a, .int .i64 b, .int .i64 c] 56)))
  obtain ⟨r, hr⟩ : ∃ r, t3text ns a b c = r := ⟨_, rfl⟩
  rw [hr]
  unfold t3text at hr
  replace hT := Aside0.mk hT
  cases hok : tripR a b c with
  | false =>
    rw [if_pos hok] at hr
    subst hr
    rw [hok] at hrt
    have e0 := (blk_cell hx0.out 0).trans (show _ = some (Value.int .i64 a) from rfl)
    have e1 := (blk_cell hx0.out 1).trans (show _ = some (Value.int .i64 b) from rfl)
    have e2 := (blk_cell hx0.out 2).trans (show _ = some (Value.int .i64 c) from rfl)
    clear hok
    go_enter Tryz.func24, Tryz.ntmps24
    go_wp2_with (go_at_call 46; refine hrt.out.mono ?_; rintro e w1 ⟨rfl, hb1⟩; replace hb1 := Aside0.mk hb1)
    go_ret2
    exact ⟨rfl, hB0.out.trans (hb1.out.mono hB0.out.size)⟩
  | true =>
    rw [if_neg (by rw [hok]; simp)] at hr
    rw [hok] at hrt
    have hget := Aside0.mk (fun q n (h : [a, b, c][q]? = some n) => tripR_get hok h)
    clear hok
    replace hr := Aside0.mk hr
    have e0 := (blk_cell hx0.out 0).trans (show _ = some (Value.int .i64 a) from rfl)
    have e1 := (blk_cell hx0.out 1).trans (show _ = some (Value.int .i64 b) from rfl)
    have e2 := (blk_cell hx0.out 2).trans (show _ = some (Value.int .i64 c) from rfl)
    go_enter Tryz.func24, Tryz.ntmps24
    go_upto_region 3 with (go_at_call 46; refine hrt.out.mono ?_; rintro e w1 ⟨rfl, hb1⟩; have hx1 := (hb1.block _ (blk_lt hx0.out)).trans hx0.out; have d0 := (blk_cell hx1 0).trans (show _ = some (Value.int .i64 a) from rfl); have d1 := (blk_cell hx1 1).trans (show _ = some (Value.int .i64 b) from rfl); have d2 := (blk_cell hx1 2).trans (show _ = some (Value.int .i64 c) from rfl); replace hb1 := Aside0.mk hb1; clear hx1)
    have hB1 := Aside0.mk (hB0.out.trans (hb1.out.mono hB0.out.size))
    clear e0 e1 e2 hb1 hrt hx0 hB0
    go_upto_region 5 with fail
    clear d0 d1 d2
    go_loopw [15, 6] (fun i V wr => ∃ (q : Nat) (l : List (List UInt8)), i = .int .i64 q ∧ q ≤ 3 ∧ Below w.heap.size w wr ∧ twords ns (([(false, a), (false, b), (false, c)] : List Tm).take q) = some l ∧ wr.ownsRow w.heap.size 9 1 V q (cellsN l)) (fun i _ _ => 3 - (intOf i).toNat)
    case atStart => exact ⟨0, [], rfl, Nat.zero_le _, hB1.out, rfl, World.ownsRow_nil _ _ _ _⟩
    case round =>
      obtain ⟨q, l, rfl, hq, hBw, htw, hown⟩ := hrel
      clear hB1
      clear w1
      obtain ⟨A', cp, rfl⟩ := owns_form hown
      by_cases hlt : q < 3
      · obtain ⟨n, hqn, hix⟩ := i56q a b c q hlt
        have hn := hget.out q n hqn
        have hqt : Aside0 (([(false, a), (false, b), (false, c)] : List Tm)[q]? = some (false, n)) := ⟨by
          match q, hlt, hqn with
          | 0, _, hqn => cases hqn; rfl
          | 1, _, hqn => cases hqn; rfl
          | 2, _, hqn => cases hqn; rfl⟩
        have hcall := Aside0.mk (name_walk (hT.out.below hBw) n hlen (by omega) (by omega))
        rw [← tword_sym] at hcall
        have hoW := Aside0.mk hown
        have hBW := Aside0.mk hBw
        replace htw := Aside0.mk htw
        clear hown hBw hqn
        cases hcw : tword ns (false, n) with
        | none =>
          have hno := twords_none hqt.out hcw
          obtain rfl : r = ([], 16) := by rw [← hr.out, hno]
          rw [hcw] at hcall
          clear hcw hno
          go_wp2_with (go_at_call 39; refine hcall.out.mono ?_; rintro e w2 ⟨rfl, rfl⟩)
          go_ret2
          exact ⟨rfl, hBW.out⟩
        | some x =>
          have htk : Aside0 (twords ns (([(false, a), (false, b), (false, c)] : List Tm).take (q + 1)) = some (l ++ [x])) := ⟨by
            have hq3 : q < ([(false, a), (false, b), (false, c)] : List Tm).length := hlt
            have e : ([(false, a), (false, b), (false, c)] : List Tm)[q] = (false, n) := by
              have := hqt.out
              rw [List.getElem?_eq_getElem hq3] at this
              exact Option.some.inj this
            rw [List.take_succ_eq_append_getElem hq3, e]
            exact twords_snoc hcw htw.out⟩
          rw [hcw] at hcall
          simp only [Option.getD_some, Option.isSome_some] at hcall
          replace hcw := Aside0.mk hcw
          have hj1 : q + 1 ≤ maxLen := by omega
          have hj2 : (q + 1) * 16 ≤ 140737488355328 := by omega
          have hA2 := (Below.refl wr.heap.size wr).alloc (Nat.le_refl _) (.cells #[.string (str x)] 9)
          have ho2 := Aside0.mk (owns_below hoW.out hA2)
          have hn2 := Aside0.mk (blk_new wr (.cells #[.string (str x)] 9))
          have hb2 := Aside0.mk (hBW.out.trans (hA2.mono hBW.out.size))
          clear hA2
          go_wp2_with (first | (go_at_call 39; refine hcall.out.mono ?_; rintro e w2 ⟨rfl, rfl⟩) | (at_builtin; refine wpList_append_own2 rfl _ _ 22 rfl w.heap.size 9 i0 (.string ⟨#[]⟩) 1 16 Tryz.underlying22 hi.out hz0.out hz1.out hz2.out rfl (by decide) _ q (cellsN l) rfl ho2.out ⟨_, 0, none⟩ 1 1 [.string (str x)] rfl (by decide) rfl (cells_at hn2.out) (by simp [Value.oneCell']) hj1 hj2 hb2.out.size ?_; intro v4 w4 ho4 hg4 hf4; replace ho4 := Aside0.mk ho4; replace hg4 := Aside0.mk hg4; clear hf4))
          go_roundw
          case rel => exact ⟨q + 1, l ++ [x], by go_num, by omega, hb2.out.grown hg4.out hb2.out.size (fun b hb => (owner_lt ho2.out hb).1), htk.out, by simpa [cellsN] using ho4.out⟩
          case measure => simp [intOf]; omega
      · obtain rfl : q = 3 := by omega
        have htw : twords ns [(false, a), (false, b), (false, c)] = some l := htw
        obtain rfl : r = (join l, 0) := by rw [← hr.out, htw]
        have hl3 : l.length = 3 := by
          have := hown.1
          rw [cellsN_len] at this
          omega
        have hjl : (join l).length ≤ 1000 := by
          obtain ⟨x, y, z, rfl, hx, hy, hz⟩ := twords3 htw
          have h1 := hN x (tword_mem hx).1
          have h2 := hN y (tword_mem hy).1
          have h3 := hN z (tword_mem hz).1
          rw [join_cons]
          simp
          omega
        have hcall := Aside0.mk (join_any l (by rw [hl3]; exact hown) (by omega) (by omega))
        replace hBw := Aside0.mk hBw
        replace hown := Aside0.mk hown
        clear htw
        go_wp2_with (go_at_call 47; refine hcall.out.mono ?_; rintro e w2 ⟨rfl, hb⟩; replace hb := Aside0.mk hb)
        go_ret2
        exact ⟨rfl, hBw.out.trans (hb.out.mono hBw.out.size)⟩
end Go.Proofs.YtkbkkceeolclmaaGreatDoor.X
namespace Go.TX
theorem tword_of {ns : List (List UInt8)} {n : Int} (h1 : 1 ≤ n) (h2 : n ≤ ns.length) : ∃ x, tword ns (false, n) = some x := by
  unfold tword
  simp only [Bool.false_eq_true, if_false]
  rw [if_pos ⟨h1, h2⟩, List.getElem?_eq_getElem (by omega)]
  exact ⟨_, rfl⟩
theorem tword_no {ns : List (List UInt8)} {n : Int} (h : (ns.length : Int) < n) : tword ns (false, n) = none := by
  unfold tword
  simp only [Bool.false_eq_true, if_false]
  rw [if_neg (by omega)]
theorem t3_none {ns : List (List UInt8)} {a b c : Int} (h : tripR a b c = true) (hm : (ns.length : Int) < a ∨ (ns.length : Int) < b ∨ (ns.length : Int) < c) : t3text ns a b c = ([], 16) := by
  unfold t3text
  rw [if_neg (by rw [h]; simp)]
  have : twords ns [(false, a), (false, b), (false, c)] = none := by
    rcases hm with h | h | h
    · exact twords_none (q := 0) rfl (tword_no h)
    · exact twords_none (q := 1) rfl (tword_no h)
    · exact twords_none (q := 2) rfl (tword_no h)
  rw [this]
theorem t3_some {ns : List (List UInt8)} {a b c : Int} (h : tripR a b c = true) (ha : a ≤ ns.length) (hb : b ≤ ns.length) (hc : c ≤ ns.length) :
    ∃ x y z, t3text ns a b c = (join [x, y, z], 0) ∧ tword ns (false, a) = some x ∧ tword ns (false, b) = some y ∧ tword ns (false, c) = some z := by
  have g0 := tripR_get (q := 0) h rfl
  have g1 := tripR_get (q := 1) h rfl
  have g2 := tripR_get (q := 2) h rfl
  obtain ⟨x, hx⟩ := tword_of g0.1 ha
  obtain ⟨y, hy⟩ := tword_of g1.1 hb
  obtain ⟨z, hz⟩ := tword_of g2.1 hc
  refine ⟨x, y, z, ?_, hx, hy, hz⟩
  unfold t3text
  rw [if_neg (by rw [h]; simp)]
  simp [twords, hx, hy, hz]
theorem find_of {ns : List (List UInt8)} (hN : Names ns) {n : Int} {x : List UInt8} (h : tword ns (false, n) = some x) : addN ns x = ns ∧ ((findN ns x : Nat) : Int) = n ∧ rn x = true := by
  obtain ⟨hm, h1, h2, hg⟩ := tword_mem h
  refine ⟨addN_old hm, ?_, hN.2 x hm⟩
  obtain ⟨hlt, he⟩ := List.getElem?_eq_some_iff.1 hg
  unfold findN
  rw [if_pos hm, ← he, hN.1.idxOf_getElem]
  omega
theorem tparse_back {ns : List (List UInt8)} (hN : Names ns) (hl : ns.length ≤ 4096) {a b c : Int} {x y z : List UInt8} (hx : tword ns (false, a) = some x) (hy : tword ns (false, b) = some y) (hz : tword ns (false, c) = some z) : tparse ns (join [x, y, z]) = ((a, b, c), ns, 0) := by
  have w : words (join [x, y, z]) = [x, y, z] := words_join [y, z] x (fun q hq => by
    simp at hq
    rcases hq with rfl | rfl | rfl
    · exact tword_blank hN hx
    · exact tword_blank hN hy
    · exact tword_blank hN hz)
  obtain ⟨x1, x2, x3⟩ := find_of hN hx
  obtain ⟨y1, y2, y3⟩ := find_of hN hy
  obtain ⟨z1, z2, z3⟩ := find_of hN hz
  rw [tparse_three w]
  unfold tpar3 n3 v0 v1 v2 n1 n2 n3
  rw [x1, y1, z1, x2, y2, z2, x3, y3, z3, if_neg (by simp), if_neg (by omega)]
/-- No more names come than words. -/
theorem tparse_names {ns : List (List UInt8)} (hN : Names ns) (s : List UInt8) : Names (tparse ns s).2.1 ∧ (tparse ns s).2.1.length ≤ ns.length + 3 := by
  unfold tparse
  split
  · rename_i x y z e
    unfold tpar3
    split
    · exact ⟨hN, by simp⟩
    · rename_i h1
      split
      · exact ⟨hN, by simp⟩
      · have hr : rn x = true ∧ rn y = true ∧ rn z = true := by
          simp only [Bool.not_eq_false, Bool.and_eq_true] at h1
          exact ⟨h1.1.1, h1.1.2, h1.2⟩
        have := St.names (ns := ns) (x := x) (y := y) (z := z) (q := 3) (now := n3 ns x y z) ⟨rfl, hr, rfl, rfl, rfl⟩ hN
        exact this
  · exact ⟨hN, by simp⟩
end Go.TX
