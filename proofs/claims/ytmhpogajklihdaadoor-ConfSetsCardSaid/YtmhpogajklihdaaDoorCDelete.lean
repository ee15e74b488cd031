/- The library's 'DeleteFunc' with the closure of 'without'. -/
import Derived.Test.YtmhpogajklihdaaDoorCIndex
namespace Go.Proofs.YtmhpogajklihdaaDoor.C
open Go.RowKit Go.Shelf Go.Lib Go.Sort Go.Proofs.YtmhpogajklihdaaDoorW.PrintWords

/-- What is left without those of L. -/
def away (L : List M) (l : List P) : List P := l.filter fun p => !hasM L (key p)
theorem away_step (L : List M) (l : List P) (q : Nat) (hq : q < l.length) : away L (l.take (q + 1)) = if hasM L (key l[q]) then away L (l.take q) else away L (l.take q) ++ [l[q]] := by
  unfold away
  rw [List.take_succ_eq_append_getElem hq, List.filter_append]
  split <;> rename_i h <;> simp [h]
theorem away_all (L : List M) (l : List P) (h : ∀ p ∈ l, hasM L (key p) = false) : away L l = l := by
  unfold away
  rw [List.filter_eq_self]
  intro p hp
  rw [h p hp]; rfl

section
variable {w0 w W : World} {v : Value} {L : List M} {l : List P} {c : Nat}

set_option maxHeartbeats 4000000 in
set_option maxRecDepth 100000 in
theorem delete_walk (h : Look w0 c L) (hw : Below w0.heap.size w0 w) (hO : Owns w w0.heap.size 24 v l) (hl : l.length ≤ 100000) : Calls Tryd.prog 49 #[v, .func (.func 50) #[] #[.pointer (some ⟨c, 0, none⟩)]] w fun e w' => ∃ r, e = .returned r ∧ Owns w' w0.heap.size 24 r (away L l) ∧ Below w0.heap.size w0 w' := by
  have hI := Aside.mk (index_walk (h.below hw) hO.reads)
  by_cases hn : 0 < l.length
  · obtain ⟨g, cap, rfl, hBg, hR⟩ := hO.row hn
    have hD : Ids w w0.heap.size l := hO.2
    clear hO
    have hgl := hR.lt
    have hcap : l.length ≤ cap ∧ cap ≤ maxLen := by obtain ⟨_, _, _, _, h⟩ := hR; exact h
    have hmax : maxLen ≤ 9223372036854775807 := by decide
    have hws := hw.size
    replace h := Aside.mk h
    replace hw := Aside.mk hw
    replace hR := Aside.mk hR
    replace hD := Aside.mk hD
    go_enter Tryd.func49, Tryd.ntmps49
    go_wp2_with fail
    go_at_call 67
    refine hI.out.mono ?_
    rintro e w1 ⟨⟨i, rfl, hi⟩, hG⟩
    have hR1 := hR.out.below hG.below
    have hD1 := hD.out.below hG.below
    have hB1 := hw.out.trans (hG.below.mono hws)
    clear hR hD hG hI hw
    replace hB1 := Aside.mk hB1
    rcases hi with ⟨rfl, hnone⟩ | ⟨j, hj, rfl, hhas, hbef⟩
    · have e := away_all L l (fun p hp => hnone (key p) (List.mem_map_of_mem hp))
      replace e := Aside.mk e
      clear hnone
      have hO := hR1.owns hBg (k := l.length) (Nat.le_refl _)
      rw [List.take_length] at hO
      replace hO := Aside.mk hO
      replace hD1 := Aside.mk hD1
      go_wp2_with fail
      go_ret
      refine ⟨_, rfl, ?_, hB1.out⟩
      rw [e.out]
      exact ⟨hO.out, hD1.out⟩
    · have hjl : j < l.length := by simpa using hj
      have e1 : away L (l.take (j + 1)) = l.take j := by
        rw [away_step L l j hjl, if_pos (by simpa using hhas)]
        apply away_all
        intro p hp
        obtain ⟨t, ht, rfl⟩ := List.getElem_of_mem hp
        have ht2 : t < j := by rw [List.length_take] at ht; omega
        have := hbef t (by simp; omega) ht2
        simpa using this
      clear hhas hbef
      replace e1 := Aside.mk e1
      replace hR1 := Aside.mk hR1
      replace hD1 := Aside.mk hD1
      have hne : ((j : Int) == -1) = false := by rw [beq_eq_false_iff_ne]; omega
      go_wp2_with fail
      go_loopw [6, 5] (fun a b wr => ∃ (q p : Nat) (m : List P), a = .int .i64 (q : Int) ∧ b = .int .i64 (p : Int) ∧ q ≤ l.length ∧ p < q ∧ RowAt wr g cap m ∧ m.length = l.length ∧ m.take p = away L (l.take q) ∧ (∀ i, p ≤ i → m[i]? = l[i]?) ∧ Ids wr w0.heap.size l ∧ Below w0.heap.size w0 wr) (fun a _ _ => l.length - (intOf a).toNat)
      case atStart => exact ⟨j + 1, j, l, by go_num, rfl, by omega, by omega, hR1.out, rfl, e1.out.symm, fun _ _ => rfl, hD1.out, hB1.out⟩
      case round =>
        clear hR1 hD1 hB1 e1
        obtain ⟨q, p, m, rfl, rfl, hq, hpq, hRm, hml, htk, hrest, hIm, hBm⟩ := hrel
        by_cases hqN : q < l.length
        · have hst := away_step L l q hqN
          have ma : m[q]'(by omega) = l[q] := by
            have := hrest q (by omega)
            rw [List.getElem?_eq_getElem (by omega), List.getElem?_eq_getElem hqN] at this
            exact Option.some.inj this
          have c0 := hRm.cell0 (j := q) (by omega)
          have c1 := hRm.cell1 (j := q) (by omega)
          rw [ma] at c0 c1
          have hidq := hIm _ (List.getElem_mem hqN)
          obtain ⟨U, ucap, eU⟩ := owns_form hidq
          rw [eU] at c1
          clear ma
          go_upto_region 8 with fail
          have hA : Gr wr (wr.alloc (.cells #[.string l[q].1, .slice U l[q].2.1.length ucap] 24)) := Gr.alloc _ _
          have p1 := blk_new wr #[.string l[q].1, .slice U l[q].2.1.length ucap] 24
          have hRW := hRm.below hA.below
          have hIW := hIm.below hA.below
          have hBW := hBm.trans (hA.below.mono hBm.size)
          generalize wr.alloc (.cells #[.string l[q].1, .slice U l[q].2.1.length ucap] 24) = W1 at p1 hRW hIW hBW ⊢
          clear c0 c1 hRm hIm hBm hA
          generalize wr.heap.size = n at p1 ⊢
          have hidW := (hIW _ (List.getElem_mem hqN)).at_
          rw [eU] at hidW
          have hC := Aside.mk (in_walk (h.out.below hBW) (key l[q]) hidW)
          have d0 := (blk_cell p1 0).trans rfl
          have d1 := (blk_cell p1 1).trans rfl
          generalize hp : hasM L (key l[q]) = b at hC
          rw [hp] at hst
          replace hp := Aside.mk hp
          replace eU := Aside.mk eU
          replace htk := Aside.mk htk
          replace hst := Aside.mk hst
          replace hrest := Aside.mk hrest
          replace hRW := Aside.mk hRW
          replace hIW := Aside.mk hIW
          replace hBW := Aside.mk hBW
          replace p1 := Aside.mk p1
          clear hidq hidW
          cases b
          · go_upto_region 8 with fail
            go_wp2_with (go_at_call 50; refine hC.out.mono ?_; rintro e w2 ⟨rfl, hG2⟩; have f0 := (hG2.below.cell (p := ⟨n, 0, none⟩) (blk_lt p1.out)).trans d0; have f1 := (hG2.below.cell (p := ⟨n, 1, none⟩) (blk_lt p1.out)).trans d1; have hR4 := hRW.out.below hG2.below; have hI4 := Aside.mk (hIW.out.below hG2.below); have hB4 := Aside.mk (hBW.out.trans (hG2.below.mono hBW.out.size)); have hfr := hR4.frozen; have hp4 : p < m.length := (by omega); have hp5 : p < l.length := (by omega); have hR5 := hR4.store hp4 l[q]; rw [eU.out] at hR5; have hx0 := hR4.cell0 hp4; have hx1 := hR4.cell1 hp4; replace hR4 := Aside.mk hR4; replace hR5 := Aside.mk hR5; replace hG2 := Aside.mk hG2)
            go_roundw
            case rel =>
              refine ⟨q + 1, p + 1, m.set p l[q], by go_num, by go_num, by omega, by omega, hR5.out, by rw [List.length_set]; exact hml, ?_, fun i hi => ?_, hI4.out.row hR4.out (fun b hb => (Below.heap_setCell _ _ _ _ hb).trans (Below.heap_setCell _ _ _ _ hb)), hB4.out.trans (((Below.refl _ w2).setCell hBg _).setCell hBg _)⟩
              · rw [hst.out, List.take_succ_eq_append_getElem (by rw [List.length_set]; exact hp4), List.getElem_set_self, List.take_set_of_le (Nat.le_refl _), htk.out]
                rfl
              · rw [List.getElem?_set_ne (by omega)]
                exact hrest.out i (by omega)
            case measure => simp [intOf]; omega
          · go_wp2_with (go_at_call 50; refine hC.out.mono ?_; rintro e w2 ⟨rfl, hG2⟩; replace hG2 := Aside.mk hG2)
            go_roundw
            case rel => exact ⟨q + 1, p, m, by go_num, rfl, by omega, by omega, hRW.out.below hG2.out.below, hml, by rw [hst.out, htk.out]; rfl, hrest.out, hIW.out.below hG2.out.below, hBW.out.trans (hG2.out.below.mono hBW.out.size)⟩
            case measure => simp [intOf]; omega
        · obtain rfl : q = l.length := by omega
          rw [List.take_length] at htk
          have hp3 : p ≤ l.length := by omega
          obtain ⟨w3, hrun, hR3, hk3, hB3⟩ := run_clear hRm p (l.length - p) (cap - p) (by omega)
          have hI3 := Aside.mk (hIm.row hRm hk3)
          replace hB3 := Aside.mk (hBm.trans (hB3 _ hBg))
          replace hR3 := Aside.mk hR3
          replace htk := Aside.mk htk
          clear hRm hIm hBm hrest hk3
          go_wp2_with fail
          go_ret
          refine ⟨_, rfl, ⟨?_, fun x hx => hI3.out x (List.mem_filter.1 hx).1⟩, hB3.out⟩
          have hlen : (away L l).length = p := by rw [← htk.out, List.length_take]; omega
          have h3 := hR3.out
          rw [htk.out] at h3
          have := h3.owns hBg (k := p) (by omega)
          rw [List.take_of_length_le (by omega)] at this
          rw [hlen]
          exact this
  · have hnil : l = [] := List.eq_nil_of_length_eq_zero (by omega)
    subst hnil
    obtain ⟨a, cp, rfl⟩ := owns_form hO.1
    replace hO := Aside.mk hO
    replace hw := Aside.mk hw
    go_enter Tryd.func49, Tryd.ntmps49
    go_wp2_with fail
    go_at_call 67
    refine hI.out.mono ?_
    rintro e w1 ⟨⟨i, rfl, hi⟩, hG⟩
    have e1 : i = -1 := by
      rcases hi with ⟨e, _⟩ | ⟨j, hj, _⟩
      · exact e
      · simp at hj
    subst e1
    replace hG := Aside.mk hG
    go_wp2_with fail
    go_ret
    exact ⟨_, rfl, hO.out.below hG.out.below, hw.out.trans (hG.out.below.mono hw.out.size)⟩
end
end Go.Proofs.YtmhpogajklihdaaDoor.C
