/- The law ConfCopies walked. -/
import Derived.Test.YtmhpogajklihdaaDoorCWipe
namespace Go.Proofs.YtmhpogajklihdaaDoor.C
open Go.RowKit Go.Shelf Go.Lib Go.Sort Go.Proofs.YtmhpogajklihdaaDoorW.PrintWords

theorem build24z (w : World) : (Instr.build 24 #[]).run Tryd.prog w = .ok (.agg #[.string ⟨#[]⟩, .slice none 0 0]) w := by kernel_rfl

section
variable {w : World} {v : Value} {L : List M}

set_option maxHeartbeats 4000000 in
set_option maxRecDepth 100000 in
theorem copies_walk (hL : Reads w v L) (hE : Tab w) : Calls Tryd.prog 4 #[v] w fun e w' => e = .returned (.bool true) ∧ Below w.heap.size w w' := by
  have hL0 := Aside.mk hL
  have hS := small_walk hL
  obtain ⟨A, cap, rfl, _, _⟩ := hL
  replace hE := Aside.mk hE
  cases hsm : smallB L with
  | false =>
    rw [hsm] at hS
    replace hS := Aside.mk hS
    go_enter Tryd.func4, Tryd.ntmps4
    go_wp2_with (first | (go_at_call 9; refine hS.out.mono ?_; rintro e w1 ⟨rfl, hG⟩; replace hG := Aside.mk hG) | (go_at_call 10; refine (awake_walk (hE.out.below hG.out.below)).mono ?_; rintro e w2 ⟨rfl, hb⟩; replace hb := Aside.mk hb))
    go_ret
    exact ⟨rfl, hG.out.below.trans (hb.out.mono hG.out.below.size)⟩
  | true =>
    rw [hsm] at hS
    have hfew := Aside.mk (small_few hsm)
    have hmx := (small_few hsm).1
    replace hS := Aside.mk hS
    go_enter Tryd.func4, Tryd.ntmps4
    go_wp2_with fail
    go_at_call 9
    refine hS.out.mono ?_
    rintro e w1 ⟨rfl, hG⟩
    have hB1 := hG.below
    clear hG
    have hF := Aside.mk (ref_walk (hL0.out.below hB1) hfew.out)
    have hs1 := hB1.size
    replace hB1 := Aside.mk hB1
    go_wp2_with fail
    go_at_call 11
    refine hF.out.mono ?_
    rintro e w2 ⟨rx, lx, rfl, hOx, hkx, hb2⟩
    have hB2 := hB1.out.trans (hb2.mono hs1)
    clear hF hB1 hb2 hs1
    obtain ⟨ax, cx, rfl⟩ := owns_form hOx.1
    have hX := hOx.reads
    rw [hkx] at hX
    replace hX := Aside.mk hX
    have hF := Aside.mk (copy_walk (hL0.out.below hB2) hfew.out)
    have hs2 := hB2.size
    replace hB2 := Aside.mk hB2
    clear hOx hkx
    go_wp2_with fail
    go_at_call 14
    refine hF.out.mono ?_
    rintro e w3 ⟨rc, lc, rfl, hOc, hkc, hb3⟩
    obtain ⟨ac, cc, rfl⟩ := owns_form hOc.1
    have hC := lsame_walk hOc.reads (by rw [hkc]; exact hfew.out) (hX.out.below hb3)
    rw [hkc, decide_eq_true rfl] at hC
    replace hC := Aside.mk hC
    have hlc := Aside.mk (show lc.length = L.length by rw [← hkc, List.length_map])
    have hs3 := hb3.size
    replace hOc := Aside.mk hOc
    replace hb3 := Aside.mk hb3
    clear hF hkc
    go_wp2_with fail
    go_at_call 15
    refine hC.out.mono ?_
    rintro e w4 ⟨rfl, hb4⟩
    have hB4 := Aside.mk (hb3.out.trans (hb4.mono hs3))
    have hW := Aside.mk (Wip.of (hOc.out.below hb4))
    clear hC hb4 hs3 hb3 hOc
    generalize lc.length = n at hlc hW ⊢
    have hnm : n ≤ 1000 := by have := hlc.out; omega
    go_wp2_with fail
    go_loopw [21] (fun a wr => ∃ i : Nat, a = .int .i64 (i : Int) ∧ i ≤ n ∧ Wip wr w2.heap.size ac cc n ∧ Below w2.heap.size w2 wr) (fun a _ => n - (intOf a).toNat)
    case atStart => exact ⟨0, rfl, Nat.zero_le _, hW.out, hB4.out⟩
    case round =>
      clear hW hB4
      obtain ⟨i, rfl, hi, hWp, hBr⟩ := hrel
      by_cases hlt : i < n
      · obtain ⟨g, m, rfl, hBg, hml, hRow, hInt⟩ := hWp (by omega)
        have k1 := hRow.cell1 (j := i) (by omega)
        obtain ⟨A', n', cap', eu, hn', _⟩ := hInt m[i] (List.getElem_mem (by omega))
        rw [eu] at k1
        replace hRow := Aside.mk hRow
        replace hInt := Aside.mk hInt
        replace hBr := Aside.mk hBr
        replace hml := Aside.mk hml
        replace eu := Aside.mk eu
        clear hWp
        go_wp2_with fail
        clear k1
        go_loopw [30] (fun a wx => ∃ k : Nat, a = .int .i64 (k : Int) ∧ k ≤ n' ∧ RowAt wx g cc m ∧ (∀ p ∈ m, IntRow wx w2.heap.size p.2.2) ∧ Below w2.heap.size w2 wx) (fun a _ => n' - (intOf a).toNat)
        case atStart => exact ⟨0, rfl, Nat.zero_le _, hRow.out, hInt.out, hBr.out⟩
        case round =>
          clear hRow hInt hBr
          obtain ⟨k, rfl, hk, hRow, hInt, hBr⟩ := hrel
          have hmi : i < m.length := by rw [hml.out]; exact hlt
          have k1 := hRow.cell1 hmi
          rw [eu.out] at k1
          by_cases hkn : k < n'
          · obtain ⟨A2, n2, cap2, e2, _, hcells⟩ := hInt m[i] (List.getElem_mem hmi)
            rw [eu.out] at e2
            cases e2
            obtain ⟨b, cur, z, rfl, hBb, hb, hc⟩ := hcells k hkn
            have f0 := (blk_cell hb k).trans hc
            have f1 := blk_frozen hb k
            have hne : g ≠ b := by
              rintro rfl
              obtain ⟨cur2, hg2, _⟩ := hRow
              rw [hg2] at hb
              cases hb
            have hRow2 := Aside.mk (hRow.move (Below.heap_setCell wr ⟨b, k, none⟩ (.int .i64 (-5)) g hne))
            have hInt2 : Aside (∀ p ∈ m, IntRow (wr.setCell ⟨b, k, none⟩ (.int .i64 (-5))) w2.heap.size p.2.2) := ⟨fun p hp => (hInt p hp).put hb (-5)⟩
            have hBr2 := Aside.mk (hBr.setCell (p := ⟨b, k, none⟩) hBb (.int .i64 (-5)))
            clear hRow hInt hBr hcells hb hc hne
            go_wp2_with fail
            go_roundw
            case rel => exact ⟨k + 1, by go_num, by omega, hRow2.out, hInt2.out, hBr2.out⟩
            case measure => simp [intOf]; omega
          · have k0 := hRow.cell0 hmi
            have f0 := hRow.frozen (i * 2)
            have f1 := hRow.frozen (i * 2 + 1)
            have hRow2 := Aside.mk (hRow.store hmi (⟨#[]⟩, [], .slice none 0 0))
            obtain ⟨cur, hcur, _⟩ := id hRow
            have hInt2 : Aside (∀ p ∈ m.set i (⟨#[]⟩, [], .slice none 0 0), IntRow ((wr.setCell ⟨g, i * 2, none⟩ (.string ⟨#[]⟩)).setCell ⟨g, i * 2 + 1, none⟩ (.slice none 0 0)) w2.heap.size p.2.2) := ⟨fun p hp => by
              rcases List.mem_or_eq_of_mem_set hp with hp | rfl
              · exact ((hInt p hp).far hcur (by decide) _).far (blk_set hcur _ _) (by decide) _
              · exact IntRow.nil⟩
            have hBr2 := Aside.mk ((hBr.setCell (p := ⟨g, i * 2, none⟩) hBg (.string ⟨#[]⟩)).setCell (p := ⟨g, i * 2 + 1, none⟩) hBg (.slice none 0 0))
            have hz := build24z wr
            clear hRow hInt hBr hcur
            go_wp2_with fail
            go_roundw
            case rel => exact ⟨i + 1, by go_num, by omega, fun _ => ⟨g, _, rfl, hBg, by rw [List.length_set]; exact hml.out, hRow2.out, hInt2.out⟩, hBr2.out⟩
            case measure => simp [intOf]; omega
      · have hLr := hL0.out.below (hB2.out.trans (hBr.mono hs2))
        have hD := lsame_walk hLr hfew.out (hX.out.below hBr)
        rw [decide_eq_true rfl] at hD
        replace hD := Aside.mk hD
        have hB5 := hB2.out.trans (hBr.mono hs2)
        have hs5 := hB5.size
        replace hB5 := Aside.mk hB5
        clear hWp hBr hLr
        go_wp2_with fail
        go_at_call 15
        refine hD.out.mono ?_
        rintro e w6 ⟨rfl, hb6⟩
        have hB6 := Aside.mk (hB5.out.trans (hb6.mono hs5))
        clear hb6
        go_wp2_with (go_at_call 10; refine (awake_walk (hE.out.below hB6.out)).mono ?_; rintro e w7 ⟨rfl, hb⟩; replace hb := Aside.mk hb)
        go_ret
        exact ⟨rfl, hB6.out.trans (hb.out.mono hB6.out.size)⟩
end
end Go.Proofs.YtmhpogajklihdaaDoor.C
