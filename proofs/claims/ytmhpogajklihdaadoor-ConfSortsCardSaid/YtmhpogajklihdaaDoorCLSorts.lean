/- The law ConfSorts walked. -/
import Derived.Test.YtmhpogajklihdaaDoorCWipe
namespace Go.Proofs.YtmhpogajklihdaaDoor.C
open Go.RowKit Go.Shelf Go.Lib Go.Sort Go.Proofs.YtmhpogajklihdaaDoorW.PrintWords

/-- What the call has made. -/
structure SB (w4 W : World) (rs r1 r2 : Value) (ls l1 l2 : List P) : Prop where
  s : Owns W w4.heap.size 24 rs ls
  g : Reads W r1 (l1.map key)
  c : Reads W r2 (l2.map key)
  low : Below w4.heap.size w4 W
theorem SB.below {w4 W W' : World} {rs r1 r2 : Value} {ls l1 l2 : List P} (h : SB w4 W rs r1 r2 ls l1 l2) (hb : Below W.heap.size W W') : SB w4 W' rs r1 r2 ls l1 l2 :=
  ⟨h.s.below hb, h.g.below hb, h.c.below hb, h.low.trans (hb.mono h.low.size)⟩
theorem dec_eq {a b : List M} (h : a = b) : decide (a = b) = true := decide_eq_true h

section
variable {w : World} {v v2 : Value} {K L : List M}

set_option maxHeartbeats 8000000 in
set_option maxRecDepth 100000 in
theorem sorts_yes (hK : Reads w v K) (hL : Reads w v2 L) (hsK : smallB K = true) (hsL : smallB L = true) (hE : Tab w) : Calls Tryd.prog 5 #[v, v2] w fun e w' => e = .returned (.bool true) ∧ Below w.heap.size w w' := by
  have hK0 := Aside.mk hK
  have hL0 := Aside.mk hL
  have hS := small_walk hK
  rw [hsK] at hS
  replace hS := Aside.mk hS
  obtain ⟨A, cap, rfl, _, _⟩ := hK
  obtain ⟨A2, cap2, rfl, _, _⟩ := hL
  replace hE := Aside.mk hE
  have fK := Aside.mk (small_few hsK)
  have fL := Aside.mk (small_few hsL)
  have hmK := (small_few hsK).1
  have hmL := (small_few hsL).1
  go_enter Tryd.func5, Tryd.ntmps5
  go_wp2_with fail
  go_at_call 9
  refine hS.out.mono ?_
  rintro e w1 ⟨rfl, hG1⟩
  have hS2 := small_walk (hL0.out.below hG1.below)
  rw [hsL] at hS2
  replace hS2 := Aside.mk hS2
  have hB1 := Aside.mk hG1.below
  clear hG1 hS
  go_wp2_with fail
  go_at_call 9
  refine hS2.out.mono ?_
  rintro e w2 ⟨rfl, hG2⟩
  have hB2 := hB1.out.trans (hG2.below.mono hB1.out.size)
  have hF := Aside.mk (ref_walk (hK0.out.below hB2) fK.out)
  have hs2 := hB2.size
  replace hB2 := Aside.mk hB2
  clear hG2 hS2 hB1
  go_wp2_with fail
  go_at_call 11
  refine hF.out.mono ?_
  rintro e w3 ⟨rx, lx, rfl, hOx, hkx, hb3⟩
  have hX := hOx.reads
  rw [hkx] at hX
  obtain ⟨ax, cx, rfl⟩ := owns_form hOx.1
  have hB3 := hB2.out.trans (hb3.mono hs2)
  have hF2 := Aside.mk (ref_walk (hL0.out.below hB3) fL.out)
  have hs3 := hB3.size
  replace hB3 := Aside.mk hB3
  replace hX := Aside.mk hX
  clear hOx hkx hb3 hF hB2 hs2
  go_wp2_with fail
  go_at_call 11
  refine hF2.out.mono ?_
  rintro e w4 ⟨ry, ly, rfl, hOy, hky, hb4⟩
  have hY := hOy.reads
  rw [hky] at hY
  obtain ⟨ay, cy, rfl⟩ := owns_form hOy.1
  have hB4 := hB3.out.trans (hb4.mono hs3)
  replace hX := Aside.mk (hX.out.below hb4)
  replace hY := Aside.mk hY
  have hKr := Aside.mk (hK0.out.below hB4)
  have hLr := Aside.mk (hL0.out.below hB4)
  have hs4 := hB4.size
  have hT := Aside.mk (hE.out.below hB4)
  replace hB4 := Aside.mk hB4
  clear hOy hky hb4 hF2 hB3 hs3 hK0 hL0 hE
  have hC := Aside.mk (csort_walk hKr.out fK.out)
  go_wp2_with fail
  go_at_call 16
  refine hC.out.mono ?_
  rintro e w5 ⟨rs, ls, rfl, hOs, hrs, hms, hb5, hls⟩
  obtain ⟨as_, cs_, rfl⟩ := owns_form hOs.1
  have hD := Aside.mk (diff_walk (hKr.out.below hb5) fK.out (hLr.out.below hb5) fL.out)
  have hfs := few_sub fK.out hrs (fun x hx => (hms x).1 hx)
  have hs5 := hb5.size
  replace hb5 := Aside.mk hb5
  replace hOs := Aside.mk hOs
  replace hrs := Aside.mk hrs
  replace hms := Aside.mk hms
  replace hfs := Aside.mk hfs
  clear hC
  go_wp2_with fail
  go_at_call 17
  refine hD.out.mono ?_
  rintro e w6 ⟨r1, r2, l1, l2, rfl, hO1, hr1, hm1, hO2, hr2, hm2, hb6⟩
  obtain ⟨a1, c1, rfl⟩ := owns_form hO1.1
  obtain ⟨a2, c2, rfl⟩ := owns_form hO2.1
  have hSB : SB w4 w6 _ _ _ ls l1 l2 := ⟨hOs.out.below hb6, hO1.reads, hO2.reads, hb5.out.trans (hb6.mono hs5)⟩
  have hf1 := few_sub fK.out hr1 (fun x hx => ((hm1 x).1 hx).1)
  have hf2 := few_sub fL.out hr2 (fun x hx => ((hm2 x).1 hx).1)
  have hQ := Aside.mk (rsort_walk (hX.out.below hSB.low) (by omega))
  replace hr1 := Aside.mk hr1
  replace hm1 := Aside.mk hm1
  replace hr2 := Aside.mk hr2
  replace hm2 := Aside.mk hm2
  replace hf1 := Aside.mk hf1
  replace hf2 := Aside.mk hf2
  replace hSB := Aside.mk hSB
  clear hO1 hO2 hOs hb5 hb6 hs5 hD
  go_wp2_with fail
  go_at_call 18
  refine hQ.out.mono ?_
  rintro e w7 ⟨rq, lq, rfl, hRq, hrq, hmq, hlq, hb7⟩
  have hRd := hRq.reads hb7
  obtain ⟨aq, cq, rfl⟩ := owns_form hRq.1
  replace hSB := Aside.mk (hSB.out.below hb7)
  have hQ2 := lsame_walk hSB.out.s.reads hfs.out hRd
  rw [dec_eq (rising_eq hrs.out hrq (fun x => (hms.out x).trans (hmq x).symm))] at hQ2
  replace hQ2 := Aside.mk hQ2
  clear hRd hRq hrq hmq hlq hb7 hQ
  go_wp2_with fail
  go_at_call 15
  refine hQ2.out.mono ?_
  rintro e w8 ⟨rfl, hb8⟩
  replace hSB := Aside.mk (hSB.out.below hb8)
  have hQ := Aside.mk (rwithout_walk (hX.out.below hSB.out.low) (by omega) (hY.out.below hSB.out.low))
  clear hb8 hQ2
  go_wp2_with fail
  go_at_call 19
  refine hQ.out.mono ?_
  rintro e w9 ⟨rq9, lq9, rfl, hRq, hrq, hmq, hb7⟩
  have hRd := hRq.reads hb7
  obtain ⟨aq9, cq9, rfl⟩ := owns_form hRq.1
  replace hSB := Aside.mk (hSB.out.below hb7)
  have hQ2 := lsame_walk hSB.out.g hf1.out hRd
  rw [dec_eq (rising_eq hr1.out hrq (fun x => (hm1.out x).trans (hmq x).symm))] at hQ2
  replace hQ2 := Aside.mk hQ2
  clear hRd hRq hrq hmq hb7 hQ
  go_wp2_with fail
  go_at_call 15
  refine hQ2.out.mono ?_
  rintro e w10 ⟨rfl, hb8⟩
  replace hSB := Aside.mk (hSB.out.below hb8)
  have hQ := Aside.mk (rwithout_walk (hY.out.below hSB.out.low) (by omega) (hX.out.below hSB.out.low))
  clear hb8 hQ2
  go_wp2_with fail
  go_at_call 19
  refine hQ.out.mono ?_
  rintro e w11 ⟨rq11, lq11, rfl, hRq, hrq, hmq, hb7⟩
  have hRd := hRq.reads hb7
  obtain ⟨aq11, cq11, rfl⟩ := owns_form hRq.1
  replace hSB := Aside.mk (hSB.out.below hb7)
  have hQ2 := lsame_walk hSB.out.c hf2.out hRd
  rw [dec_eq (rising_eq hr2.out hrq (fun x => (hm2.out x).trans (hmq x).symm))] at hQ2
  replace hQ2 := Aside.mk hQ2
  clear hRd hRq hrq hmq hb7 hQ
  go_wp2_with fail
  go_at_call 15
  refine hQ2.out.mono ?_
  rintro e w12 ⟨rfl, hb8⟩
  replace hSB := Aside.mk (hSB.out.below hb8)
  have hQ := same_walk (hKr.out.below hSB.out.low) (hLr.out.below hSB.out.low)
  generalize hP : decide (K = L) = P at hQ
  replace hP := Aside.mk hP
  replace hQ := Aside.mk hQ
  clear hb8 hQ2
  go_wp2_with fail
  go_at_call 20
  refine hQ.out.mono ?_
  rintro e w13 ⟨rfl, hG⟩
  replace hSB := Aside.mk (hSB.out.below hG.below)
  have hQ2 := rsame_walk (hX.out.below hSB.out.low) (hY.out.below hSB.out.low)
  rw [hP.out] at hQ2
  replace hQ2 := Aside.mk hQ2
  clear hG hQ
  go_wp2_with fail
  go_at_call 21
  refine hQ2.out.mono ?_
  rintro e w14 ⟨rfl, hG⟩
  replace hSB := Aside.mk (hSB.out.below hG.below)
  have hW := Aside.mk (Wip.of hSB.out.s)
  have hB14 := Aside.mk hSB.out.low
  clear hG hQ2 hSB
  generalize ls.length = n at hls hW ⊢
  have hPP : (P != P) = false := by cases P <;> rfl
  have hnm : n ≤ 1000 := by omega
  clear hPP hls
  go_wp2_with fail
  go_loopw [65] (fun a wr => ∃ i : Nat, a = .int .i64 (i : Int) ∧ i ≤ n ∧ Wip wr w4.heap.size as_ cs_ n ∧ Below w4.heap.size w4 wr) (fun a _ => n - (intOf a).toNat)
  case atStart => exact ⟨0, rfl, Nat.zero_le _, hW.out, hB14.out⟩
  case round =>
    clear hW hB14
    obtain ⟨i, rfl, hi, hWp, hBr⟩ := hrel
    by_cases hlt : i < n
    · obtain ⟨g, m, rfl, hBg, hml, hRow, hInt⟩ := hWp (by omega)
      have k1 := hRow.cell1 (j := i) (by omega)
      obtain ⟨A', n', cap', eu, hn', _⟩ := hInt m[i] (List.getElem_mem (by omega))
      rw [eu] at k1
      replace hRow := Aside.mk hRow
      replace hInt := Aside.mk hInt
      replace hBr := Aside.mk hBr
      replace hml := Aside.mk hml
      replace eu := Aside.mk eu
      clear hWp
      go_wp2_with fail
      clear k1
      go_loopw [74] (fun a wx => ∃ k : Nat, a = .int .i64 (k : Int) ∧ k ≤ n' ∧ RowAt wx g cs_ m ∧ (∀ p ∈ m, IntRow wx w4.heap.size p.2.2) ∧ Below w4.heap.size w4 wx) (fun a _ => n' - (intOf a).toNat)
      case atStart => exact ⟨0, rfl, Nat.zero_le _, hRow.out, hInt.out, hBr.out⟩
      case round =>
        clear hRow hInt hBr
        obtain ⟨k, rfl, hk, hRow, hInt, hBr⟩ := hrel
        have hmi : i < m.length := by rw [hml.out]; exact hlt
        have k1 := hRow.cell1 hmi
        rw [eu.out] at k1
        by_cases hkn : k < n'
        · obtain ⟨A2, n2, cap2, e2, _, hcells⟩ := hInt m[i] (List.getElem_mem hmi)
          rw [eu.out] at e2
          cases e2
          obtain ⟨b, cur, z, rfl, hBb, hb, hc⟩ := hcells k hkn
          have f0 := (blk_cell hb k).trans hc
          have f1 := blk_frozen hb k
          have hne : g ≠ b := by
            rintro rfl
            obtain ⟨cur2, hg2, _⟩ := hRow
            rw [hg2] at hb
            cases hb
          have hRow2 := Aside.mk (hRow.move (Below.heap_setCell wr ⟨b, k, none⟩ (.int .i64 (-5)) g hne))
          have hInt2 : Aside (∀ p ∈ m, IntRow (wr.setCell ⟨b, k, none⟩ (.int .i64 (-5))) w4.heap.size p.2.2) := ⟨fun p hp => (hInt p hp).put hb (-5)⟩
          have hBr2 := Aside.mk (hBr.setCell (p := ⟨b, k, none⟩) hBb (.int .i64 (-5)))
          clear hRow hInt hBr hcells hb hc hne
          go_wp2_with fail
          go_roundw
          case rel => exact ⟨k + 1, by go_num, by omega, hRow2.out, hInt2.out, hBr2.out⟩
          case measure => simp [intOf]; omega
        · replace hRow := Aside.mk hRow
          replace hInt := Aside.mk hInt
          replace hBr := Aside.mk hBr
          go_wp2_with fail
          go_roundw
          case rel => exact ⟨i + 1, by go_num, by omega, fun _ => ⟨g, _, rfl, hBg, hml.out, hRow.out, hInt.out⟩, hBr.out⟩
          case measure => simp [intOf]; omega
    · have hD := lsame_walk (hKr.out.below hBr) fK.out (hX.out.below hBr)
      rw [decide_eq_true rfl] at hD
      replace hD := Aside.mk hD
      have hB5 := hB4.out.trans (hBr.mono hs4)
      have hs5 := hB5.size
      have hs6 := hBr.size
      replace hB5 := Aside.mk hB5
      replace hBr := Aside.mk hBr
      clear hWp
      go_wp2_with fail
      go_at_call 15
      refine hD.out.mono ?_
      rintro e w16 ⟨rfl, hb6⟩
      have hB6 := Aside.mk (hB5.out.trans (hb6.mono hs5))
      have hBr6 := hBr.out.trans (hb6.mono hs6)
      have hD2 := lsame_walk (hLr.out.below hBr6) fL.out (hY.out.below hBr6)
      rw [decide_eq_true rfl] at hD2
      replace hD2 := Aside.mk hD2
      have hT6 := Aside.mk (hT.out.below hBr6)
      have hs7 := hB6.out.size
      clear hb6 hBr6 hD hBr
      go_wp2_with fail
      go_at_call 15
      refine hD2.out.mono ?_
      rintro e w17 ⟨rfl, hb7⟩
      have hB7 := Aside.mk (hB6.out.trans (hb7.mono hs7))
      have hT7 := Aside.mk (hT6.out.below hb7)
      clear hb7
      go_wp2_with (go_at_call 10; refine (awake_walk hT7.out).mono ?_; rintro e w18 ⟨rfl, hb⟩; replace hb := Aside.mk hb)
      go_ret
      exact ⟨rfl, hB7.out.trans (hb.out.mono hB7.out.size)⟩

set_option maxRecDepth 100000 in
theorem sorts_walk (hK : Reads w v K) (hL : Reads w v2 L) (hE : Tab w) : Calls Tryd.prog 5 #[v, v2] w fun e w' => e = .returned (.bool true) ∧ Below w.heap.size w w' := by
  cases hsK : smallB K with
  | false =>
    have hS := small_walk hK
    rw [hsK] at hS
    replace hS := Aside.mk hS
    obtain ⟨A, cap, rfl, _, _⟩ := hK
    obtain ⟨A2, cap2, rfl, _, _⟩ := hL
    replace hE := Aside.mk hE
    go_enter Tryd.func5, Tryd.ntmps5
    go_wp2_with (first | (go_at_call 9; refine hS.out.mono ?_; rintro e w1 ⟨rfl, hG⟩; replace hG := Aside.mk hG) | (go_at_call 10; refine (awake_walk (hE.out.below hG.out.below)).mono ?_; rintro e w2 ⟨rfl, hb⟩; replace hb := Aside.mk hb))
    go_ret
    exact ⟨rfl, hG.out.below.trans (hb.out.mono hG.out.below.size)⟩
  | true =>
    cases hsL : smallB L with
    | true => exact sorts_yes hK hL hsK hsL hE
    | false =>
      have hS := small_walk hK
      rw [hsK] at hS
      replace hS := Aside.mk hS
      have hL0 := Aside.mk hL
      obtain ⟨A, cap, rfl, _, _⟩ := hK
      obtain ⟨A2, cap2, rfl, _, _⟩ := hL
      replace hE := Aside.mk hE
      go_enter Tryd.func5, Tryd.ntmps5
      go_wp2_with fail
      go_at_call 9
      refine hS.out.mono ?_
      rintro e w1 ⟨rfl, hG1⟩
      have hS2 := small_walk (hL0.out.below hG1.below)
      rw [hsL] at hS2
      replace hS2 := Aside.mk hS2
      have hB1 := Aside.mk hG1.below
      clear hG1 hS
      go_wp2_with fail
      go_at_call 9
      refine hS2.out.mono ?_
      rintro e w2 ⟨rfl, hG2⟩
      have hB2 := Aside.mk (hB1.out.trans (hG2.below.mono hB1.out.size))
      clear hG2 hS2
      go_wp2_with (go_at_call 10; refine (awake_walk (hE.out.below hB2.out)).mono ?_; rintro e w3 ⟨rfl, hb⟩; replace hb := Aside.mk hb)
      go_ret
      exact ⟨rfl, hB2.out.trans (hb.out.mono hB2.out.size)⟩
end
end Go.Proofs.YtmhpogajklihdaaDoor.C
