/- 'Same' of layer 20, with the library's 'EqualFunc'. -/
import Derived.Test.YtmhpogajklihdaaDoorCWithout
namespace Go.Proofs.YtmhpogajklihdaaDoor.C
open Go.RowKit Go.Shelf Go.Lib Go.Sort Go.Proofs.YtmhpogajklihdaaDoorW.PrintWords

section
variable {w : World} {v v2 : Value} {K L : List M}

set_option maxHeartbeats 1000000 in
set_option maxRecDepth 100000 in
theorem equal_walk (hK : Reads w v K) (hL : Reads w v2 L) : Calls Tryd.prog 35 #[v, v2, .func (.func 32) #[] #[]] w fun e w' => e = .returned (.bool (decide (K = L))) ∧ Gr w w' := by
  obtain ⟨A, cap, rfl, hm, hc⟩ := hK
  obtain ⟨A2, cap2, rfl, hm2, hc2⟩ := hL
  replace hc := Aside.mk hc
  replace hc2 := Aside.mk hc2
  by_cases hlen : K.length = L.length
  · go_enter Tryd.func35, Tryd.ntmps35
    have hne : ((K.length : Int) != L.length) = false := by simp [hlen]
    replace hlen : K.length ≤ L.length ∧ L.length ≤ K.length := by omega
    go_wp2_with fail
    go_loopw [17] (fun a wr => ∃ i : Nat, a = .int .i64 (i : Int) ∧ i ≤ K.length ∧ K.take i = L.take i ∧ Gr w wr) (fun a _ => K.length - (intOf a).toNat)
    case atStart => exact ⟨0, rfl, Nat.zero_le _, rfl, Gr.refl _⟩
    case round =>
      obtain ⟨i, rfl, hi, h1, hG⟩ := hrel
      by_cases hlt : i < K.length
      · have hlt2 : i < L.length := by omega
        obtain ⟨b, o, u, rfl, hbl, g0, g1, g2⟩ := hc.out i hlt
        obtain ⟨b2, o2, u2, rfl, hbl2, k0, k1, k2⟩ := hc2.out i hlt2
        obtain ⟨U, uc, rfl, _, _⟩ := id g2
        obtain ⟨U2, uc2, rfl, _, _⟩ := id k2
        have x0 := (hG.below.cell (p := ⟨b, o + i * 2, none⟩) hbl).trans g0
        have x1 := (hG.below.cell (p := ⟨b, o + i * 2 + 1, none⟩) hbl).trans g1
        have hA1 : Gr w (wr.alloc (.cells #[.string K[i].1, .slice U K[i].2.length uc] 24)) := Gr.trans _ _ _ hG (Gr.alloc _ _)
        have y0 := (hA1.below.cell (p := ⟨b2, o2 + i * 2, none⟩) hbl2).trans k0
        have y1 := (hA1.below.cell (p := ⟨b2, o2 + i * 2 + 1, none⟩) hbl2).trans k1
        have hA2 : Gr w ((wr.alloc (.cells #[.string K[i].1, .slice U K[i].2.length uc] 24)).alloc (.cells #[.string L[i].1, .slice U2 L[i].2.length uc2] 24)) := Gr.trans _ _ _ hA1 (Gr.alloc _ _)
        have p1 := (Below.heap_alloc _ (.cells #[.string L[i].1, .slice U2 L[i].2.length uc2] 24) _ (by simp)).trans (blk_new wr #[.string K[i].1, .slice U K[i].2.length uc] 24)
        have p2 := blk_new (wr.alloc (.cells #[.string K[i].1, .slice U K[i].2.length uc] 24)) #[.string L[i].1, .slice U2 L[i].2.length uc2] 24
        rw [World.size_alloc] at p2
        have hC := Aside.mk (one_walk K[i] L[i] (g2.below hA2.below) (k2.below hA2.below))
        have d0 := (blk_cell p1 0).trans rfl
        have d1 := (blk_cell p1 1).trans rfl
        have d2 := (blk_cell p2 0).trans rfl
        have d3 := (blk_cell p2 1).trans rfl
        have t1 := List.take_succ_eq_append_getElem hlt
        have t2 := List.take_succ_eq_append_getElem hlt2
        replace hA2 := Aside.mk hA2
        replace t1 := Aside.mk t1
        replace t2 := Aside.mk t2
        replace h1 := Aside.mk h1
        clear g0 g1 g2 k0 k1 k2 hA1 p1 p2 hG
        by_cases hd : K[i] = L[i]
        · rw [decide_eq_true hd] at hC
          replace hd := Aside.mk hd
          go_wp2_with (go_at_call 32; refine hC.out.mono ?_; rintro e w2 ⟨rfl, hG2⟩; replace hG2 := Aside.mk hG2)
          go_roundw
          case rel => exact ⟨i + 1, by go_num, by omega, by rw [t1.out, t2.out, h1.out, hd.out], Gr.trans _ _ _ hA2.out hG2.out⟩
          case measure => simp [intOf]; omega
        · rw [decide_eq_false hd] at hC
          have e : decide (K = L) = false := decide_eq_false (fun q => hd (by subst q; rfl))
          replace e := Aside.mk e
          replace hd := Aside.mk hd
          go_wp2_with (go_at_call 32; refine hC.out.mono ?_; rintro e w2 ⟨rfl, hG2⟩; replace hG2 := Aside.mk hG2)
          go_ret
          exact ⟨congrArg (fun q => Ending.returned (.bool q)) e.out.symm, Gr.trans _ _ _ hA2.out hG2.out⟩
      · obtain rfl : i = K.length := by omega
        have e : K = L := by
          rw [List.take_length] at h1
          rw [h1, List.take_of_length_le (by omega)]
        replace e := Aside.mk (decide_eq_true e)
        replace hG := Aside.mk hG
        clear h1
        go_wp2_with fail
        go_ret
        exact ⟨congrArg (fun q => Ending.returned (.bool q)) e.out.symm, hG.out⟩
  · have hne : ((K.length : Int) != L.length) = true := by rw [bne_iff_ne]; omega
    have e : decide (K = L) = false := decide_eq_false (fun q => hlen (by rw [q]))
    rw [e]
    clear e
    go_enter Tryd.func35, Tryd.ntmps35
    go_wp2_with fail
    go_ret
    exact ⟨rfl, Gr.refl _⟩

set_option maxRecDepth 100000 in
theorem same_walk (hK : Reads w v K) (hL : Reads w v2 L) : Calls Tryd.prog 20 #[v, v2] w fun e w' => e = .returned (.bool (decide (K = L))) ∧ Gr w w' := by
  have hC := Aside.mk (equal_walk hK hL)
  obtain ⟨A, cap, rfl, _, _⟩ := hK
  obtain ⟨A2, cap2, rfl, _, _⟩ := hL
  generalize decide (K = L) = p at hC
  go_enter Tryd.func20, Tryd.ntmps20
  go_wp2_with (go_at_call 35; refine hC.out.mono ?_; rintro e w2 ⟨rfl, hG2⟩; replace hG2 := Aside.mk hG2)
  go_ret
  exact ⟨rfl, hG2.out⟩
end
end Go.Proofs.YtmhpogajklihdaaDoor.C
