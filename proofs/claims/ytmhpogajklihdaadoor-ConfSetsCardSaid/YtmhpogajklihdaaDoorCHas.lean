/- 'One' and 'Has' of the document. -/
import Derived.Test.YtmhpogajklihdaaDoorCLess
namespace Go.Proofs.YtmhpogajklihdaaDoor.C
open Go.RowKit Go.Shelf Go.Lib Go.Sort Go.Proofs.YtmhpogajklihdaaDoorW.PrintWords

theorem one_lt (x y : M) : decide (x = y) = (!decide (ltM x y) && !decide (ltM y x)) := by
  by_cases h : x = y
  · subst h
    simp [ltM_irrefl]
  · rw [decide_eq_false h]
    rcases ltM_total h with q | q
    · simp [q]
    · simp [q]

section
variable {w : World}

set_option maxRecDepth 100000 in
theorem rone_walk (x y : M) {ux uy : Value} (hx : IdsAt w ux x.2) (hy : IdsAt w uy y.2) : Calls Tryd.prog 36 #[.agg #[.string x.1, ux], .agg #[.string y.1, uy]] w fun e w' => e = .returned (.bool (decide (x = y))) ∧ Gr w w' := by
  have hA : Gr w ((w.alloc (.cells #[.string x.1, ux] 31)).alloc (.cells #[.string y.1, uy] 31)) := Gr.trans _ _ _ (Gr.alloc _ _) (Gr.alloc _ _)
  have p1 := (Below.heap_alloc _ (.cells #[.string y.1, uy] 31) _ (by simp)).trans (blk_new w #[.string x.1, ux] 31)
  have p2 := blk_new (w.alloc (.cells #[.string x.1, ux] 31)) #[.string y.1, uy] 31
  rw [World.size_alloc] at p2
  have hx1 := Aside.mk (hx.below hA.below)
  have hy1 := Aside.mk (hy.below hA.below)
  obtain ⟨A, ca, rfl, hA1, hA2⟩ := hx
  obtain ⟨B, cb, rfl, hB1, hB2⟩ := hy
  clear hA1 hA2 hB1 hB2
  replace hA := Aside.mk hA
  go_enter Tryd.func36, Tryd.ntmps36
  go_upto_region 1 with fail
  generalize (w.alloc (.cells #[.string x.1, .slice A x.2.length ca] 31)).alloc (.cells #[.string y.1, .slice B y.2.length cb] 31) = W at hA p1 p2 hx1 hy1 ⊢
  generalize w.heap.size = n at p1 p2 ⊢
  have d1 := (blk_cell p1 0).trans rfl
  have d2 := (blk_cell p1 1).trans rfl
  have d3 := (blk_cell p2 0).trans rfl
  have d4 := (blk_cell p2 1).trans rfl
  have hC := Aside.mk (less_walk x y hx1.out hy1.out)
  have hres := Aside.mk (one_lt x y)
  generalize decide (ltM x y) = p at hC hres
  replace p1 := Aside.mk p1
  replace p2 := Aside.mk p2
  cases p
  · go_wp2_with fail
    go_at_call 12
    refine hC.out.mono ?_
    rintro e w2 ⟨rfl, hG⟩
    have e1 := (hG.below.cell (p := ⟨n, 0, none⟩) (blk_lt p1.out)).trans d1
    have e2 := (hG.below.cell (p := ⟨n, 1, none⟩) (blk_lt p1.out)).trans d2
    have e3 := (hG.below.cell (p := ⟨n + 1, 0, none⟩) (blk_lt p2.out)).trans d3
    have e4 := (hG.below.cell (p := ⟨n + 1, 1, none⟩) (blk_lt p2.out)).trans d4
    have hD := Aside.mk (less_walk y x (hy1.out.below hG.below) (hx1.out.below hG.below))
    generalize decide (ltM y x) = q at hD hres
    replace hG := Aside.mk hG
    clear d1 d2 d3 d4
    go_wp2_with (go_at_call 12; refine hD.out.mono ?_; rintro e w3 ⟨rfl, hG2⟩; replace hG2 := Aside.mk hG2)
    go_ret
    exact ⟨congrArg (fun q => Ending.returned (.bool q)) (show _ = _ by rw [hres.out]; rfl), Gr.trans _ _ _ hA.out (Gr.trans _ _ _ hG.out hG2.out)⟩
  · go_wp2_with (go_at_call 12; refine hC.out.mono ?_; rintro e w2 ⟨rfl, hG⟩; replace hG := Aside.mk hG)
    go_ret
    exact ⟨congrArg (fun q => Ending.returned (.bool q)) (show _ = _ by rw [hres.out]; rfl), Gr.trans _ _ _ hA.out hG.out⟩

set_option maxHeartbeats 1000000 in
set_option maxRecDepth 100000 in
theorem has_walk {v u : Value} {L : List M} (hL : Reads w v L) (x : M) (hx : IdsAt w u x.2) : Calls Tryd.prog 34 #[v, .agg #[.string x.1, u]] w fun e w' => e = .returned (.bool (hasM L x)) ∧ Gr w w' := by
  have hA : Gr w (w.alloc (.cells #[.string x.1, u] 31)) := Gr.alloc _ _
  have p1 := blk_new w #[.string x.1, u] 31
  replace hL := hL.below hA.below
  replace hx := hx.below hA.below
  obtain ⟨A, cap, rfl, hm, hc⟩ := hL
  obtain ⟨U, ucap, e, _, _⟩ := id hx
  subst e
  replace hc := Aside.mk hc
  replace hA := Aside.mk hA
  replace hx := Aside.mk hx
  go_enter Tryd.func34, Tryd.ntmps34
  go_upto_region 1 with fail
  generalize w.alloc (.cells #[.string x.1, .slice U x.2.length ucap] 31) = W at hA p1 hx hc ⊢
  generalize w.heap.size = nb at p1 ⊢
  have b1 := (blk_cell p1 0).trans rfl
  have b2 := (blk_cell p1 1).trans rfl
  replace b1 := Aside.mk b1
  replace b2 := Aside.mk b2
  replace p1 := Aside.mk p1
  go_wp2_with fail
  go_loopw [9] (fun a wr => ∃ i : Nat, a = .int .i64 (i : Int) ∧ i ≤ L.length ∧ (∀ t (_ : t < L.length), t < i → L[t] ≠ x) ∧ Gr W wr) (fun a _ => L.length - (intOf a).toNat)
  case atStart => exact ⟨0, rfl, Nat.zero_le _, fun _ _ h => absurd h (by omega), Gr.refl _⟩
  case round =>
    obtain ⟨i, rfl, hi, h1, hG⟩ := hrel
    by_cases hlt : i < L.length
    · obtain ⟨b, o, um, rfl, hbl, g0, g1, g2⟩ := hc.out i hlt
      have x0 := (hG.below.cell (p := ⟨b, o + i * 2, none⟩) hbl).trans g0
      have x1 := (hG.below.cell (p := ⟨b, o + i * 2 + 1, none⟩) hbl).trans g1
      obtain ⟨Um, uc, e, _, _⟩ := id g2
      subst e
      have hA1 : Gr W (wr.alloc (.cells #[.string L[i].1, .slice Um L[i].2.length uc] 31)) := Gr.trans _ _ _ hG (Gr.alloc _ _)
      have p2 := blk_new wr #[.string L[i].1, .slice Um L[i].2.length uc] 31
      have d0 := (blk_cell p2 0).trans rfl
      have d1 := (blk_cell p2 1).trans rfl
      have d2 := (hA1.below.cell (p := ⟨nb, 0, none⟩) (blk_lt p1.out)).trans b1.out
      have d3 := (hA1.below.cell (p := ⟨nb, 1, none⟩) (blk_lt p1.out)).trans b2.out
      have hC := Aside.mk (rone_walk L[i] x (g2.below hA1.below) (hx.out.below hA1.below))
      replace h1 := Aside.mk h1
      replace hA1 := Aside.mk hA1
      clear hG g0 g1 g2 p2
      by_cases hd : L[i] = x
      · have hr := Aside.mk (hasM_iff.2 (show x ∈ L from by rw [← hd]; exact List.getElem_mem hlt))
        rw [decide_eq_true hd] at hC
        clear hd
        go_wp2_with (go_at_call 36; refine hC.out.mono ?_; rintro e w2 ⟨rfl, hG2⟩; replace hG2 := Aside.mk hG2)
        go_ret
        exact ⟨congrArg (fun q => Ending.returned (.bool q)) hr.out.symm, Gr.trans _ _ _ hA.out (Gr.trans _ _ _ hA1.out hG2.out)⟩
      · rw [decide_eq_false hd] at hC
        replace hd := Aside.mk hd
        go_wp2_with (go_at_call 36; refine hC.out.mono ?_; rintro e w2 ⟨rfl, hG2⟩; replace hG2 := Aside.mk hG2)
        go_roundw
        case rel =>
          refine ⟨i + 1, by go_num, by omega, fun t ht h => ?_, Gr.trans _ _ _ hA1.out hG2.out⟩
          by_cases e : t = i
          · subst e; exact hd.out
          · exact h1.out t ht (by omega)
        case measure => simp [intOf]; omega
    · obtain rfl : i = L.length := by omega
      have hr : hasM L x = false := by
        have : ¬ hasM L x = true := fun q => by
          obtain ⟨t, ht, e⟩ := List.getElem_of_mem (hasM_iff.1 q)
          exact h1 t ht ht e
        simpa using this
      replace hr := Aside.mk hr
      replace hG := Aside.mk hG
      clear h1
      go_wp2_with fail
      go_ret
      exact ⟨congrArg (fun q => Ending.returned (.bool q)) hr.out.symm, Gr.trans _ _ _ hA.out hG.out⟩
end
end Go.Proofs.YtmhpogajklihdaaDoor.C
