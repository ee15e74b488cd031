/- 'Less' of the document. -/
import Derived.Test.YtmhpogajklihdaaDoorCRef
namespace Go.Proofs.YtmhpogajklihdaaDoor.C
open Go.RowKit Go.Shelf Go.Lib Go.Sort Go.Proofs.YtmhpogajklihdaaDoorW.PrintWords

theorem lt_rules {x y : M} (h : x.1 ≠ y.1) : decide (ltM x y) = Op.bytesLess x.1.toList y.1.toList := by
  have hz : cmpB x.1 y.1 ≠ 0 := fun e => h (nums_inj (cmpL_zero _ _ e))
  unfold ltM cmpM
  simp only [if_pos hz]
  rw [cmpB_less]
  cases Op.bytesLess x.1.toList y.1.toList <;> cases Op.bytesLess y.1.toList x.1.toList <;> simp
theorem lt_ids {x y : M} (h : x.1 = y.1) : decide (ltM x y) = decide (cmpL x.2 y.2 < 0) := by
  have hz : ¬ cmpB x.1 y.1 ≠ 0 := by rw [h]; unfold cmpB; rw [cmpL_self]; decide
  unfold ltM cmpM
  simp only [if_neg hz]

section
variable {w : World}

set_option maxHeartbeats 2000000 in
set_option maxRecDepth 100000 in
theorem less_walk (x y : M) {ux uy : Value} (hx : IdsAt w ux x.2) (hy : IdsAt w uy y.2) : Calls Tryd.prog 12 #[.agg #[.string x.1, ux], .agg #[.string y.1, uy]] w fun e w' => e = .returned (.bool (decide (ltM x y))) ∧ Gr w w' := by
  have hA : Gr w ((w.alloc (.cells #[.string x.1, ux] 31)).alloc (.cells #[.string y.1, uy] 31)) := Gr.trans _ _ _ (Gr.alloc _ _) (Gr.alloc _ _)
  have p1 := (Below.heap_alloc _ (.cells #[.string y.1, uy] 31) _ (by simp)).trans (blk_new w #[.string x.1, ux] 31)
  have p2 := blk_new (w.alloc (.cells #[.string x.1, ux] 31)) #[.string y.1, uy] 31
  rw [World.size_alloc] at p2
  obtain ⟨A, ca, rfl, hA1, hA2⟩ := hx
  obtain ⟨B, cb, rfl, hB1, hB2⟩ := hy
  go_enter Tryd.func12, Tryd.ntmps12
  go_upto_region 1 with fail
  have q1 : ∀ j (_ : j < x.2.length), ∃ b o, A = some ⟨b, o, none⟩ ∧ b < ((w.alloc (.cells #[.string x.1, .slice A x.2.length ca] 31)).alloc (.cells #[.string y.1, .slice B y.2.length cb] 31)).heap.size ∧ ((w.alloc (.cells #[.string x.1, .slice A x.2.length ca] 31)).alloc (.cells #[.string y.1, .slice B y.2.length cb] 31)).cell? ⟨b, o + j, none⟩ = some (.int .i64 x.2[j]) := fun j hj => by
    obtain ⟨b, o, e, hl, hc⟩ := hA2 j hj
    exact ⟨b, o, e, Nat.lt_of_lt_of_le hl hA.below.size, (hA.below.cell (p := ⟨b, o + j, none⟩) hl).trans hc⟩
  have q2 : ∀ j (_ : j < y.2.length), ∃ b o, B = some ⟨b, o, none⟩ ∧ b < ((w.alloc (.cells #[.string x.1, .slice A x.2.length ca] 31)).alloc (.cells #[.string y.1, .slice B y.2.length cb] 31)).heap.size ∧ ((w.alloc (.cells #[.string x.1, .slice A x.2.length ca] 31)).alloc (.cells #[.string y.1, .slice B y.2.length cb] 31)).cell? ⟨b, o + j, none⟩ = some (.int .i64 y.2[j]) := fun j hj => by
    obtain ⟨b, o, e, hl, hc⟩ := hB2 j hj
    exact ⟨b, o, e, Nat.lt_of_lt_of_le hl hA.below.size, (hA.below.cell (p := ⟨b, o + j, none⟩) hl).trans hc⟩
  replace q1 := Aside.mk q1
  replace q2 := Aside.mk q2
  replace hA := Aside.mk hA
  clear hA2 hB2
  generalize (w.alloc (.cells #[.string x.1, .slice A x.2.length ca] 31)).alloc (.cells #[.string y.1, .slice B y.2.length cb] 31) = W at hA p1 p2 q1 q2 ⊢
  generalize w.heap.size = n at p1 p2 ⊢
  have c1 : ∀ W', Gr W W' → W'.cell? ⟨n, 0, none⟩ = some (.string x.1) := fun W' h => (h.below.cell (p := ⟨n, 0, none⟩) (blk_lt p1)).trans ((blk_cell p1 0).trans rfl)
  have d1 := (blk_cell p1 0).trans rfl
  have d2 := (blk_cell p1 1).trans rfl
  have d3 := (blk_cell p2 0).trans rfl
  have d4 := (blk_cell p2 1).trans rfl
  clear c1
  replace p1 := Aside.mk p1
  replace p2 := Aside.mk p2
  by_cases hne : x.1 = y.1
  · have hres := Aside.mk (lt_ids hne)
    have he : (x.1.toList == y.1.toList) = true := by rw [hne]; exact beq_self_eq_true _
    clear hne
    go_wp2_with fail
    go_loopw [5] (fun a wr => ∃ i : Nat, a = .int .i64 (i : Int) ∧ i ≤ x.2.length ∧ i ≤ y.2.length ∧ cmpL x.2 y.2 = cmpL (x.2.drop i) (y.2.drop i) ∧ Gr W wr) (fun a _ => x.2.length - (intOf a).toNat)
    case atStart => exact ⟨0, rfl, Nat.zero_le _, Nat.zero_le _, rfl, Gr.refl _⟩
    case round =>
      obtain ⟨i, rfl, hi, hi2, hcm, hG⟩ := hrel
      have e1 := (hG.below.cell (p := ⟨n, 0, none⟩) (blk_lt p1.out)).trans d1
      have e2 := (hG.below.cell (p := ⟨n, 1, none⟩) (blk_lt p1.out)).trans d2
      have e3 := (hG.below.cell (p := ⟨n + 1, 0, none⟩) (blk_lt p2.out)).trans d3
      have e4 := (hG.below.cell (p := ⟨n + 1, 1, none⟩) (blk_lt p2.out)).trans d4
      clear d1 d2 d3 d4
      by_cases h1 : i < x.2.length
      · by_cases h2 : i < y.2.length
        · obtain ⟨b1, o1, rfl, hl1, hc1⟩ := q1.out i h1
          obtain ⟨b2, o2, rfl, hl2, hc2⟩ := q2.out i h2
          rw [List.drop_eq_getElem_cons h1, List.drop_eq_getElem_cons h2, cmpL_cons] at hcm
          have g1 : wr.cell? ⟨b1, o1 + i, none⟩ = some (.int .i64 x.2[i]) := (hG.below.cell (p := ⟨b1, o1 + i, none⟩) hl1).trans hc1
          have g2 : wr.cell? ⟨b2, o2 + i, none⟩ = some (.int .i64 y.2[i]) := (hG.below.cell (p := ⟨b2, o2 + i, none⟩) hl2).trans hc2
          clear hc1 hc2
          have h1' : (i : Int) < x.2.length := by omega
          have h2' : (i : Int) < y.2.length := by omega
          replace hG := Aside.mk hG
          by_cases x1 : x.2[i] < y.2[i]
          · have hd : (x.2[i] != y.2[i]) = true := by rw [bne_iff_ne]; omega
            rw [if_pos x1] at hcm
            replace hcm := Aside.mk hcm
            go_wp2_with (go_quiet (fail))
            go_ret
            exact ⟨congrArg (fun q => Ending.returned (.bool q)) (show decide (ltM x y) = true by rw [hres.out, hcm.out]; rfl).symm, Gr.trans _ _ _ hA.out (Gr.trans _ _ _ hG.out (Gr.trans _ _ _ (Gr.drewN _ _) (Gr.drewN _ _)))⟩
          · rw [if_neg x1] at hcm
            by_cases x2 : y.2[i] < x.2[i]
            · have hd : (x.2[i] != y.2[i]) = true := by rw [bne_iff_ne]; omega
              rw [if_pos x2] at hcm
              replace hcm := Aside.mk hcm
              go_wp2_with (go_quiet (fail))
              go_ret
              exact ⟨congrArg (fun q => Ending.returned (.bool q)) (show decide (ltM x y) = false by rw [hres.out, hcm.out]; rfl).symm, Gr.trans _ _ _ hA.out (Gr.trans _ _ _ hG.out (Gr.drewN _ _))⟩
            · have hd : (x.2[i] != y.2[i]) = false := by rw [bne_eq_false_iff_eq]; omega
              rw [if_neg x2] at hcm
              replace hcm := Aside.mk hcm
              clear x1 x2
              go_wp2_with (go_quiet (fail))
              go_roundw
              case rel => exact ⟨i + 1, by go_num, by omega, by omega, hcm.out, Gr.trans _ _ _ hG.out (Gr.drewN _ _)⟩
              case measure => simp [intOf]; omega
        · obtain rfl : i = y.2.length := by omega
          rw [List.drop_length, List.drop_eq_getElem_cons h1, cmpL_right] at hcm
          have h1' : ((y.2.length : Nat) : Int) < x.2.length := by omega
          have h3' : ¬ ((x.2.length : Nat) : Int) < y.2.length := by omega
          replace hcm := Aside.mk hcm
          replace hG := Aside.mk hG
          go_wp2_with fail
          go_ret
          exact ⟨congrArg (fun q => Ending.returned (.bool q)) (show decide (ltM x y) = false by rw [hres.out, hcm.out]; rfl).symm, Gr.trans _ _ _ hA.out (hG.out)⟩
      · obtain rfl : i = x.2.length := by omega
        rw [List.drop_length] at hcm
        replace hG := Aside.mk hG
        by_cases h2 : x.2.length < y.2.length
        · rw [List.drop_eq_getElem_cons h2, cmpL_left] at hcm
          have h3' : ((x.2.length : Nat) : Int) < y.2.length := by omega
          replace hcm := Aside.mk hcm
          go_wp2_with fail
          go_ret
          exact ⟨congrArg (fun q => Ending.returned (.bool q)) (show decide (ltM x y) = true by rw [hres.out, hcm.out]; rfl).symm, Gr.trans _ _ _ hA.out (hG.out)⟩
        · rw [List.drop_eq_nil_of_le (by omega), cmpL_none] at hcm
          have h3' : ¬ ((x.2.length : Nat) : Int) < y.2.length := by omega
          replace hcm := Aside.mk hcm
          go_wp2_with fail
          go_ret
          exact ⟨congrArg (fun q => Ending.returned (.bool q)) (show decide (ltM x y) = false by rw [hres.out, hcm.out]; rfl).symm, Gr.trans _ _ _ hA.out (hG.out)⟩
  · have hres := Aside.mk (lt_rules hne)
    have he := str_ne hne
    clear hne
    go_wp2_with fail
    go_ret
    exact ⟨congrArg (fun q => Ending.returned (.bool q)) hres.out.symm, hA.out⟩
end
end Go.Proofs.YtmhpogajklihdaaDoor.C
