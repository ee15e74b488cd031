/- The law ConfCompares walked. -/
import Derived.Test.YtmhpogajklihdaaDoorCAwake
namespace Go.Proofs.YtmhpogajklihdaaDoor.C
open Go.RowKit Go.Shelf Go.Lib Go.Sort

attribute [local go_sem] XReg.envOf

theorem cmp_cases (x y : M) : ∃ (P1 P2 : Bool) (c c2 : Int), decide (ltM x y) = P1 ∧ decide (ltM y x) = P2 ∧ cmpM x y = c ∧ cmpM y x = c2 ∧ ((P1 = true ∧ P2 = false ∧ c = -1 ∧ c2 = 1) ∨ (P1 = false ∧ P2 = false ∧ c = 0 ∧ c2 = 0) ∨ (P1 = false ∧ P2 = true ∧ c = 1 ∧ c2 = -1)) := by
  have hn := cmpM_neg x y
  refine ⟨_, _, _, _, rfl, rfl, rfl, rfl, ?_⟩
  rcases cmpM_vals x y with h | h | h
  · exact .inl ⟨decide_eq_true (show cmpM x y < 0 by omega), decide_eq_false (show ¬ cmpM y x < 0 by omega), h, by omega⟩
  · exact .inr (.inl ⟨decide_eq_false (show ¬ cmpM x y < 0 by omega), decide_eq_false (show ¬ cmpM y x < 0 by omega), h, by omega⟩)
  · exact .inr (.inr ⟨decide_eq_false (show ¬ cmpM x y < 0 by omega), decide_eq_true (show cmpM y x < 0 by omega), h, by omega⟩)

theorem blk_lt2 {W : World} {b o : Nat} {v : Value} (h : W.cell? ⟨b, o, none⟩ = some v) : b < W.heap.size := World.block_lt_of_cell? _ _ h

section
variable {w : World}

/-- What stands in memory in the law. -/
structure CW (w W : World) (n : Nat) (x y : M) (ux uy : Value) : Prop where
  b1 : W.heap[n]? = some (.cells #[.string x.1, ux] 24 (0, 0))
  b2 : W.heap[n + 1]? = some (.cells #[.string y.1, uy] 24 (0, 0))
  hx : IdsAt W ux x.2
  hy : IdsAt W uy y.2
  tab : Tab W
  low : Below w.heap.size w W
theorem CW.below {w W W' : World} {n : Nat} {x y : M} {ux uy : Value} (h : CW w W n x y ux uy) (hb : Below W.heap.size W W') : CW w W' n x y ux uy :=
  ⟨(hb.block n (blk_lt h.b1)).trans h.b1, (hb.block (n + 1) (blk_lt h.b2)).trans h.b2, h.hx.below hb, h.hy.below hb, h.tab.below hb, h.low.trans (hb.mono h.low.size)⟩

theorem pair_reads {W : World} {x y : M} {ux uy : Value} (hx : IdsAt W ux x.2) (hy : IdsAt W uy y.2) (T : TypeId) : Reads (W.alloc (.cells #[.string x.1, ux, .string y.1, uy] T)) (.slice (some ⟨W.heap.size, 0, none⟩) 2 2) [x, y] := by
  have hA : Gr W (W.alloc (.cells #[.string x.1, ux, .string y.1, uy] T)) := Gr.alloc _ _
  have h := reads_cons (W := W.alloc (.cells #[.string x.1, ux, .string y.1, uy] T)) (b := W.heap.size) (T := T) (l := [(x.1, x.2, ux), (y.1, y.2, uy)]) (blk_new W #[.string x.1, ux, .string y.1, uy] T) (by simp) (fun p hp => by
    simp only [List.mem_cons, List.not_mem_nil, or_false] at hp
    rcases hp with rfl | rfl
    · exact hx.below hA.below
    · exact hy.below hA.below)
  exact h

set_option maxHeartbeats 4000000 in
set_option maxRecDepth 100000 in
theorem compares_walk (x y : M) {ux uy : Value} (hx : IdsAt w ux x.2) (hy : IdsAt w uy y.2) (hE : Tab w) : Calls Tryd.prog 3 #[.agg #[.string x.1, ux], .agg #[.string y.1, uy]] w fun e w' => e = .returned (.bool true) ∧ Below w.heap.size w w' := by
  have hA : Gr w ((w.alloc (.cells #[.string x.1, ux] 24)).alloc (.cells #[.string y.1, uy] 24)) := Gr.trans _ _ _ (Gr.alloc _ _) (Gr.alloc _ _)
  have p1 := (Below.heap_alloc _ (.cells #[.string y.1, uy] 24) _ (by simp)).trans (blk_new w #[.string x.1, ux] 24)
  have p2 := blk_new (w.alloc (.cells #[.string x.1, ux] 24)) #[.string y.1, uy] 24
  rw [World.size_alloc] at p2
  obtain ⟨A, ca, rfl, hA1, hA2⟩ := id hx
  obtain ⟨B, cb, rfl, hB1, hB2⟩ := id hy
  have hW : CW w ((w.alloc (.cells #[.string x.1, .slice A x.2.length ca] 24)).alloc (.cells #[.string y.1, .slice B y.2.length cb] 24)) w.heap.size x y (.slice A x.2.length ca) (.slice B y.2.length cb) := ⟨p1, p2, hx.below hA.below, hy.below hA.below, hE.below hA.below, hA.below⟩
  clear hA1 hA2 hB1 hB2 hx hy hE p1 p2 hA
  obtain ⟨P1, P2, c, c2, q1, q2, q3, q4, hcase⟩ := cmp_cases x y
  replace q1 := Aside.mk q1
  replace q2 := Aside.mk q2
  replace q3 := Aside.mk q3
  replace q4 := Aside.mk q4
  go_enter Tryd.func3, Tryd.ntmps3
  go_upto_region 1 with fail
  generalize ((w.alloc (.cells #[.string x.1, .slice A x.2.length ca] 24)).alloc (.cells #[.string y.1, .slice B y.2.length cb] 24)) = W at hW ⊢
  generalize w.heap.size = n at hW ⊢
  have d1 := (blk_cell hW.b1 0).trans rfl
  have d2 := (blk_cell hW.b1 1).trans rfl
  have d3 := (blk_cell hW.b2 0).trans rfl
  have d4 := (blk_cell hW.b2 1).trans rfl
  have hR := pair_reads hW.hx hW.hy 24
  have hA : Gr W (W.alloc (.cells #[.string x.1, .slice A x.2.length ca, .string y.1, .slice B y.2.length cb] 24)) := Gr.alloc _ _
  have hS := small_walk hR
  replace hW := hW.below hA.below
  clear hA
  cases hsm : smallB [x, y] with
  | false =>
    rw [hsm] at hS
    replace hS := Aside.mk hS
    replace hW := Aside.mk hW
    go_wp2_with (first | (go_at_call 9; refine hS.out.mono ?_; rintro e w1 ⟨rfl, hG⟩; replace hG := Aside.mk hG) | (go_at_call 10; refine (awake_walk (hW.out.below hG.out.below).tab).mono ?_; rintro e w2 ⟨rfl, hb⟩; replace hb := Aside.mk hb))
    go_ret
    have := hW.out.below hG.out.below
    exact ⟨rfl, this.low.trans (hb.out.mono this.low.size)⟩
  | true =>
    rw [hsm] at hS
    have hfew := small_few hsm
    replace hS := Aside.mk hS
    replace hW := Aside.mk hW
    go_upto_region 3 with (go_at_call 9; refine hS.out.mono ?_; rintro e w1 ⟨rfl, hG⟩; have d5 := (hG.below.cell (p := ⟨n, 0, none⟩) (blk_lt hW.out.b1)).trans ((blk_cell hW.out.b1 0).trans rfl); have d6 := (hG.below.cell (p := ⟨n, 1, none⟩) (blk_lt hW.out.b1)).trans ((blk_cell hW.out.b1 1).trans rfl); have d7 := (hG.below.cell (p := ⟨n + 1, 0, none⟩) (blk_lt hW.out.b2)).trans ((blk_cell hW.out.b2 0).trans rfl); have d8 := (hG.below.cell (p := ⟨n + 1, 1, none⟩) (blk_lt hW.out.b2)).trans ((blk_cell hW.out.b2 1).trans rfl); replace hG := Aside.mk hG)
    have hW1 := hW.out.below hG.out.below
    clear hW hG hS d1 d2 d3 d4 hR
    have hR2 := pair_reads hW1.hx hW1.hy 24
    have hA : Gr w1 (w1.alloc (.cells #[.string x.1, .slice A x.2.length ca, .string y.1, .slice B y.2.length cb] 24)) := Gr.alloc _ _
    have hF := Aside.mk (ref_walk hR2 hfew)
    have hW2 := Aside.mk (hW1.below hA.below)
    clear hA hR2 hW1 hfew
    go_upto_region 4 with (go_at_call 11; refine hF.out.mono ?_; rintro e w3 ⟨r, l, rfl, hO, hkey, hb3⟩; obtain ⟨g, cap, hrf, hgB, hgl⟩ := owns_form1 hO.1 (by have := congrArg List.length hkey; simp at this; omega); have hlen : l.length = 2 := (by have := congrArg List.length hkey; simpa using this); rw [hlen] at hrf; subst hrf; replace hlen := Aside.mk hlen; replace hkey := Aside.mk hkey; replace hO := Aside.mk hO; replace hb3 := Aside.mk hb3)
    have hW := Aside.mk (hW2.out.below hb3.out)
    clear hW2 hF hb3 d5 d6 d7 d8
    obtain ⟨p0, q0, rfl⟩ : ∃ p q, l = [p, q] := by
      match l, hlen.out with
      | [p, q], _ => exact ⟨p, q, rfl⟩
    obtain ⟨k0, k1, k2⟩ : p0.1 = x.1 ∧ p0.2.1 = x.2 ∧ (q0.1 = y.1 ∧ q0.2.1 = y.2) := by
      have := hkey.out
      simp only [List.map_cons, List.map_nil, List.cons.injEq, and_true] at this
      obtain ⟨h1, h2⟩ := this
      exact ⟨congrArg Prod.fst h1, congrArg Prod.snd h1, congrArg Prod.fst h2, congrArg Prod.snd h2⟩
    have i0 := (hO.out.2 p0 (by simp)).at_
    have i1 := (hO.out.2 q0 (by simp)).at_
    rw [k1] at i0
    rw [k2.2] at i1
    have e0 := hO.out.1.cellAt 0 (by decide)
    have e1 := hO.out.1.cellAt 1 (by decide)
    have e2 := hO.out.1.cellAt 2 (by decide)
    have e3 := hO.out.1.cellAt 3 (by decide)
    rw [show (cellsP [p0, q0])[0]? = some (.string x.1) by rw [← k0]; rfl] at e0
    rw [show (cellsP [p0, q0])[1]? = some p0.2.2 from rfl] at e1
    rw [show (cellsP [p0, q0])[2]? = some (.string y.1) by rw [← k2.1]; rfl] at e2
    rw [show (cellsP [p0, q0])[3]? = some q0.2.2 from rfl] at e3
    obtain ⟨U0, V0, eu, _, _⟩ := id i0
    rw [eu] at i0 e1
    clear eu
    obtain ⟨U1, V1, eu, _, _⟩ := id i1
    rw [eu] at i1 e3
    clear eu k0 k1 k2 hO hkey hlen hgB hgl
    replace i0 := Aside.mk i0
    replace i1 := Aside.mk i1
    have hne := hcase
    rcases hcase with ⟨rfl, rfl, rfl, rfl⟩ | ⟨rfl, rfl, rfl, rfl⟩ | ⟨rfl, rfl, rfl, rfl⟩
    all_goals
      clear hne
      go_upto_region 5 with fail
      have hbw : ∀ W', Gr w3.drew W' → Below w3.heap.size w3 W' := fun W' h => (Gr.trans _ _ _ (Gr.drew w3) h).below
      have s0 : ∀ W', Gr w3.drew W' → W'.cell? ⟨g, 0, none⟩ = some (.string x.1) := fun W' h => ((hbw W' h).cell (p := ⟨g, 0, none⟩) (blk_lt2 e0)).trans e0
      have s1 : ∀ W', Gr w3.drew W' → W'.cell? ⟨g, 1, none⟩ = some (.slice U0 x.2.length V0) := fun W' h => ((hbw W' h).cell (p := ⟨g, 1, none⟩) (blk_lt2 e1)).trans e1
      have s2 : ∀ W', Gr w3.drew W' → W'.cell? ⟨g, 2, none⟩ = some (.string y.1) := fun W' h => ((hbw W' h).cell (p := ⟨g, 2, none⟩) (blk_lt2 e2)).trans e2
      have s3 : ∀ W', Gr w3.drew W' → W'.cell? ⟨g, 3, none⟩ = some (.slice U1 y.2.length V1) := fun W' h => ((hbw W' h).cell (p := ⟨g, 3, none⟩) (blk_lt2 e3)).trans e3
      have k12 : Aside (∀ W', Gr w3.drew W' → Calls Tryd.prog 12 #[.agg #[.string x.1, (.slice U0 x.2.length V0)], .agg #[.string y.1, (.slice U1 y.2.length V1)]] W' fun e W2 => ∃ u, e = .returned u ∧ Gr W' W2 ∧ u = .bool (decide (ltM x y))) := ⟨fun W' h => (less_walk x y (i0.out.below (hbw W' h)) (i1.out.below (hbw W' h))).mono fun e W2 ⟨h1, h2⟩ => ⟨_, h1, h2, rfl⟩⟩
      refine XReg.wp_region Gr Gr.refl Gr.trans (by kernel_rfl) (by kernel_rfl) [(5, .det (.slice (some ⟨g, 0, none⟩) 2 cap))] (XReg.base_cons rfl XReg.base_nil) ?_
      repeat (first
        | (refine XReg.walk_move Gr.refl rfl rfl _ rfl (by kernel_rfl) (by kernel_rfl) ?_)
        | (refine XReg.walk_calld k12.out rfl (by kernel_rfl) (by kernel_rfl) _ rfl (by kernel_rfl) (by kernel_rfl) ?_)
        | (refine XReg.run_1 Gr.refl rfl rfl _ rfl (by kernel_rfl) (by kernel_rfl) ?_; apply Exists.intro; refine ⟨fun ρ W hE h1 => ?_, ?_⟩; (go_simp; try rfl))
        | (refine XReg.run_2 Gr.refl rfl rfl rfl _ rfl (by kernel_rfl) (by kernel_rfl) ?_; apply Exists.intro; refine ⟨fun ρ W hE h1 h2 => ?_, ?_⟩; (go_simp; try rfl)))
      intro ρ w4 hE _
      replace hE := hbw _ hE
      have e0 := (hE.cell (p := ⟨g, 0, none⟩) (blk_lt2 e0)).trans e0
      have e1 := (hE.cell (p := ⟨g, 1, none⟩) (blk_lt2 e1)).trans e1
      have e2 := (hE.cell (p := ⟨g, 2, none⟩) (blk_lt2 e2)).trans e2
      have e3 := (hE.cell (p := ⟨g, 3, none⟩) (blk_lt2 e3)).trans e3
      simp only [Act.put, List.setIfInBounds_toArray, List.set_cons_zero, List.set_cons_succ]
      clear hbw s0 s1 s2 s3 k12
      replace i0 := Aside.mk (i0.out.below hE)
      replace i1 := Aside.mk (i1.out.below hE)
      replace hW := Aside.mk (hW.out.below hE)
      clear hE
      rw [q1.out]
      go_upto_region 7 with fail
      have hbw : ∀ W', Gr w4.drew W' → Below w4.heap.size w4 W' := fun W' h => (Gr.trans _ _ _ (Gr.drew w4) h).below
      have s0 : ∀ W', Gr w4.drew W' → W'.cell? ⟨g, 0, none⟩ = some (.string x.1) := fun W' h => ((hbw W' h).cell (p := ⟨g, 0, none⟩) (blk_lt2 e0)).trans e0
      have s1 : ∀ W', Gr w4.drew W' → W'.cell? ⟨g, 1, none⟩ = some (.slice U0 x.2.length V0) := fun W' h => ((hbw W' h).cell (p := ⟨g, 1, none⟩) (blk_lt2 e1)).trans e1
      have s2 : ∀ W', Gr w4.drew W' → W'.cell? ⟨g, 2, none⟩ = some (.string y.1) := fun W' h => ((hbw W' h).cell (p := ⟨g, 2, none⟩) (blk_lt2 e2)).trans e2
      have s3 : ∀ W', Gr w4.drew W' → W'.cell? ⟨g, 3, none⟩ = some (.slice U1 y.2.length V1) := fun W' h => ((hbw W' h).cell (p := ⟨g, 3, none⟩) (blk_lt2 e3)).trans e3
      have k12 : Aside (∀ W', Gr w4.drew W' → Calls Tryd.prog 12 #[.agg #[.string y.1, (.slice U1 y.2.length V1)], .agg #[.string x.1, (.slice U0 x.2.length V0)]] W' fun e W2 => ∃ u, e = .returned u ∧ Gr W' W2 ∧ u = .bool (decide (ltM y x))) := ⟨fun W' h => (less_walk y x (i1.out.below (hbw W' h)) (i0.out.below (hbw W' h))).mono fun e W2 ⟨h1, h2⟩ => ⟨_, h1, h2, rfl⟩⟩
      refine XReg.wp_region Gr Gr.refl Gr.trans (by kernel_rfl) (by kernel_rfl) [(5, .det (.slice (some ⟨g, 0, none⟩) 2 cap))] (XReg.base_cons rfl XReg.base_nil) ?_
      repeat (first
        | (refine XReg.walk_move Gr.refl rfl rfl _ rfl (by kernel_rfl) (by kernel_rfl) ?_)
        | (refine XReg.walk_calld k12.out rfl (by kernel_rfl) (by kernel_rfl) _ rfl (by kernel_rfl) (by kernel_rfl) ?_)
        | (refine XReg.run_1 Gr.refl rfl rfl _ rfl (by kernel_rfl) (by kernel_rfl) ?_; apply Exists.intro; refine ⟨fun ρ W hE h1 => ?_, ?_⟩; (go_simp; try rfl))
        | (refine XReg.run_2 Gr.refl rfl rfl rfl _ rfl (by kernel_rfl) (by kernel_rfl) ?_; apply Exists.intro; refine ⟨fun ρ W hE h1 h2 => ?_, ?_⟩; (go_simp; try rfl)))
      intro ρ w5 hE _
      replace hE := hbw _ hE
      have e0 := (hE.cell (p := ⟨g, 0, none⟩) (blk_lt2 e0)).trans e0
      have e1 := (hE.cell (p := ⟨g, 1, none⟩) (blk_lt2 e1)).trans e1
      have e2 := (hE.cell (p := ⟨g, 2, none⟩) (blk_lt2 e2)).trans e2
      have e3 := (hE.cell (p := ⟨g, 3, none⟩) (blk_lt2 e3)).trans e3
      simp only [Act.put, List.setIfInBounds_toArray, List.set_cons_zero, List.set_cons_succ]
      clear hbw s0 s1 s2 s3 k12
      replace i0 := Aside.mk (i0.out.below hE)
      replace i1 := Aside.mk (i1.out.below hE)
      replace hW := Aside.mk (hW.out.below hE)
      clear hE
      rw [q2.out]
      have d1 := (blk_cell hW.out.b1 0).trans rfl
      have d2 := (blk_cell hW.out.b1 1).trans rfl
      have d3 := (blk_cell hW.out.b2 0).trans rfl
      have d4 := (blk_cell hW.out.b2 1).trans rfl
      have hC := compare_walk x y hW.out.hx hW.out.hy
      rw [q3.out] at hC
      replace hC := Aside.mk hC
      clear e0 e1 e2 e3
      go_wp2_with fail
      go_at_call 13
      refine hC.out.mono ?_
      rintro e w6 ⟨rfl, hG6⟩
      replace hW := Aside.mk (hW.out.below hG6.below)
      have d1 := (blk_cell hW.out.b1 0).trans rfl
      have d2 := (blk_cell hW.out.b1 1).trans rfl
      have d3 := (blk_cell hW.out.b2 0).trans rfl
      have d4 := (blk_cell hW.out.b2 1).trans rfl
      have hD := compare_walk y x hW.out.hy hW.out.hx
      rw [q4.out] at hD
      replace hD := Aside.mk hD
      clear hG6
      go_wp2_with fail
      go_at_call 13
      refine hD.out.mono ?_
      rintro e w7 ⟨rfl, hG7⟩
      replace hW := Aside.mk (hW.out.below hG7.below)
      clear hG7 d1 d2 d3 d4
      go_wp2_with (go_at_call 10; refine (awake_walk hW.out.tab).mono ?_; rintro e w2 ⟨rfl, hb⟩; replace hb := Aside.mk hb)
      go_ret
      exact ⟨rfl, hW.out.low.trans (hb.out.mono hW.out.low.size)⟩
end
end Go.Proofs.YtmhpogajklihdaaDoor.C
