/- 'Compare' of layer 20, and 'one'. -/
import Derived.Test.YtmhpogajklihdaaDoorCBase
namespace Go.Proofs.YtmhpogajklihdaaDoor.C
open Go.RowKit Go.Shelf Go.Lib Go.Sort

theorem blk_new (w : World) (cs : Array Value) (t : TypeId) : (w.alloc (.cells cs t)).heap[w.heap.size]? = some (.cells cs t (0, 0)) := by show (w.heap.push _)[w.heap.size]? = _; simp
theorem blk_cell {w : World} {b : Nat} {cs : Array Value} {t : TypeId} {fr : Nat × Nat} (h : w.heap[b]? = some (.cells cs t fr)) (i : Nat) : w.cell? ⟨b, i, none⟩ = cs[i]? := by simp [World.cell?, h]
theorem blk_lt {w : World} {b : Nat} {o : Obj} (h : w.heap[b]? = some o) : b < w.heap.size := (Array.getElem?_eq_some_iff.1 h).1

/-- Two numbers in a row of their own. -/
def Two (x y : Int) (u : Value) (w : World) : Prop := ∃ b, u = .slice (some ⟨b, 0, none⟩) 2 2 ∧ b < w.heap.size ∧ w.cell? ⟨b, 0, none⟩ = some (.int .i64 x) ∧ w.cell? ⟨b, 1, none⟩ = some (.int .i64 y)
theorem Two.up {x y : Int} : ∀ u w w', Two x y u w → Gr w w' → Two x y u w' := fun _ _ _ ⟨b, e, hl, h0, h1⟩ hg =>
  ⟨b, e, Nat.lt_of_lt_of_le hl hg.below.size, (hg.below.cell (p := ⟨b, 0, none⟩) hl).trans h0, (hg.below.cell (p := ⟨b, 1, none⟩) hl).trans h1⟩

attribute [local go_sem] XReg.envOf

section
variable {w : World}

set_option maxHeartbeats 1000000 in
set_option maxRecDepth 100000 in
theorem compare_walk (x y : M) {ux uy : Value} (hx : IdsAt w ux x.2) (hy : IdsAt w uy y.2) : Calls Tryd.prog 13 #[.agg #[.string x.1, ux], .agg #[.string y.1, uy]] w fun e w' => e = .returned (.int .i64 (cmpM x y)) ∧ Gr w w' := by
  have hA : Gr w ((w.alloc (.cells #[.string x.1, ux] 24)).alloc (.cells #[.string y.1, uy] 24)) := Gr.trans _ _ _ (Gr.alloc _ _) (Gr.alloc _ _)
  have p1 := (Below.heap_alloc _ (.cells #[.string y.1, uy] 24) _ (by simp)).trans (blk_new w #[.string x.1, ux] 24)
  have p2 := blk_new (w.alloc (.cells #[.string x.1, ux] 24)) #[.string y.1, uy] 24
  rw [World.size_alloc] at p2
  obtain ⟨A, ca, rfl, hA1, hA2⟩ := hx
  obtain ⟨B, cb, rfl, hB1, hB2⟩ := hy
  have hx : IdsAt w (.slice A x.2.length ca) x.2 := ⟨A, ca, rfl, hA1, hA2⟩
  have hy : IdsAt w (.slice B y.2.length cb) y.2 := ⟨B, cb, rfl, hB1, hB2⟩
  clear hA1 hA2 hB1 hB2
  replace hx := hx.below hA.below
  replace hy := hy.below hA.below
  replace hA := Aside.mk hA
  go_enter Tryd.func13, Tryd.ntmps13
  go_upto_region 1 with fail
  generalize (w.alloc (.cells #[.string x.1, .slice A x.2.length ca] 24)).alloc (.cells #[.string y.1, .slice B y.2.length cb] 24) = W at hA p1 p2 hx hy ⊢
  generalize w.heap.size = n at p1 p2 ⊢
  have hb : ∀ W', Gr W.drew W' → Below W.heap.size W W' := fun W' h => (Gr.trans _ _ _ (Gr.drew W) h).below
  have c1 : ∀ W', Gr W.drew W' → W'.cell? ⟨n, 0, none⟩ = some (.string x.1) := fun W' h => ((hb W' h).cell (p := ⟨n, 0, none⟩) (blk_lt p1)).trans ((blk_cell p1 0).trans rfl)
  have c2 : ∀ W', Gr W.drew W' → W'.cell? ⟨n, 1, none⟩ = some (.slice A x.2.length ca) := fun W' h => ((hb W' h).cell (p := ⟨n, 1, none⟩) (blk_lt p1)).trans ((blk_cell p1 1).trans rfl)
  have c3 : ∀ W', Gr W.drew W' → W'.cell? ⟨n + 1, 0, none⟩ = some (.string y.1) := fun W' h => ((hb W' h).cell (p := ⟨n + 1, 0, none⟩) (blk_lt p2)).trans ((blk_cell p2 0).trans rfl)
  have c4 : ∀ W', Gr W.drew W' → W'.cell? ⟨n + 1, 1, none⟩ = some (.slice B y.2.length cb) := fun W' h => ((hb W' h).cell (p := ⟨n + 1, 1, none⟩) (blk_lt p2)).trans ((blk_cell p2 1).trans rfl)
  have k27 : Aside (∀ W', Gr W.drew W' → Calls Tryd.prog 27 #[.string x.1, .string y.1] W' fun e W2 => ∃ u, e = .returned u ∧ Gr W' W2 ∧ u = .int .i64 (cmpB x.1 y.1)) := ⟨fun W' _ => (cmp_str x.1 y.1 W').mono fun e W2 ⟨h1, h2⟩ => ⟨_, h1, by rw [← h2]; exact Gr.refl _, rfl⟩⟩
  have k28 : Aside (∀ W', Gr W.drew W' → Calls Tryd.prog 28 #[.slice A x.2.length ca, .slice B y.2.length cb] W' fun e W2 => ∃ u, e = .returned u ∧ Gr W' W2 ∧ u = .int .i64 (cmpL x.2 y.2)) := ⟨fun W' h => (cmp_ids (hx.below (hb W' h)) (hy.below (hb W' h))).mono fun e W2 ⟨h1, h2⟩ => ⟨_, h1, by rw [← h2]; exact Gr.refl _, rfl⟩⟩
  have k26 : Aside (∀ u1 W', Gr W.drew W' → Two (cmpB x.1 y.1) (cmpL x.2 y.2) u1 W' → Calls Tryd.prog 26 #[u1] W' fun e W2 => ∃ u, e = .returned u ∧ Gr W' W2 ∧ u = .int .i64 (cmpM x y)) := ⟨fun u1 W' _ ⟨b, e, hl, h0, h1⟩ => by
    subst e
    exact (or_two h0 h1).mono fun e W2 ⟨h1, h2⟩ => ⟨_, h1, by rw [← h2]; exact Gr.refl _, rfl⟩⟩
  clear hx hy hb p1 p2
  refine XReg.wp_region Gr Gr.refl Gr.trans (by kernel_rfl) (by kernel_rfl) [(2, .det (.pointer (some ⟨n, 0, none⟩))), (3, .det (.pointer (some ⟨n + 1, 0, none⟩)))] (XReg.base_cons rfl (XReg.base_cons rfl XReg.base_nil)) ?_
  repeat (first
    | (refine XReg.walk_assign Gr.refl rfl rfl _ rfl (by kernel_rfl) (by kernel_rfl) ?_)
    | (refine XReg.walk_calld k27.out rfl (by kernel_rfl) (by kernel_rfl) _ rfl (by kernel_rfl) (by kernel_rfl) ?_)
    | (refine XReg.walk_calld k28.out rfl (by kernel_rfl) (by kernel_rfl) _ rfl (by kernel_rfl) (by kernel_rfl) ?_)
    | (refine XReg.walk_calld0 k26.out rfl (by kernel_rfl) rfl _ rfl (by kernel_rfl) (by kernel_rfl) ?_)
    | (refine XReg.run_1 Gr.refl rfl rfl _ rfl (by kernel_rfl) (by kernel_rfl) ?_; apply Exists.intro; refine ⟨fun ρ W hE h1 => ?_, ?_⟩; (go_simp; try rfl))
    | (refine XReg.nd_2 (Two (cmpB x.1 y.1) (cmpL x.2 y.2)) Two.up rfl rfl rfl (fun ρ W hE h1 h2 => ⟨_, _, by (go_simp; try rfl), Gr.alloc _ _, _, rfl, by simp, (blk_cell (blk_new W _ _) 0).trans rfl, (blk_cell (blk_new W _ _) 1).trans rfl⟩) _ rfl (by kernel_rfl) (by kernel_rfl) ?_))
  intro ρ W' hE _
  have hG := Aside.mk (Gr.trans _ _ _ hA.out (Gr.trans _ _ _ (Gr.drew W) hE))
  clear hE c1 c2 c3 c4 k27 k28 k26 hA
  simp only [Act.put, List.setIfInBounds_toArray, List.set_cons_zero, List.set_cons_succ]
  go_wp2
  go_ret
  exact ⟨rfl, hG.out⟩

set_option maxRecDepth 100000 in
theorem one_walk (x y : M) {ux uy : Value} (hx : IdsAt w ux x.2) (hy : IdsAt w uy y.2) : Calls Tryd.prog 32 #[.agg #[.string x.1, ux], .agg #[.string y.1, uy]] w fun e w' => e = .returned (.bool (decide (x = y))) ∧ Gr w w' := by
  have hA : Gr w ((w.alloc (.cells #[.string x.1, ux] 24)).alloc (.cells #[.string y.1, uy] 24)) := Gr.trans _ _ _ (Gr.alloc _ _) (Gr.alloc _ _)
  have hC := Aside.mk (compare_walk x y (hx.below hA.below) (hy.below hA.below))
  obtain ⟨A, ca, rfl, hA1, hA2⟩ := hx
  obtain ⟨B, cb, rfl, hB1, hB2⟩ := hy
  clear hA1 hA2 hB1 hB2
  have he : decide (x = y) = (cmpM x y == 0) := by
    by_cases e : x = y
    · rw [decide_eq_true e, e, cmpM_self]; rfl
    · rw [decide_eq_false e]
      have : cmpM x y ≠ 0 := fun q => e (cmpM_zero q)
      simp [this]
  rw [he]
  replace hA := Aside.mk hA
  clear he
  go_enter Tryd.func32, Tryd.ntmps32
  go_wp2_with (go_at_call 13; refine hC.out.mono ?_; rintro e w2 ⟨rfl, hG⟩; replace hG := Aside.mk hG)
  go_ret
  exact ⟨rfl, Gr.trans _ _ _ hA.out hG.out⟩
end
end Go.Proofs.YtmhpogajklihdaaDoor.C
