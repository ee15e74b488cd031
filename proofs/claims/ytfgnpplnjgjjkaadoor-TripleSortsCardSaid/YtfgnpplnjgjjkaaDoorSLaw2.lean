/- The law TripleSorts walked: the law. -/
import Derived.Test.YtfgnpplnjgjjkaaDoorSLaw
import Derived.IntWalk
namespace Go.Proofs.YtfgnpplnjgjjkaaDoor.T
open Go.RowKit Go.Shelf Go.Lib Go.Sort Go.Proofs.YtfgnpplnjgjjkaaDoorW.PrintWords Go.Proofs.YtfgnpplnjgjjkaaDoor.K

attribute [local go_sem] XReg.envOf
attribute [local go_sem high] eq23

theorem count_snoc (x y : Tr) (l : List Tr) : (l ++ [y]).count x = l.count x + if y = x then 1 else 0 := by
  rw [List.count_append, List.count_singleton]
  by_cases h : y = x
  · simp [h]
  · simp [h]

section
variable {w : World} {l : List Tr}

set_option maxHeartbeats 8000000 in
set_option maxRecDepth 100000 in
theorem sorts_walk {A : Option Addr} {cap : Nat} (hR : RT w.heap.size w (.slice A l.length cap) l) (hE : Env w) : Calls Tryd.prog 12 #[.slice A l.length cap] w fun e w' => e = .returned (.bool true) ∧ Below w.heap.size w w' := by
  have hmx : l.length ≤ 9223372036854775807 := by obtain ⟨_, _, _, h, _⟩ := hR; exact h
  by_cases h60 : l.length ≤ 60
  · have g1 : ¬ (60 : Int) < l.length := by omega
    have hA : Gr w (w.alloc (.cells #[] 23)) := Gr.alloc _ _
    have p1 := blk_new w (.cells #[] 23)
    obtain ⟨v3, w3, hrun, hB3, ho3⟩ := app_tr (B := w.heap.size) p1 (Nat.le_refl _) (hR.below hA.below) (by omega)
    obtain ⟨a3, c3, rfl⟩ := owns_form ho3
    have hB3' : Below w.heap.size w w3 := hA.below.trans (hB3.mono hA.below.size)
    have hS := Aside0.mk (sort02_walk (rt_of ho3 (Nat.le_refl _) (by omega)) (by omega))
    have hs3 := hB3'.size
    replace hB3' := Aside0.mk hB3'
    replace ho3 := Aside0.mk ho3
    replace hrun := Aside0.mk hrun
    replace hR := Aside0.mk hR
    replace hE := Aside0.mk hE
    clear hA p1 hB3
    go_enter Tryd.func12, Tryd.ntmps12
    go_upto_region 4 with (at_builtin; refine wpList_append_run rfl _ _ 27 rfl _ _ rfl rfl _ _ hrun.out ?_)
    go_wp2_with fail
    go_at_call 37
    refine hS.out.mono ?_
    rintro e w4 ⟨v4, l', rfl, hp, hsd, ho4, hb4⟩
    have hlen := hp.length_eq
    rw [hlen] at ho4
    obtain ⟨a4, c4, rfl⟩ := owns_form ho4
    have hn := Aside0.mk hlen
    have hB4 := Aside0.mk (hB3'.out.trans (hb4.mono hs3))
    -- the three rows, in the world ahead of the loop
    have hRl := hR.out.below hB4.out
    have ho3' := ho3.out
    have hRo := (rt_of ho3' (Nat.le_refl _) (by omega)).below hb4
    have hRs : RT w4.heap.size w4 (.slice a4 l.length c4) l' := rt_of (l := l') (v := .slice a4 l.length c4) (by rw [hlen]; exact ho4) (Nat.le_refl _) (by omega)
    have hs34 := hb4.size
    clear hS ho3 ho3' hlen ho4 hb4 hB3' hrun hs3
    have hs4 := hB4.out.size
    replace hRl := Aside0.mk (hRl.mono_ (n₁ := w4.heap.size) hs4)
    replace hRo := Aside0.mk (hRo.mono_ (n₁ := w4.heap.size) hs34)
    replace hRs := Aside0.mk hRs
    replace hp := Aside0.mk hp
    replace hsd := Aside0.mk hsd
    have hnn : ((l.length : Int) != l.length) = false := by simp
    go_wp2_with fail
    clear hnn
    go_loopw [25] (fun a wr => ∃ i : Nat, a = .int .i64 (i : Int) ∧ i ≤ l.length ∧ Below w4.heap.size w4 wr) (fun a _ => l.length - (RowKit.intOf a).toNat)
    case atStart => exact ⟨0, rfl, Nat.zero_le _, Below.refl _ _⟩
    case round =>
      obtain ⟨i, rfl, hi, hBr⟩ := hrel
      by_cases hlt : i < l.length
      · have hlt' : i < l'.length := by rw [hn.out]; exact hlt
        obtain ⟨_, _, e, _, hcl⟩ := id hRl.out
        cases e
        obtain ⟨b, o, rfl, _, hbl, e0, e1, e2⟩ := hcl i hlt
        obtain ⟨_, _, e, _, hco⟩ := id hRo.out
        cases e
        obtain ⟨b3, o3, rfl, _, hbl3, f0, f1, f2⟩ := hco i hlt
        obtain ⟨_, _, e, _, hcs⟩ := id hRs.out
        simp only [Value.slice.injEq] at e
        obtain ⟨rfl, hq, rfl⟩ := e
        clear hq
        obtain ⟨b4, o4, rfl, _, hbl4, k0, k1, k2⟩ := hcs i hlt'
        have hbw : ∀ W', Gr wr.drew W' → Below w4.heap.size w4 W' := fun W' h => hBr.trans ((Gr.trans _ _ _ (Gr.drew wr) h).below.mono hBr.size)
        have s0 : ∀ W', Gr wr.drew W' → W'.cell? ⟨b, o + i * 3, none⟩ = some (.int .i64 l[i].1) := fun W' h => ((hbw W' h).cell (p := ⟨b, o + i * 3, none⟩) (hbl)).trans e0
        have s1 : ∀ W', Gr wr.drew W' → W'.cell? ⟨b, o + i * 3 + 1, none⟩ = some (.int .i64 l[i].2.1) := fun W' h => ((hbw W' h).cell (p := ⟨b, o + i * 3 + 1, none⟩) (hbl)).trans e1
        have s2 : ∀ W', Gr wr.drew W' → W'.cell? ⟨b, o + i * 3 + 2, none⟩ = some (.int .i64 l[i].2.2) := fun W' h => ((hbw W' h).cell (p := ⟨b, o + i * 3 + 2, none⟩) (hbl)).trans e2
        have u0 : ∀ W', Gr wr.drew W' → W'.cell? ⟨b3, o3 + i * 3, none⟩ = some (.int .i64 l[i].1) := fun W' h => ((hbw W' h).cell (p := ⟨b3, o3 + i * 3, none⟩) (hbl3)).trans f0
        have u1 : ∀ W', Gr wr.drew W' → W'.cell? ⟨b3, o3 + i * 3 + 1, none⟩ = some (.int .i64 l[i].2.1) := fun W' h => ((hbw W' h).cell (p := ⟨b3, o3 + i * 3 + 1, none⟩) (hbl3)).trans f1
        have u2 : ∀ W', Gr wr.drew W' → W'.cell? ⟨b3, o3 + i * 3 + 2, none⟩ = some (.int .i64 l[i].2.2) := fun W' h => ((hbw W' h).cell (p := ⟨b3, o3 + i * 3 + 2, none⟩) (hbl3)).trans f2
        go_upto_region 10 with fail
        go_cut [52] from 28 to 52 (fun v W => v = .bool false ∧ Below w4.heap.size w4 W)
        case first =>
          by_cases h0 : i = 0
          · subst h0
            simp only [Nat.zero_mul, Nat.add_zero] at s0 s1 s2 u0 u1 u2
            refine XReg.wp_region Gr Gr.refl Gr.trans (by kernel_rfl) (by kernel_rfl) [(3, .det (.slice (some ⟨b3, o3, none⟩) l.length c3)), (5, .det (.int .i64 0)), (0, .det (.slice (some ⟨b, o, none⟩) l.length cap)), (4, .det (.slice (some ⟨b4, o4, none⟩) l.length c4))] (XReg.base_cons rfl (XReg.base_cons rfl (XReg.base_cons rfl (XReg.base_cons rfl XReg.base_nil)))) ?_
            repeat (first
              | (refine XReg.walk_skip _ rfl (by kernel_rfl) (by rfl) ?_)
              | (refine XReg.walk_move Gr.refl rfl rfl _ rfl (by kernel_rfl) (by kernel_rfl) ?_)
              | (refine XReg.run_1 Gr.refl rfl rfl _ rfl (by kernel_rfl) (by kernel_rfl) ?_; apply Exists.intro; refine ⟨fun ρ W hE h1 => ?_, ?_⟩; (go_simp; try rfl))
              | (refine XReg.run_2 Gr.refl rfl rfl rfl _ rfl (by kernel_rfl) (by kernel_rfl) ?_; apply Exists.intro; refine ⟨fun ρ W hE h1 h2 => ?_, ?_⟩; (go_simp; try rfl))
              | (refine XReg.run_3 Gr.refl rfl rfl rfl rfl _ rfl (by kernel_rfl) (by kernel_rfl) ?_; apply Exists.intro; refine ⟨fun ρ W hE h1 h2 h3 => ?_, ?_⟩; (go_simp; try rfl)))
            intro ρ W' hE _
            simp only [Act.put, List.setIfInBounds_toArray, List.set_cons_zero, List.set_cons_succ]
            have hE' := hbw _ hE
            clear s0 s1 s2 u0 u1 u2 hE
            go_wp2_with fail
            go_meet
            exact ⟨rfl, hE'⟩
          · obtain ⟨j, rfl⟩ : ∃ j, i = j + 1 := ⟨i - 1, by omega⟩
            have hj' : j < l'.length := by omega
            obtain ⟨_, _, e, _, _, m0, m1, m2⟩ := hcs j hj'
            cases e
            have z0 : (0 : Int) ≤ (j : Int) + 1 := by omega
            have z1 : (j : Int) + 1 < l.length := by omega
            have z2 : (0 : Int) ≤ (j : Int) := by omega
            have z3 : (j : Int) < l.length := by omega
            have z4 : IntKind.i64.wrap (j : Int) = j := IntWalk.i64_in _ (by omega)
            have t0 : ∀ W', Gr wr.drew W' → W'.cell? ⟨b4, o4 + (j + 1) * 3, none⟩ = some (.int .i64 l'[j + 1].1) := fun W' h => ((hbw W' h).cell (p := ⟨b4, o4 + (j + 1) * 3, none⟩) hbl4).trans k0
            have t1 : ∀ W', Gr wr.drew W' → W'.cell? ⟨b4, o4 + (j + 1) * 3 + 1, none⟩ = some (.int .i64 l'[j + 1].2.1) := fun W' h => ((hbw W' h).cell (p := ⟨b4, o4 + (j + 1) * 3 + 1, none⟩) hbl4).trans k1
            have t2 : ∀ W', Gr wr.drew W' → W'.cell? ⟨b4, o4 + (j + 1) * 3 + 2, none⟩ = some (.int .i64 l'[j + 1].2.2) := fun W' h => ((hbw W' h).cell (p := ⟨b4, o4 + (j + 1) * 3 + 2, none⟩) hbl4).trans k2
            have q0 : ∀ W', Gr wr.drew W' → W'.cell? ⟨b4, o4 + j * 3, none⟩ = some (.int .i64 l'[j].1) := fun W' h => ((hbw W' h).cell (p := ⟨b4, o4 + j * 3, none⟩) hbl4).trans m0
            have q1 : ∀ W', Gr wr.drew W' → W'.cell? ⟨b4, o4 + j * 3 + 1, none⟩ = some (.int .i64 l'[j].2.1) := fun W' h => ((hbw W' h).cell (p := ⟨b4, o4 + j * 3 + 1, none⟩) hbl4).trans m1
            have q2 : ∀ W', Gr wr.drew W' → W'.cell? ⟨b4, o4 + j * 3 + 2, none⟩ = some (.int .i64 l'[j].2.2) := fun W' h => ((hbw W' h).cell (p := ⟨b4, o4 + j * 3 + 2, none⟩) hbl4).trans m2
            have hls := less_no (x := l'[j + 1]) (y := l'[j]) (by have := (List.pairwise_iff_getElem.1 hsd.out) j (j + 1) hj' hlt' (by omega); omega)
            have k35 : Aside0 (∀ W', Gr wr.drew W' → Calls Tryd.prog 35 #[ag3 l'[j + 1], ag3 l'[j]] W' fun e W2 => ∃ u, e = .returned u ∧ Gr W' W2 ∧ u = .bool false) := ⟨fun W' _ => (less_gr l'[j + 1] l'[j] W').mono fun e W2 ⟨h1, h2⟩ => ⟨_, h1, h2, by rw [hls]⟩⟩
            clear hls m0 m1 m2 k0 k1 k2 e0 e1 e2 f0 f1 f2
            refine XReg.wp_region Gr Gr.refl Gr.trans (by kernel_rfl) (by kernel_rfl) [(3, .det (.slice (some ⟨b3, o3, none⟩) l.length c3)), (5, .det (.int .i64 ((j + 1 : Nat) : Int))), (0, .det (.slice (some ⟨b, o, none⟩) l.length cap)), (4, .det (.slice (some ⟨b4, o4, none⟩) l.length c4))] (XReg.base_cons rfl (XReg.base_cons rfl (XReg.base_cons rfl (XReg.base_cons rfl XReg.base_nil)))) ?_
            repeat (first
              | (refine XReg.walk_skip _ rfl (by kernel_rfl) (by rfl) ?_)
              | (refine XReg.walk_move Gr.refl rfl rfl _ rfl (by kernel_rfl) (by kernel_rfl) ?_)
              | (refine XReg.walk_calld k35.out rfl (by kernel_rfl) (by kernel_rfl) _ rfl (by kernel_rfl) (by kernel_rfl) ?_)
              | (refine XReg.run_1 Gr.refl rfl rfl _ rfl (by kernel_rfl) (by kernel_rfl) ?_; apply Exists.intro; refine ⟨fun ρ W hE h1 => ?_, ?_⟩; (go_simp; try rfl))
              | (refine XReg.run_2 Gr.refl rfl rfl rfl _ rfl (by kernel_rfl) (by kernel_rfl) ?_; apply Exists.intro; refine ⟨fun ρ W hE h1 h2 => ?_, ?_⟩; (go_simp; try rfl))
              | (refine XReg.run_3 Gr.refl rfl rfl rfl rfl _ rfl (by kernel_rfl) (by kernel_rfl) ?_; apply Exists.intro; refine ⟨fun ρ W hE h1 h2 h3 => ?_, ?_⟩; (go_simp; try rfl)))
            intro ρ W' hE _
            simp only [Act.put, List.setIfInBounds_toArray, List.set_cons_zero, List.set_cons_succ]
            have hE' := hbw _ hE
            clear s0 s1 s2 u0 u1 u2 t0 t1 t2 q0 q1 q2 z0 z1 z2 z3 z4 hE
            go_wp2_with fail
            go_meet
            exact ⟨rfl, hE'⟩
        case rest =>
          obtain ⟨rfl, hBc⟩ := hcut
          clear s0 s1 s2 u0 u1 u2 hbw hBr f0 f1 f2 k0 k1 k2
          go_wp2_with fail
          go_loopw [55, 6, 7] (fun a c d wx => ∃ q : Nat, a = .int .i64 (q : Int) ∧ q ≤ l.length ∧ c = .int .i64 (((l.take q).count l[i] : Nat) : Int) ∧ d = .int .i64 (((l'.take q).count l[i] : Nat) : Int) ∧ Below w4.heap.size w4 wx) (fun a _ _ _ => l.length - (RowKit.intOf a).toNat)
          case atStart => exact ⟨0, rfl, Nat.zero_le _, by simp, by simp, hBc⟩
          case round =>
            clear hBc
            obtain ⟨q, rfl, hq, rfl, rfl, hBx⟩ := hrel
            by_cases hltq : q < l.length
            · have hltq' : q < l'.length := by rw [hn.out]; exact hltq
              obtain ⟨_, _, e, _, _, g0, g1, g2⟩ := hcl q hltq
              cases e
              obtain ⟨_, _, e, _, _, m0, m1, m2⟩ := hcs q hltq'
              cases e
              have ht1 := List.take_succ_eq_append_getElem hltq
              have ht2 := List.take_succ_eq_append_getElem hltq'
              have hb1 : (l.take q).count l[i] ≤ 60 := Nat.le_trans List.count_le_length (by rw [List.length_take]; omega)
              have hb2 : (l'.take q).count l[i] ≤ 60 := Nat.le_trans List.count_le_length (by rw [List.length_take]; omega)
              have hc1 : (l.take (q + 1)).count l[i] = (l.take q).count l[i] + if decide (l[q] = l[i]) = true then 1 else 0 := by rw [ht1, count_snoc]; simp
              have hc2 : (l'.take (q + 1)).count l[i] = (l'.take q).count l[i] + if decide (l'[q] = l[i]) = true then 1 else 0 := by rw [ht2, count_snoc]; simp
              have hq1 := eqB_iff l[q] l[i]
              have hq2 := eqB_iff l'[q] l[i]
              generalize decide (l[q] = l[i]) = P1 at hc1 hq1
              generalize decide (l'[q] = l[i]) = P2 at hc2 hq2
              replace hc1 := Aside0.mk hc1
              replace hc2 := Aside0.mk hc2
              replace hq1 := Aside0.mk hq1
              replace hq2 := Aside0.mk hq2
              clear ht1 ht2
              generalize (l.take q).count l[i] = n1 at hb1 hc1 ⊢
              generalize (l'.take q).count l[i] = n2 at hb2 hc2 ⊢
              have y0 : (0 : Int) ≤ (q : Int) := by omega
              have y1 : (q : Int) < l.length := by omega
              have y2 : (0 : Int) ≤ (i : Int) := by omega
              have y3 : (i : Int) < l.length := by omega
              cases P1 <;> cases P2
              all_goals
                go_upto_region 16 with fail
                have hbw : ∀ W', Gr wr.drew W' → Below w4.heap.size w4 W' := fun W' h => hBx.trans ((Gr.trans _ _ _ (Gr.drew wr) h).below.mono hBx.size)
                have s0 : ∀ W', Gr wr.drew W' → W'.cell? ⟨b, o + i * 3, none⟩ = some (.int .i64 l[i].1) := fun W' h => ((hbw W' h).cell (p := ⟨b, o + i * 3, none⟩) hbl).trans e0
                have s1 : ∀ W', Gr wr.drew W' → W'.cell? ⟨b, o + i * 3 + 1, none⟩ = some (.int .i64 l[i].2.1) := fun W' h => ((hbw W' h).cell (p := ⟨b, o + i * 3 + 1, none⟩) hbl).trans e1
                have s2 : ∀ W', Gr wr.drew W' → W'.cell? ⟨b, o + i * 3 + 2, none⟩ = some (.int .i64 l[i].2.2) := fun W' h => ((hbw W' h).cell (p := ⟨b, o + i * 3 + 2, none⟩) hbl).trans e2
                have t0 : ∀ W', Gr wr.drew W' → W'.cell? ⟨b, o + q * 3, none⟩ = some (.int .i64 l[q].1) := fun W' h => ((hbw W' h).cell (p := ⟨b, o + q * 3, none⟩) hbl).trans g0
                have t1 : ∀ W', Gr wr.drew W' → W'.cell? ⟨b, o + q * 3 + 1, none⟩ = some (.int .i64 l[q].2.1) := fun W' h => ((hbw W' h).cell (p := ⟨b, o + q * 3 + 1, none⟩) hbl).trans g1
                have t2 : ∀ W', Gr wr.drew W' → W'.cell? ⟨b, o + q * 3 + 2, none⟩ = some (.int .i64 l[q].2.2) := fun W' h => ((hbw W' h).cell (p := ⟨b, o + q * 3 + 2, none⟩) hbl).trans g2
                refine XReg.wp_region Gr Gr.refl Gr.trans (by kernel_rfl) (by kernel_rfl) [(0, .det (.slice (some ⟨b, o, none⟩) l.length cap)), (8, .det (.int .i64 (q : Int))), (5, .det (.int .i64 (i : Int)))] (XReg.base_cons rfl (XReg.base_cons rfl (XReg.base_cons rfl XReg.base_nil))) ?_
                repeat (first
                  | (refine XReg.walk_move Gr.refl rfl rfl _ rfl (by kernel_rfl) (by kernel_rfl) ?_)
                  | (refine XReg.run_1 Gr.refl rfl rfl _ rfl (by kernel_rfl) (by kernel_rfl) ?_; apply Exists.intro; refine ⟨fun ρ W hE h1 => ?_, ?_⟩; (go_simp; try rfl))
                  | (refine XReg.run_2 Gr.refl rfl rfl rfl _ rfl (by kernel_rfl) (by kernel_rfl) ?_; apply Exists.intro; refine ⟨fun ρ W hE h1 h2 => ?_, ?_⟩; (go_simp; try rfl)))
                rw [hq1.out]
                intro ρ wy hE _
                simp only [Act.put, List.setIfInBounds_toArray, List.set_cons_zero, List.set_cons_succ]
                replace hBy := hbw _ hE
                clear hbw s0 s1 s2 t0 t1 t2 hE
                go_upto_region 18 with fail
                have hbw : ∀ W', Gr wy.drew W' → Below w4.heap.size w4 W' := fun W' h => hBy.trans ((Gr.trans _ _ _ (Gr.drew wy) h).below.mono hBy.size)
                have s0 : ∀ W', Gr wy.drew W' → W'.cell? ⟨b, o + i * 3, none⟩ = some (.int .i64 l[i].1) := fun W' h => ((hbw W' h).cell (p := ⟨b, o + i * 3, none⟩) hbl).trans e0
                have s1 : ∀ W', Gr wy.drew W' → W'.cell? ⟨b, o + i * 3 + 1, none⟩ = some (.int .i64 l[i].2.1) := fun W' h => ((hbw W' h).cell (p := ⟨b, o + i * 3 + 1, none⟩) hbl).trans e1
                have s2 : ∀ W', Gr wy.drew W' → W'.cell? ⟨b, o + i * 3 + 2, none⟩ = some (.int .i64 l[i].2.2) := fun W' h => ((hbw W' h).cell (p := ⟨b, o + i * 3 + 2, none⟩) hbl).trans e2
                have t0 : ∀ W', Gr wy.drew W' → W'.cell? ⟨b4, o4 + q * 3, none⟩ = some (.int .i64 l'[q].1) := fun W' h => ((hbw W' h).cell (p := ⟨b4, o4 + q * 3, none⟩) hbl4).trans m0
                have t1 : ∀ W', Gr wy.drew W' → W'.cell? ⟨b4, o4 + q * 3 + 1, none⟩ = some (.int .i64 l'[q].2.1) := fun W' h => ((hbw W' h).cell (p := ⟨b4, o4 + q * 3 + 1, none⟩) hbl4).trans m1
                have t2 : ∀ W', Gr wy.drew W' → W'.cell? ⟨b4, o4 + q * 3 + 2, none⟩ = some (.int .i64 l'[q].2.2) := fun W' h => ((hbw W' h).cell (p := ⟨b4, o4 + q * 3 + 2, none⟩) hbl4).trans m2
                refine XReg.wp_region Gr Gr.refl Gr.trans (by kernel_rfl) (by kernel_rfl) [(0, .det (.slice (some ⟨b, o, none⟩) l.length cap)), (4, .det (.slice (some ⟨b4, o4, none⟩) l.length c4)), (8, .det (.int .i64 (q : Int))), (5, .det (.int .i64 (i : Int)))] (XReg.base_cons rfl (XReg.base_cons rfl (XReg.base_cons rfl (XReg.base_cons rfl XReg.base_nil)))) ?_
                repeat (first
                  | (refine XReg.walk_move Gr.refl rfl rfl _ rfl (by kernel_rfl) (by kernel_rfl) ?_)
                  | (refine XReg.run_1 Gr.refl rfl rfl _ rfl (by kernel_rfl) (by kernel_rfl) ?_; apply Exists.intro; refine ⟨fun ρ W hE h1 => ?_, ?_⟩; (go_simp; try rfl))
                  | (refine XReg.run_2 Gr.refl rfl rfl rfl _ rfl (by kernel_rfl) (by kernel_rfl) ?_; apply Exists.intro; refine ⟨fun ρ W hE h1 h2 => ?_, ?_⟩; (go_simp; try rfl)))
                rw [hq2.out]
                intro ρ2 wz hE _
                simp only [Act.put, List.setIfInBounds_toArray, List.set_cons_zero, List.set_cons_succ]
                have hBz := Aside0.mk (hbw _ hE)
                clear hbw s0 s1 s2 t0 t1 t2 hE hBy hBx
                go_wp2_with fail
                go_roundw
                case rel => exact ⟨q + 1, by go_num, by omega, by rw [hc1.out]; simp, by rw [hc2.out]; simp, hBz.out⟩
                case measure => simp [RowKit.intOf]; omega
            · obtain rfl : q = l.length := by omega
              have hcnt : (l'.take l.length).count l[i] = (l.take l.length).count l[i] := by
                rw [List.take_length, List.take_of_length_le (by rw [hn.out]; exact Nat.le_refl _)]
                exact hp.out.count_eq _
              rw [hcnt]
              have hb1 : (l.take l.length).count l[i] ≤ 60 := Nat.le_trans List.count_le_length (by rw [List.length_take]; omega)
              clear hcnt
              generalize (l.take l.length).count l[i] = n1 at hb1 ⊢
              have hnn : ((n1 : Int) != n1) = false := by simp
              replace hBx := Aside0.mk hBx
              go_wp2_with fail
              go_roundw
              case rel => exact ⟨i + 1, by go_num, by omega, hBx.out⟩
              case measure => simp [RowKit.intOf]; omega
      · have hBf := hB4.out.trans (hBr.mono hs4)
        replace hBf := Aside0.mk hBf
        clear hBr
        go_wp2_with (go_at_call 25; refine (awake02_walk _ (hE.out.below hBf.out)).mono ?_; rintro e w7 ⟨rfl, hb⟩; replace hb := Aside0.mk hb)
        go_ret
        exact ⟨rfl, hBf.out.trans (hb.out.mono hBf.out.size)⟩
  · have g1 : (60 : Int) < l.length := by omega
    replace hE := Aside0.mk hE
    clear hR
    go_enter Tryd.func12, Tryd.ntmps12
    go_wp2_with (go_at_call 25; refine (awake02_walk _ hE.out).mono ?_; rintro e w7 ⟨rfl, hb⟩; replace hb := Aside0.mk hb)
    go_ret
    exact ⟨rfl, hb.out⟩
end
end Go.Proofs.YtfgnpplnjgjjkaaDoor.T
