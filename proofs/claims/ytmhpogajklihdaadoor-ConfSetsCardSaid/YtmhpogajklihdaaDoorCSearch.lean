/- The library's 'BinarySearchFunc' at a row of layer 20 that rises. -/
import Derived.Test.YtmhpogajklihdaaDoorCSorts
namespace Go.Proofs.YtmhpogajklihdaaDoor.C
open Go.RowKit Go.Shelf Go.Lib Go.Sort Go.Proofs.YtmhpogajklihdaaDoorW.PrintWords

attribute [local go_sem] XReg.envOf

/-- Is x in the list? -/
def hasM (L : List M) (x : M) : Bool := L.any fun y => cmpM y x == 0
theorem hasM_iff {L : List M} {x : M} : hasM L x = true ↔ x ∈ L := by
  unfold hasM
  rw [List.any_eq_true]
  constructor
  · rintro ⟨y, hy, e⟩
    have e2 : y = x := cmpM_zero (by simpa using e)
    rw [← e2]; exact hy
  · intro h
    exact ⟨x, h, by simp [cmpM_self]⟩
theorem search_end {L : List M} (hr : Rising L) {x : M} {i : Nat} (h1 : ∀ t (_ : t < L.length), t < i → ltM L[t] x) (h2 : ∀ t (_ : t < L.length), i ≤ t → ¬ ltM L[t] x) : x ∈ L ↔ ∃ h : i < L.length, cmpM L[i] x = 0 := by
  constructor
  · intro hx
    obtain ⟨t, ht, rfl⟩ := List.getElem_of_mem hx
    have hti : ¬ t < i := fun q => ltM_irrefl _ (h1 t ht q)
    by_cases e : t = i
    · subst e; exact ⟨ht, cmpM_self _⟩
    · have hi : i < L.length := by omega
      exact absurd (List.pairwise_iff_getElem.1 hr i t hi ht (by omega)) (h2 i hi (Nat.le_refl _))
  · rintro ⟨h, e⟩
    rw [← cmpM_zero e]
    exact List.getElem_mem h

section
variable {w : World} {v u : Value} {L : List M}

set_option maxHeartbeats 1000000 in
set_option maxRecDepth 100000 in
theorem search_walk (h : Reads w v L) (hl : L.length ≤ 100000) (hr : Rising L) (x : M) (hx : IdsAt w u x.2) : Calls Tryd.prog 51 #[v, .agg #[.string x.1, u], .func (.func 13) #[] #[]] w fun e w' => (∃ i : Int, e = .returned (.tuple #[.int .i64 i, .bool (hasM L x)])) ∧ Gr w w' := by
  have hA : Gr w (w.alloc (.cells #[.string x.1, u] 24)) := Gr.alloc _ _
  have p1 := blk_new w #[.string x.1, u] 24
  replace h := h.below hA.below
  replace hx := hx.below hA.below
  obtain ⟨A, cap, rfl, hm, hc⟩ := h
  obtain ⟨U, ucap, rfl, hU1, hU2⟩ := hx
  replace hx : IdsAt (w.alloc (.cells #[.string x.1, .slice U x.2.length ucap] 24)) (.slice U x.2.length ucap) x.2 := ⟨U, ucap, rfl, hU1, hU2⟩
  clear hU1 hU2
  replace hc := Aside.mk hc
  replace hA := Aside.mk hA
  replace hx := Aside.mk hx
  replace p1 := Aside.mk p1
  go_enter Tryd.func51, Tryd.ntmps51
  go_upto_region 1 with fail
  generalize hW : w.alloc (.cells #[.string x.1, .slice U x.2.length ucap] 24) = W at hA p1 hx hc ⊢
  clear hW
  generalize w.heap.size = nb at p1 ⊢
  go_wp2_with fail
  go_loopw [9, 10] (fun a b wr => ∃ i j : Nat, a = .int .i64 (i : Int) ∧ b = .int .i64 (j : Int) ∧ i ≤ j ∧ j ≤ L.length ∧ (∀ t (_ : t < L.length), t < i → ltM L[t] x) ∧ (∀ t (_ : t < L.length), j ≤ t → ¬ ltM L[t] x) ∧ Gr W wr) (fun a b _ => (intOf b).toNat - (intOf a).toNat)
  case atStart => exact ⟨0, L.length, rfl, rfl, Nat.zero_le _, Nat.le_refl _, fun _ _ h => absurd h (by omega), fun _ _ h => absurd h (by omega), Gr.refl _⟩
  case round =>
    obtain ⟨i, j, rfl, rfl, hij, hj, h1, h2, hG⟩ := hrel
    replace h1 := Aside.mk h1
    replace h2 := Aside.mk h2
    replace hG := Aside.mk hG
    by_cases hlt : i < j
    · go_upto_region 5 with fail
      obtain ⟨m, hm1, hm2, hm3⟩ : ∃ m : Nat, ((i : Int) + j) / 2 = (m : Int) ∧ i ≤ m ∧ m < j := ⟨(i + j) / 2, by omega, by omega, by omega⟩
      rw [hm1]
      clear hm1
      have hmL : m < L.length := by omega
      obtain ⟨b, o, um, rfl, hbl, g0, g1, g2⟩ := hc.out m hmL
      have hb : ∀ W', Gr wr.drew W' → Below W.heap.size W W' := fun W' h => (Gr.trans _ _ _ (Gr.trans _ _ _ hG.out (Gr.drew wr)) h).below
      have c0 : ∀ W', Gr wr.drew W' → W'.cell? ⟨b, o + m * 2, none⟩ = some (.string L[m].1) := fun W' h => ((hb W' h).cell (p := ⟨b, o + m * 2, none⟩) hbl).trans g0
      have c1 : ∀ W', Gr wr.drew W' → W'.cell? ⟨b, o + m * 2 + 1, none⟩ = some um := fun W' h => ((hb W' h).cell (p := ⟨b, o + m * 2 + 1, none⟩) hbl).trans g1
      have c2 : ∀ W', Gr wr.drew W' → W'.cell? ⟨nb, 0, none⟩ = some (.string x.1) := fun W' h => ((hb W' h).cell (p := ⟨nb, 0, none⟩) (blk_lt p1.out)).trans ((blk_cell p1.out 0).trans rfl)
      have c3 : ∀ W', Gr wr.drew W' → W'.cell? ⟨nb, 1, none⟩ = some (.slice U x.2.length ucap) := fun W' h => ((hb W' h).cell (p := ⟨nb, 1, none⟩) (blk_lt p1.out)).trans ((blk_cell p1.out 1).trans rfl)
      have k13 : ∀ W', Gr wr.drew W' → Calls Tryd.prog 13 (#[.agg #[.string L[m].1, um], .agg #[.string x.1, .slice U x.2.length ucap]] ++ #[]) W' fun e W2 => ∃ u, e = .returned u ∧ Gr W' W2 ∧ u = .int .i64 (cmpM L[m] x) := fun W' h => by
        rw [Array.append_empty]
        exact (compare_walk L[m] x (g2.below (hb W' h)) (hx.out.below (hb W' h))).mono fun e W2 ⟨h1, h2⟩ => ⟨_, h1, h2, rfl⟩
      obtain ⟨ua, uc, rfl, _, _⟩ := id g2
      replace k13 := Aside.mk k13
      clear g0 g1 g2 hb
      refine XReg.wp_region Gr Gr.refl Gr.trans (by kernel_rfl) (by kernel_rfl) [(0, .det (.slice (some ⟨b, o, none⟩) L.length cap)), (2, .det (.func (.func 13) #[] #[])), (4, .det (.pointer (some ⟨nb, 0, none⟩))), (11, .det (.int .i64 (m : Int)))] (XReg.base_cons rfl (XReg.base_cons rfl (XReg.base_cons rfl (XReg.base_cons rfl XReg.base_nil)))) ?_
      repeat (first
        | (refine XReg.walk_move Gr.refl rfl rfl _ rfl (by kernel_rfl) (by kernel_rfl) ?_)
        | (refine XReg.walk_callv k13.out rfl rfl (by kernel_rfl) rfl _ rfl (by kernel_rfl) (by kernel_rfl) ?_)
        | (refine XReg.run_1 Gr.refl rfl rfl _ rfl (by kernel_rfl) (by kernel_rfl) ?_; apply Exists.intro; refine ⟨fun ρ W hE h1 => ?_, ?_⟩; (go_simp; try rfl))
        | (refine XReg.run_2 Gr.refl rfl rfl rfl _ rfl (by kernel_rfl) (by kernel_rfl) ?_; apply Exists.intro; refine ⟨fun ρ W hE h1 h2 => ?_, ?_⟩; (go_simp; try rfl)))
      intro ρ W' hE _
      replace hE := Aside.mk (Gr.trans _ _ _ (Gr.drew wr) hE)
      simp only [Act.put, List.setIfInBounds_toArray, List.set_cons_zero, List.set_cons_succ]
      clear c0 c1 c2 c3 k13
      by_cases hd : cmpM L[m] x < 0
      · have hq : ∀ t (_ : t < L.length), t < m + 1 → ltM L[t] x := fun t ht h => by
          by_cases e : t = m
          · subst e; exact hd
          · exact cmpM_trans (List.pairwise_iff_getElem.1 hr t m ht hmL (by omega)) hd
        replace hq := Aside.mk hq
        rw [decide_eq_true hd]
        clear hd
        go_wp2_with fail
        go_roundw
        case rel => exact ⟨m + 1, j, by go_num, rfl, by omega, hj, hq.out, h2.out, Gr.trans _ _ _ hG.out hE.out⟩
        case measure => simp [intOf]; omega
      · have hq : ∀ t (_ : t < L.length), m ≤ t → ¬ ltM L[t] x := fun t ht h => by
          by_cases e : t = m
          · subst e; exact hd
          · exact fun q => hd (cmpM_trans (List.pairwise_iff_getElem.1 hr m t hmL ht (by omega)) q)
        replace hq := Aside.mk hq
        rw [decide_eq_false hd]
        clear hd
        go_wp2_with fail
        go_roundw
        case rel => exact ⟨i, m, rfl, rfl, by omega, by omega, h1.out, hq.out, Gr.trans _ _ _ hG.out hE.out⟩
        case measure => simp [intOf]; omega
    · obtain rfl : i = j := by omega
      have hend := search_end hr h1.out h2.out
      by_cases hi : i < L.length
      · have hres : hasM L x = (cmpM L[i] x == 0) := by
          by_cases e : cmpM L[i] x = 0
          · rw [hasM_iff.2 (hend.2 ⟨hi, e⟩), e]; rfl
          · have : ¬ hasM L x = true := fun q => e (hend.1 (hasM_iff.1 q)).2
            simp [this, e]
        replace hres := Aside.mk hres
        clear hend
        have hi2 : (i : Int) < L.length := by omega
        go_upto_region 8 with fail
        obtain ⟨b, o, um, rfl, hbl, g0, g1, g2⟩ := hc.out i hi
        have hb : ∀ W', Gr wr.drew W' → Below W.heap.size W W' := fun W' h => (Gr.trans _ _ _ (Gr.trans _ _ _ hG.out (Gr.drew wr)) h).below
        have c0 : ∀ W', Gr wr.drew W' → W'.cell? ⟨b, o + i * 2, none⟩ = some (.string L[i].1) := fun W' h => ((hb W' h).cell (p := ⟨b, o + i * 2, none⟩) hbl).trans g0
        have c1 : ∀ W', Gr wr.drew W' → W'.cell? ⟨b, o + i * 2 + 1, none⟩ = some um := fun W' h => ((hb W' h).cell (p := ⟨b, o + i * 2 + 1, none⟩) hbl).trans g1
        have c2 : ∀ W', Gr wr.drew W' → W'.cell? ⟨nb, 0, none⟩ = some (.string x.1) := fun W' h => ((hb W' h).cell (p := ⟨nb, 0, none⟩) (blk_lt p1.out)).trans ((blk_cell p1.out 0).trans rfl)
        have c3 : ∀ W', Gr wr.drew W' → W'.cell? ⟨nb, 1, none⟩ = some (.slice U x.2.length ucap) := fun W' h => ((hb W' h).cell (p := ⟨nb, 1, none⟩) (blk_lt p1.out)).trans ((blk_cell p1.out 1).trans rfl)
        have k13 : ∀ W', Gr wr.drew W' → Calls Tryd.prog 13 (#[.agg #[.string L[i].1, um], .agg #[.string x.1, .slice U x.2.length ucap]] ++ #[]) W' fun e W2 => ∃ u, e = .returned u ∧ Gr W' W2 ∧ u = .int .i64 (cmpM L[i] x) := fun W' h => by
          rw [Array.append_empty]
          exact (compare_walk L[i] x (g2.below (hb W' h)) (hx.out.below (hb W' h))).mono fun e W2 ⟨h1, h2⟩ => ⟨_, h1, h2, rfl⟩
        obtain ⟨ua, uc, rfl, _, _⟩ := id g2
        replace k13 := Aside.mk k13
        clear g0 g1 g2 hb
        refine XReg.wp_region Gr Gr.refl Gr.trans (by kernel_rfl) (by kernel_rfl) [(0, .det (.slice (some ⟨b, o, none⟩) L.length cap)), (2, .det (.func (.func 13) #[] #[])), (4, .det (.pointer (some ⟨nb, 0, none⟩))), (8, .det (.int .i64 (L.length : Int))), (9, .det (.int .i64 (i : Int)))] (XReg.base_cons rfl (XReg.base_cons rfl (XReg.base_cons rfl (XReg.base_cons rfl (XReg.base_cons rfl XReg.base_nil))))) ?_
        repeat (first
          | (refine XReg.walk_move Gr.refl rfl rfl _ rfl (by kernel_rfl) (by kernel_rfl) ?_)
          | (refine XReg.walk_assign Gr.refl rfl rfl _ rfl (by kernel_rfl) (by kernel_rfl) ?_)
          | (refine XReg.walk_callv k13.out rfl rfl (by kernel_rfl) rfl _ rfl (by kernel_rfl) (by kernel_rfl) ?_)
          | (refine XReg.run_1 Gr.refl rfl rfl _ rfl (by kernel_rfl) (by kernel_rfl) ?_; apply Exists.intro; refine ⟨fun ρ W hE h1 => ?_, ?_⟩; (go_simp; try rfl))
          | (refine XReg.run_2 Gr.refl rfl rfl rfl _ rfl (by kernel_rfl) (by kernel_rfl) ?_; apply Exists.intro; refine ⟨fun ρ W hE h1 h2 => ?_, ?_⟩; (go_simp; try rfl)))
        intro ρ W' hE _
        replace hE := Aside.mk (Gr.trans _ _ _ (Gr.drew wr) hE)
        simp only [Act.put, List.setIfInBounds_toArray, List.set_cons_zero, List.set_cons_succ]
        clear c0 c1 c2 c3 k13
        go_wp2_with fail
        go_ret2
        exact ⟨⟨_, by rw [hres.out]; rfl⟩, Gr.trans _ _ _ hA.out (Gr.trans _ _ _ hG.out hE.out)⟩
      · have hres : hasM L x = false := by
          have : ¬ hasM L x = true := fun q => hi (hend.1 (hasM_iff.1 q)).1
          simpa using this
        replace hres := Aside.mk hres
        clear hend
        have hi2 : ¬ (i : Int) < L.length := by omega
        go_upto_region 8 with fail
        refine XReg.wp_region Gr Gr.refl Gr.trans (by kernel_rfl) (by kernel_rfl) [(0, .det (.slice A L.length cap)), (2, .det (.func (.func 13) #[] #[])), (8, .det (.int .i64 (L.length : Int))), (9, .det (.int .i64 (i : Int)))] (XReg.base_cons rfl (XReg.base_cons rfl (XReg.base_cons rfl (XReg.base_cons rfl XReg.base_nil)))) ?_
        repeat (first
          | (refine XReg.walk_skip _ rfl (by kernel_rfl) (by rfl) ?_)
          | (refine XReg.walk_move Gr.refl rfl rfl _ rfl (by kernel_rfl) (by kernel_rfl) ?_)
          | (refine XReg.walk_assign Gr.refl rfl rfl _ rfl (by kernel_rfl) (by kernel_rfl) ?_)
          | (refine XReg.run_1 Gr.refl rfl rfl _ rfl (by kernel_rfl) (by kernel_rfl) ?_; apply Exists.intro; refine ⟨fun ρ W hE h1 => ?_, ?_⟩; (go_simp; try rfl))
          | (refine XReg.run_2 Gr.refl rfl rfl rfl _ rfl (by kernel_rfl) (by kernel_rfl) ?_; apply Exists.intro; refine ⟨fun ρ W hE h1 h2 => ?_, ?_⟩; (go_simp; try rfl)))
        intro ρ W' hE _
        replace hE := Aside.mk (Gr.trans _ _ _ (Gr.drew wr) hE)
        simp only [Act.put, List.setIfInBounds_toArray, List.set_cons_zero, List.set_cons_succ]
        go_wp2_with fail
        go_ret2
        exact ⟨⟨_, by rw [hres.out]; rfl⟩, Gr.trans _ _ _ hA.out (Gr.trans _ _ _ hG.out hE.out)⟩
end
end Go.Proofs.YtmhpogajklihdaaDoor.C
