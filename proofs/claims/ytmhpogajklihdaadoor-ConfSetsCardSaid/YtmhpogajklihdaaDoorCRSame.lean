/- 'Same' of the document, and of the laws. -/
import Derived.Test.YtmhpogajklihdaaDoorCHas
namespace Go.Proofs.YtmhpogajklihdaaDoor.C
open Go.RowKit Go.Shelf Go.Lib Go.Sort Go.Proofs.YtmhpogajklihdaaDoorW.PrintWords

attribute [local go_sem] XReg.envOf

section
variable {w : World} {v v2 : Value} {K L : List M}

set_option maxHeartbeats 1000000 in
set_option maxRecDepth 100000 in
theorem rsame_walk (hK : Reads w v K) (hL : Reads w v2 L) : Calls Tryd.prog 21 #[v, v2] w fun e w' => e = .returned (.bool (decide (K = L))) ∧ Gr w w' := by
  obtain ⟨A, cap, rfl, hm, hc⟩ := hK
  obtain ⟨A2, cap2, rfl, hm2, hc2⟩ := hL
  replace hc := Aside.mk hc
  replace hc2 := Aside.mk hc2
  by_cases hlen : K.length = L.length
  · go_enter Tryd.func21, Tryd.ntmps21
    have hne : ((K.length : Int) != L.length) = false := by simp [hlen]
    replace hlen : K.length ≤ L.length ∧ L.length ≤ K.length := by omega
    go_wp2_with fail
    go_loopw [13] (fun a wr => ∃ i : Nat, a = .int .i64 (i : Int) ∧ i ≤ K.length ∧ K.take i = L.take i ∧ Gr w wr) (fun a _ => K.length - (intOf a).toNat)
    case atStart => exact ⟨0, rfl, Nat.zero_le _, rfl, Gr.refl _⟩
    case round =>
      obtain ⟨i, rfl, hi, h1, hG⟩ := hrel
      by_cases hlt : i < K.length
      · have hlt2 : i < L.length := by omega
        obtain ⟨b, o, u, rfl, hbl, g0, g1, g2⟩ := hc.out i hlt
        obtain ⟨b2, o2, u2, rfl, hbl2, k0, k1, k2⟩ := hc2.out i hlt2
        have hb : ∀ W', Gr wr.drew W' → Below w.heap.size w W' := fun W' h => (Gr.trans _ _ _ (Gr.trans _ _ _ hG (Gr.drew wr)) h).below
        have x0 : ∀ W', Gr wr.drew W' → W'.cell? ⟨b, o + i * 2, none⟩ = some (.string K[i].1) := fun W' h => ((hb W' h).cell (p := ⟨b, o + i * 2, none⟩) hbl).trans g0
        have x1 : ∀ W', Gr wr.drew W' → W'.cell? ⟨b, o + i * 2 + 1, none⟩ = some u := fun W' h => ((hb W' h).cell (p := ⟨b, o + i * 2 + 1, none⟩) hbl).trans g1
        have y0 : ∀ W', Gr wr.drew W' → W'.cell? ⟨b2, o2 + i * 2, none⟩ = some (.string L[i].1) := fun W' h => ((hb W' h).cell (p := ⟨b2, o2 + i * 2, none⟩) hbl2).trans k0
        have y1 : ∀ W', Gr wr.drew W' → W'.cell? ⟨b2, o2 + i * 2 + 1, none⟩ = some u2 := fun W' h => ((hb W' h).cell (p := ⟨b2, o2 + i * 2 + 1, none⟩) hbl2).trans k1
        have k36 : ∀ W', Gr wr.drew W' → Calls Tryd.prog 36 #[.agg #[.string K[i].1, u], .agg #[.string L[i].1, u2]] W' fun e W2 => ∃ u, e = .returned u ∧ Gr W' W2 ∧ u = .bool (decide (K[i] = L[i])) := fun W' h => (rone_walk K[i] L[i] (g2.below (hb W' h)) (k2.below (hb W' h))).mono fun e W2 ⟨h1, h2⟩ => ⟨_, h1, h2, rfl⟩
        obtain ⟨U, uc, rfl, _, _⟩ := id g2
        obtain ⟨U2, uc2, rfl, _, _⟩ := id k2
        generalize hP : decide (K[i] = L[i]) = P at k36
        replace hP := Aside.mk hP
        replace k36 := Aside.mk k36
        replace hG := Aside.mk hG
        have t1 := Aside.mk (List.take_succ_eq_append_getElem hlt)
        have t2 := Aside.mk (List.take_succ_eq_append_getElem hlt2)
        replace h1 := Aside.mk h1
        clear g0 g1 g2 k0 k1 k2 hb
        go_upto_region 6 with fail
        refine XReg.wp_region Gr Gr.refl Gr.trans (by kernel_rfl) (by kernel_rfl) [(0, .det (.slice (some ⟨b, o, none⟩) K.length cap)), (1, .det (.slice (some ⟨b2, o2, none⟩) L.length cap2)), (5, .det (.int .i64 (i : Int)))] (XReg.base_cons rfl (XReg.base_cons rfl (XReg.base_cons rfl XReg.base_nil))) ?_
        repeat (first
          | (refine XReg.walk_move Gr.refl rfl rfl _ rfl (by kernel_rfl) (by kernel_rfl) ?_)
          | (refine XReg.walk_calld k36.out rfl (by kernel_rfl) (by kernel_rfl) _ rfl (by kernel_rfl) (by kernel_rfl) ?_)
          | (refine XReg.run_1 Gr.refl rfl rfl _ rfl (by kernel_rfl) (by kernel_rfl) ?_; apply Exists.intro; refine ⟨fun ρ W hE h1 => ?_, ?_⟩; (go_simp; try rfl))
          | (refine XReg.run_2 Gr.refl rfl rfl rfl _ rfl (by kernel_rfl) (by kernel_rfl) ?_; apply Exists.intro; refine ⟨fun ρ W hE h1 h2 => ?_, ?_⟩; (go_simp; try rfl)))
        intro ρ W' hE _
        replace hE := Aside.mk (Gr.trans _ _ _ (Gr.drew wr) hE)
        simp only [Act.put, List.setIfInBounds_toArray, List.set_cons_zero, List.set_cons_succ]
        clear x0 x1 y0 y1 k36
        by_cases hd : K[i] = L[i]
        · have hd' := hP.out.symm.trans (decide_eq_true hd)
          subst hd'
          replace hd := Aside.mk hd
          clear hP
          go_wp2_with fail
          go_roundw
          case rel => exact ⟨i + 1, by go_num, by omega, by rw [t1.out, t2.out, h1.out, hd.out], Gr.trans _ _ _ hG.out hE.out⟩
          case measure => simp [intOf]; omega
        · have hd' := hP.out.symm.trans (decide_eq_false hd)
          subst hd'
          have e := Aside.mk (decide_eq_false (fun q : K = L => hd (by subst q; rfl)))
          clear hP hd
          go_wp2_with fail
          go_ret
          exact ⟨congrArg (fun q => Ending.returned (.bool q)) e.out.symm, Gr.trans _ _ _ hG.out hE.out⟩
      · obtain rfl : i = K.length := by omega
        have e : K = L := by
          rw [List.take_length] at h1
          rw [h1, List.take_of_length_le (by omega)]
        replace e := Aside.mk (decide_eq_true e)
        replace hG := Aside.mk hG
        clear h1
        go_wp2_with fail
        go_ret
        exact ⟨congrArg (fun q => Ending.returned (.bool q)) e.out.symm, hG.out⟩
  · have hne : ((K.length : Int) != L.length) = true := by rw [bne_iff_ne]; omega
    have e : decide (K = L) = false := decide_eq_false (fun q => hlen (by rw [q]))
    rw [e]
    clear e
    go_enter Tryd.func21, Tryd.ntmps21
    go_wp2_with fail
    go_ret
    exact ⟨rfl, Gr.refl _⟩

set_option maxRecDepth 100000 in
theorem lsame_walk (hK : Reads w v K) (fK : Few K) (hL : Reads w v2 L) : Calls Tryd.prog 15 #[v, v2] w fun e w' => e = .returned (.bool (decide (K = L))) ∧ Below w.heap.size w w' := by
  have hC := Aside.mk (ref_walk hK fK)
  have hL0 := Aside.mk hL
  obtain ⟨A, cap, rfl, _, _⟩ := hK
  obtain ⟨A2, cap2, rfl, _, _⟩ := hL
  generalize hp : decide (K = L) = p
  go_enter Tryd.func15, Tryd.ntmps15
  go_wp2_with fail
  go_at_call 11
  refine hC.out.mono ?_
  rintro e w1 ⟨r, l, rfl, hO, hk, hB⟩
  have hD := rsame_walk hO.reads (hL0.out.below hB)
  rw [hk, hp] at hD
  replace hD := Aside.mk hD
  obtain ⟨a1, c1, rfl⟩ := owns_form hO.1
  have hs := hB.size
  replace hB := Aside.mk hB
  clear hO hk hC
  go_wp2_with (go_at_call 21; refine hD.out.mono ?_; rintro e w2 ⟨rfl, hG2⟩; replace hG2 := Aside.mk hG2)
  go_ret
  exact ⟨rfl, hB.out.trans (hG2.out.below.mono hs)⟩
end
end Go.Proofs.YtmhpogajklihdaaDoor.C
