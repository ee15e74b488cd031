/- The library's 'CompactFunc' at the rows of layer 20. -/
import Derived.Test.YtmhpogajklihdaaDoorCComp
namespace Go.Proofs.YtmhpogajklihdaaDoor.C
open Go.RowKit Go.Shelf Go.Lib Go.Sort Go.Proofs.YtmhpogajklihdaaDoorW.PrintWords

attribute [local go_sem] XReg.envOf

section
variable {w W : World} {B g cap : Nat} {v : Value} {l m : List P}

/-- The ids of all of l, in rows of the call's own. -/
def Ids (W : World) (B : Nat) (l : List P) : Prop := ∀ p ∈ l, IdOwn W B p.2.2 p.2.1
theorem Ids.below (h : Ids w B l) (hb : Below w.heap.size w W) : Ids W B l := fun p hp => (h p hp).below hb
theorem Ids.row (h : Ids w B l) (hr : RowAt w g cap m) (hk : ∀ b, b ≠ g → W.heap[b]? = w.heap[b]?) : Ids W B l := fun p hp =>
  owns_move (h p hp) fun b _ _ hb => hk b fun e => by
    subst e
    obtain ⟨c, hc⟩ := own_typed (h p hp) b hb
    obtain ⟨cur, h1, _⟩ := hr
    rw [h1] at hc; cases hc

/-- What the comparing call answers, in every world that lies ahead. -/
theorem one_calls (hi : Ids w B l) {i j : Nat} (hI : i < l.length) (hJ : j < l.length) :
    ∀ W', Gr w.drew W' → Calls Tryd.prog 32 (#[.agg #[.string l[i].1, l[i].2.2], .agg #[.string l[j].1, l[j].2.2]] ++ #[]) W' fun e W2 => ∃ u, e = .returned u ∧ Gr W' W2 ∧ u = .bool (decide (key l[i] = key l[j])) := fun W' h => by
  rw [Array.append_empty]
  have hb := (Gr.trans _ _ _ (Gr.drew w) h).below
  exact (one_walk (key l[i]) (key l[j]) ((hi _ (List.getElem_mem hI)).below hb).at_ ((hi _ (List.getElem_mem hJ)).below hb).at_).mono fun e W2 ⟨h1, h2⟩ => ⟨_, h1, h2, rfl⟩

set_option maxHeartbeats 1000000 in
set_option maxRecDepth 100000 in
theorem compact_walk (h : Owns w B 24 v l) (hl : l.length ≤ 100000) : Calls Tryd.prog 31 #[v, .func (.func 32) #[] #[]] w fun e w' => ∃ r, e = .returned r ∧ Owns w' B 24 r (comp l) ∧ Below B w w' := by
  by_cases hn : 2 ≤ l.length
  · obtain ⟨g, cap, rfl, hBg, hR⟩ := h.row (by omega)
    have hI : Ids w B l := h.2
    clear h
    have hgl := hR.lt
    have hcap : l.length ≤ cap ∧ cap ≤ maxLen := by obtain ⟨_, _, _, _, h⟩ := hR; exact h
    have hmax : maxLen ≤ 9223372036854775807 := by decide
    replace hR := Aside.mk hR
    replace hI := Aside.mk hI
    go_enter Tryd.func31, Tryd.ntmps31
    go_wp2_with fail
    go_loopw [5] (fun i wr => ∃ k : Nat, i = .int .i64 ((k : Int) + 1) ∧ k + 1 ≤ l.length ∧ comp (l.take (k + 1)) = l.take (k + 1) ∧ Gr w wr) (fun i _ => l.length - (intOf i).toNat)
    case atStart => exact ⟨0, rfl, by omega, comp_short _ (by rw [List.length_take]; omega), Gr.refl _⟩
    case round =>
      obtain ⟨k, rfl, hk, hcm, hG⟩ := hrel
      have hRr := hR.out.below hG.below
      have hIr := hI.out.below hG.below
      by_cases hkl : k + 1 < l.length
      · have hst := comp_step l k hkl
        have f1 := one_calls hIr hkl (show k < l.length by omega)
        have c : ∀ W', Gr wr.drew W' → RowAt W' g cap l := fun W' h => hRr.below (Gr.trans _ _ _ (Gr.drew wr) h).below
        have c0 : ∀ W', Gr wr.drew W' → W'.cell? ⟨g, (k + 1) * 2, none⟩ = some (.string l[k + 1].1) := fun W' h => (c W' h).cell0 hkl
        have c1 : ∀ W', Gr wr.drew W' → W'.cell? ⟨g, (k + 1) * 2 + 1, none⟩ = some l[k + 1].2.2 := fun W' h => (c W' h).cell1 hkl
        have c2 : ∀ W', Gr wr.drew W' → W'.cell? ⟨g, k * 2, none⟩ = some (.string l[k].1) := fun W' h => (c W' h).cell0 (by omega)
        have c3 : ∀ W', Gr wr.drew W' → W'.cell? ⟨g, k * 2 + 1, none⟩ = some l[k].2.2 := fun W' h => (c W' h).cell1 (by omega)
        obtain ⟨a1, b1, e1⟩ := owns_form (hIr _ (List.getElem_mem hkl))
        obtain ⟨a2, b2, e2⟩ := owns_form (hIr _ (List.getElem_mem (show k < l.length by omega)))
        rw [e1] at c1
        rw [e2] at c3
        rw [e1, e2] at f1
        clear e1 e2
        replace f1 := Aside.mk f1
        replace hRr := Aside.mk hRr
        replace hIr := Aside.mk hIr
        replace hG := Aside.mk hG
        replace hcm := Aside.mk hcm
        replace hst := Aside.mk hst
        clear c
        have hwk : IntKind.i64.wrap (k : Int) = k := by rw [IntKind.wrap_i64]; omega
        have hwk2 : (0 : Int) ≤ k ∧ (k : Int) < l.length := by omega
        go_upto_region 6 with fail
        refine XReg.wp_region Gr Gr.refl Gr.trans (by kernel_rfl) (by kernel_rfl) [(0, .det (.slice (some ⟨g, 0, none⟩) l.length cap)), (1, .det (.func (.func 32) #[] #[])), (5, .det (.int .i64 ((k : Int) + 1)))] (XReg.base_cons rfl (XReg.base_cons rfl (XReg.base_cons rfl XReg.base_nil))) ?_
        repeat (first
          | (refine XReg.walk_move Gr.refl rfl rfl _ rfl (by kernel_rfl) (by kernel_rfl) ?_)
          | (refine XReg.walk_callv f1.out rfl rfl (by kernel_rfl) rfl _ rfl (by kernel_rfl) (by kernel_rfl) ?_)
          | (refine XReg.run_1 Gr.refl rfl rfl _ rfl (by kernel_rfl) (by kernel_rfl) ?_; apply Exists.intro; refine ⟨fun ρ W hE h1 => ?_, ?_⟩; (go_simp; try rfl))
          | (refine XReg.run_2 Gr.refl rfl rfl rfl _ rfl (by kernel_rfl) (by kernel_rfl) ?_; apply Exists.intro; refine ⟨fun ρ W hE h1 h2 => ?_, ?_⟩; (go_simp; try rfl)))
        intro ρ W' hE _
        replace hE := Aside.mk (Gr.trans _ _ _ (Gr.drew wr) hE)
        simp only [Act.put, List.setIfInBounds_toArray, List.set_cons_zero, List.set_cons_succ]
        clear c0 c1 c2 c3 f1
        by_cases hd : key l[k + 1] = key l[k]
        · have hd' := decide_eq_true hd
          rw [hd']
          rw [if_pos hd, hcm.out] at hst
          clear hd hd'
          have hR2 := Aside.mk (hRr.out.below hE.out.below)
          have hI2 := Aside.mk (hIr.out.below hE.out.below)
          have hB2 := Aside.mk ((Gr.trans _ _ _ hG.out hE.out).below.mono (show B ≤ w.heap.size by omega))
          clear hR hI hRr hIr hG hcm hE
          go_upto_region 8 with fail
          generalize hN : l.length - (k + 1) = N
          generalize cap - (k + 1) = cap2
          generalize ho : (k + 1) * 2 = o
          go_wp2_with fail
          go_loopw [7, 5] (fun i j wr => ∃ (q p : Nat) (m : List P), i = .int .i64 ((q : Int) + 1) ∧ j = .int .i64 (p : Int) ∧ q + 1 ≤ N ∧ k + 1 ≤ p ∧ p ≤ k + 1 + q ∧ RowAt wr g cap m ∧ m.length = l.length ∧ m.take p = comp (l.take (k + 1 + q + 1)) ∧ (∀ i, p ≤ i → m[i]? = l[i]?) ∧ Ids wr B l ∧ Below B w wr) (fun i _ _ => N - (intOf i).toNat)
          case atStart => exact ⟨0, k + 1, l, rfl, rfl, by omega, Nat.le_refl _, Nat.le_refl _, hR2.out, rfl, hst.out.symm, fun _ _ => rfl, hI2.out, hB2.out⟩
          case round =>
            clear hR2 hI2 hB2 hst
            obtain ⟨q, p, m, rfl, rfl, hq, hp1, hp2, hRm, hml, htk, hrest, hIm, hBm⟩ := hrel
            by_cases hqN : q + 1 < N
            · have hA : k + 1 + q + 1 < l.length := by omega
              have hst := comp_step l (k + 1 + q) hA
              have f1 := one_calls hIm hA (show k + 1 + q < l.length by omega)
              have ma : m[k + 1 + q + 1]'(by omega) = l[k + 1 + q + 1] := by
                have := hrest (k + 1 + q + 1) (by omega)
                rw [List.getElem?_eq_getElem (by omega), List.getElem?_eq_getElem hA] at this
                exact Option.some.inj this
              have mb : m[k + 1 + q]'(by omega) = l[k + 1 + q] := by
                have := hrest (k + 1 + q) (by omega)
                rw [List.getElem?_eq_getElem (by omega), List.getElem?_eq_getElem (by omega)] at this
                exact Option.some.inj this
              have c : ∀ W', Gr wr.drew W' → RowAt W' g cap m := fun W' h => hRm.below (Gr.trans _ _ _ (Gr.drew wr) h).below
              have c0 : ∀ W', Gr wr.drew W' → W'.cell? ⟨g, o + (q + 1) * 2, none⟩ = some (.string l[k + 1 + q + 1].1) := fun W' h => by
                have := (c W' h).cell0 (j := k + 1 + q + 1) (by omega)
                rw [ma] at this
                rwa [show o + (q + 1) * 2 = (k + 1 + q + 1) * 2 by omega]
              have c1 : ∀ W', Gr wr.drew W' → W'.cell? ⟨g, o + (q + 1) * 2 + 1, none⟩ = some l[k + 1 + q + 1].2.2 := fun W' h => by
                have := (c W' h).cell1 (j := k + 1 + q + 1) (by omega)
                rw [ma] at this
                rwa [show o + (q + 1) * 2 + 1 = (k + 1 + q + 1) * 2 + 1 by omega]
              have c2 : ∀ W', Gr wr.drew W' → W'.cell? ⟨g, o + q * 2, none⟩ = some (.string l[k + 1 + q].1) := fun W' h => by
                have := (c W' h).cell0 (j := k + 1 + q) (by omega)
                rw [mb] at this
                rwa [show o + q * 2 = (k + 1 + q) * 2 by omega]
              have c3 : ∀ W', Gr wr.drew W' → W'.cell? ⟨g, o + q * 2 + 1, none⟩ = some l[k + 1 + q].2.2 := fun W' h => by
                have := (c W' h).cell1 (j := k + 1 + q) (by omega)
                rw [mb] at this
                rwa [show o + q * 2 + 1 = (k + 1 + q) * 2 + 1 by omega]
              obtain ⟨a3, b3, e1⟩ := owns_form (hIm _ (List.getElem_mem hA))
              obtain ⟨a4, b4, e2⟩ := owns_form (hIm _ (List.getElem_mem (show k + 1 + q < l.length by omega)))
              rw [e1] at c1
              rw [e2] at c3
              rw [e1, e2] at f1
              clear e2 ma mb c
              generalize hP : decide (key l[k + 1 + q + 1] = key l[k + 1 + q]) = P at f1
              replace hP := Aside.mk hP
              replace e1 := Aside.mk e1
              replace f1 := Aside.mk f1
              replace hRm := Aside.mk hRm
              replace hIm := Aside.mk hIm
              replace hBm := Aside.mk hBm
              replace htk := Aside.mk htk
              replace hst := Aside.mk hst
              replace hrest := Aside.mk hrest
              have hwk : IntKind.i64.wrap (q : Int) = q := by rw [IntKind.wrap_i64]; omega
              have hwk2 : (0 : Int) ≤ q ∧ (q : Int) < N := by omega
              go_upto_region 11 with fail
              refine XReg.wp_region Gr Gr.refl Gr.trans (by kernel_rfl) (by kernel_rfl) [(6, .det (.slice (some ⟨g, o, none⟩) N cap2)), (1, .det (.func (.func 32) #[] #[])), (7, .det (.int .i64 ((q : Int) + 1)))] (XReg.base_cons rfl (XReg.base_cons rfl (XReg.base_cons rfl XReg.base_nil))) ?_
              repeat (first
                | (refine XReg.walk_move Gr.refl rfl rfl _ rfl (by kernel_rfl) (by kernel_rfl) ?_)
                | (refine XReg.walk_callv f1.out rfl rfl (by kernel_rfl) rfl _ rfl (by kernel_rfl) (by kernel_rfl) ?_)
                | (refine XReg.run_1 Gr.refl rfl rfl _ rfl (by kernel_rfl) (by kernel_rfl) ?_; apply Exists.intro; refine ⟨fun ρ W hE h1 => ?_, ?_⟩; (go_simp; try rfl))
                | (refine XReg.run_2 Gr.refl rfl rfl rfl _ rfl (by kernel_rfl) (by kernel_rfl) ?_; apply Exists.intro; refine ⟨fun ρ W hE h1 h2 => ?_, ?_⟩; (go_simp; try rfl)))
              intro ρ W' hE _
              have hc0 := c0 W' hE
              have hc1 := c1 W' hE
              replace hE := Aside.mk (Gr.trans _ _ _ (Gr.drew wr) hE)
              simp only [Act.put, List.setIfInBounds_toArray, List.set_cons_zero, List.set_cons_succ]
              have hR4 := hRm.out.below hE.out.below
              have hI4 := hIm.out.below hE.out.below
              have hB4 := Aside.mk (hBm.out.trans (hE.out.below.mono (show B ≤ wr.heap.size by have := hBm.out.size; omega)))
              clear c0 c1 c2 c3 f1 hRm hIm hBm
              by_cases hd : key l[k + 1 + q + 1] = key l[k + 1 + q]
              · have hd' := hP.out.symm.trans (decide_eq_true hd)
                subst hd'
                rw [if_pos hd] at hst
                clear hd hP
                replace hR4 := Aside.mk hR4
                replace hI4 := Aside.mk hI4
                go_wp2_with fail
                go_roundw
                case rel => exact ⟨q + 1, p, m, by go_num, rfl, by omega, hp1, by omega, hR4.out, hml, htk.out.trans hst.out.symm, hrest.out, hI4.out, hB4.out⟩
                case measure => simp [intOf]; omega
              · have hd' := hP.out.symm.trans (decide_eq_false hd)
                subst hd'
                rw [if_neg hd] at hst
                clear hd hP
                have hfr := hR4.frozen
                have hp4 : p < m.length := by omega
                have hp5 : p < l.length := by omega
                have hR5 := hR4.store hp4 l[k + 1 + q + 1]
                rw [e1.out] at hR5
                have hx0 := hR4.cell0 hp4
                have hx1 := hR4.cell1 hp4
                have hI4 := Aside.mk hI4
                replace hR4 := Aside.mk hR4
                replace hR5 := Aside.mk hR5
                go_wp2_with fail
                go_roundw
                case rel =>
                  refine ⟨q + 1, p + 1, m.set p l[k + 1 + q + 1], by go_num, by go_num, by omega, by omega, by omega, hR5.out, by rw [List.length_set]; exact hml, ?_, fun i hi => ?_, hI4.out.row hR4.out (fun b hb => (Below.heap_setCell _ _ _ _ hb).trans (Below.heap_setCell _ _ _ _ hb)), hB4.out.trans (((Below.refl B W').setCell hBg _).setCell hBg _)⟩
                  · rw [show k + 1 + (q + 1) + 1 = k + 1 + q + 2 by omega, hst.out, ← htk.out, List.take_succ_eq_append_getElem (by rw [List.length_set]; exact hp4), List.getElem_set_self, List.take_set_of_le (Nat.le_refl _)]
                  · rw [List.getElem?_set_ne (by omega)]
                    exact hrest.out i (by omega)
                case measure => simp [intOf]; omega
            · obtain rfl : N = q + 1 := by omega
              rw [show l.take (k + 1 + q + 1) = l from List.take_of_length_le (by omega)] at htk
              have hp3 : p ≤ l.length := by omega
              obtain ⟨w3, hrun, hR3, hk3, hB3⟩ := run_clear hRm p (l.length - p) (cap - p) (by omega)
              have hI3 := Aside.mk (hIm.row hRm hk3)
              replace hB3 := Aside.mk (hBm.trans (hB3 B hBg))
              replace hR3 := Aside.mk hR3
              replace htk := Aside.mk htk
              clear hRm hIm hBm hrest hk3
              go_wp2_with fail
              go_ret
              refine ⟨_, rfl, ⟨?_, fun x hx => hI3.out x (comp_mem x l none hx)⟩, hB3.out⟩
              have hlen : (comp l).length = p := by rw [← htk.out, List.length_take]; omega
              have h3 := hR3.out
              rw [htk.out] at h3
              have := h3.owns hBg (k := p) (by omega)
              rw [List.take_of_length_le (by omega)] at this
              rw [hlen]
              exact this
        · have hd' := decide_eq_false hd
          rw [hd']
          rw [if_neg hd] at hst
          clear hd hd'
          go_wp2_with fail
          go_roundw
          case rel => exact ⟨k + 1, by go_num, by omega, by rw [hst.out, hcm.out, ← List.take_succ_eq_append_getElem], Gr.trans _ _ _ hG.out hE.out⟩
          case measure => simp [intOf]; omega
      · rw [List.take_of_length_le (by omega)] at hcm
        replace hcm := Aside.mk hcm
        replace hRr := Aside.mk hRr
        replace hIr := Aside.mk hIr
        replace hG := Aside.mk hG
        go_wp2_with fail
        go_ret
        refine ⟨_, rfl, ⟨?_, fun x hx => hIr.out x (comp_mem x l none hx)⟩, hG.out.below.mono (by omega)⟩
        rw [hcm.out]
        have := hRr.out.owns hBg (k := l.length) (Nat.le_refl _)
        rwa [List.take_length] at this
  · rw [comp_short l (by omega)]
    obtain ⟨a, c, rfl⟩ := owns_form h.1
    have hmx := owns_max h.1
    replace h := Aside.mk h
    go_enter Tryd.func31, Tryd.ntmps31
    go_wp2_with fail
    go_ret
    exact ⟨_, rfl, h.out, Below.refl _ _⟩
end
end Go.Proofs.YtmhpogajklihdaaDoor.C
