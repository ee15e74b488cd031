/- 'Ref' of the laws: the document's copy of matches. 'Less' of the document. 'One' and 'Has' of the document. 'Same' of the document, and of the laws. A match put into a row that rises: plain; and rows of the document whose ids lie where they lay. 'Sort' of the document. 'Without' of the document. -/
import Derived.Test.YtmhpogajklihdaaDoorCApp
namespace Go.XReg
section
variable {P : Program} {ops : Array Oper} {E : World → World → Prop} {w0 : World} {Q : Act → World → Prop} {o : Oper} {l : List Oper} {K : Known} {fin : (Nat → Value) → Act} {nds : (Nat → Value) → World → Prop}
/-- An operation of no values that makes memory. -/
theorem nd_0 (R : Value → World → Prop) (hup : ∀ u w w', R u w → E w w' → R u w')
    (h : ∀ ρ w, E w0 w → ∃ u w', (execOp (envOf ρ) o).run P w = .ok (.value u) w' ∧ E w w' ∧ R u w') (d : Nat) (_ha : argTmps o = []) (hd : o.dst = some d) (hg : guardKnown ops K o = true) (hw : wantB ops K o = true)
    (k : walk P ops E w0 Q l ((d, .nd R) :: K) (fun ρ => (fin ρ).put (some d) (ρ d)) (fun ρ w => nds ρ w ∧ R (ρ d) w)) : walk P ops E w0 Q (o :: l) K fin nds :=
  walk_nd R hup d hd hg hw (fun ρ w hE _ => by
    obtain ⟨u, w', e, he, hr⟩ := h ρ w hE
    rw [e]; exact ⟨he, hr⟩) k
/-- An operation of a value known by a fact, and of a known one. -/
theorem nd_n1 (R : Value → World → Prop) (hup : ∀ u w w', R u w → E w w' → R u w') {t1 t2 : Nat} {v2 : Value} {R1 : Value → World → Prop} (ha : argTmps o = [t1, t2]) (h1 : look K t1 = some (.nd R1)) (h2 : look K t2 = some (.det v2))
    (h : ∀ ρ w, E w0 w → R1 (ρ t1) w → ρ t2 = v2 → ∃ u w', (execOp (envOf ρ) o).run P w = .ok (.value u) w' ∧ E w w' ∧ R u w') (d : Nat) (hd : o.dst = some d) (hg : guardKnown ops K o = true) (hw : wantB ops K o = true)
    (k : walk P ops E w0 Q l ((d, .nd R) :: K) (fun ρ => (fin ρ).put (some d) (ρ d)) (fun ρ w => nds ρ w ∧ R (ρ d) w)) : walk P ops E w0 Q (o :: l) K fin nds :=
  walk_nd R hup d hd hg hw (fun ρ w hE hk => by
    have k1 := hk t1 (by rw [ha]; simp)
    have k2 := hk t2 (by rw [ha]; simp)
    unfold knows at k1 k2
    rw [h1] at k1
    rw [h2] at k2
    obtain ⟨u, w', e, he, hr⟩ := h ρ w hE k1 k2
    rw [e]; exact ⟨he, hr⟩) k
end
end Go.XReg
namespace Go.Proofs.YtmhpogajklihdaaDoor.C
open Go.RowKit Go.Shelf Go.Lib Go.Sort Go.Proofs.YtmhpogajklihdaaDoorW.PrintWords

attribute [local go_sem] XReg.envOf

theorem info31 : (Tryd.prog.info? 31).map (fun i => (i.zero, i.size, i.bytes)) = some (some (.agg #[.string ⟨#[]⟩, .slice none 0 0]), 2, 40) := by kernel_rfl

/-- A new row of no ids. -/
def Empty (B : Nat) (u : Value) (w : World) : Prop := ∃ b, u = .slice (some ⟨b, 0, none⟩) 0 0 ∧ w.heap[b]? = some (.cells #[] 3 (0, 0)) ∧ B ≤ b
theorem Empty.up {B : Nat} : ∀ u w w', Empty B u w → XReg.Ext w w' → Empty B u w' := fun _ _ _ ⟨b, e, h, hB⟩ hb => ⟨b, e, (hb.block b (blk_lt h)).trans h, hB⟩

set_option maxHeartbeats 4000000 in
set_option maxRecDepth 100000 in
theorem ref_walk {w : World} {v : Value} {L : List M} (h : Reads w v L) (hf : Few L) : Calls Tryd.prog 11 #[v] w fun e w' => ∃ r l, e = .returned r ∧ Owns w' w.heap.size 31 r l ∧ l.map key = L ∧ Below w.heap.size w w' := by
  obtain ⟨A, cap, rfl, hm, hc⟩ := h
  obtain ⟨i0, hi, hz0, hz1, hz2⟩ := info_parts info31
  replace hi := Aside.mk hi
  replace hz0 := Aside.mk hz0
  replace hz1 := Aside.mk hz1
  replace hz2 := Aside.mk hz2
  have hlen := hf.1
  replace hf := Aside.mk hf
  replace hc := Aside.mk hc
  have hmax : 1000000 ≤ maxLen := by decide
  go_enter Tryd.func11, Tryd.ntmps11
  go_wp2_with fail
  go_loopw [8, 3] (fun i t wr => ∃ (j : Nat) (l : List P), i = .int .i64 j ∧ j ≤ L.length ∧ l.map key = L.take j ∧ Owns wr w.heap.size 31 t l ∧ Below w.heap.size w wr) (fun i _ _ => L.length - (intOf i).toNat)
  case atStart => exact ⟨0, [], rfl, Nat.zero_le _, rfl, Owns.nil _ _ _, Below.refl _ _⟩
  case round =>
    obtain ⟨j, l, rfl, hj, hkey, hO, hB⟩ := hrel
    by_cases hjl : j < L.length
    · obtain ⟨b, o, u, rfl, hbl, c0, c1, c2⟩ := hc.out j hjl
      have hsmall := hf.out.2 L[j] (List.getElem_mem hjl)
      have f0 := (hB.cell (p := ⟨b, o + j * 2, none⟩) hbl).trans c0
      have f1 := (hB.cell (p := ⟨b, o + j * 2 + 1, none⟩) hbl).trans c1
      obtain ⟨ua, uc, rfl, _, _⟩ := id c2
      have hll : l.length = j := by
        have := congrArg List.length hkey
        simp at this; omega
      have hAB : Below wr.heap.size wr (wr.alloc (.cells #[.string L[j].1, .slice ua L[j].2.length uc] 24)) := (Below.refl _ wr).alloc (Nat.le_refl _) _
      have hBW := hB.trans (hAB.mono hB.size)
      have hOW := hO.below hAB
      have hidW := (c2.below hB).below hAB
      have hpW := blk_new wr #[.string L[j].1, .slice ua L[j].2.length uc] 24
      obtain ⟨oa, oc, rfl⟩ := owns_form hO.1
      clear c0 c1 hAB hO hB
      replace hkey := Aside.mk hkey
      go_upto_region 5 with fail
      generalize wr.alloc (.cells #[.string L[j].1, .slice ua L[j].2.length uc] 24) = W at hBW hOW hidW hpW ⊢
      clear f0 f1
      generalize wr.heap.size = n at hpW ⊢
      have s0 : ∀ W', XReg.Ext W.drew W' → W'.cell? ⟨n, 0, none⟩ = some (.string L[j].1) := fun W' h => (h.of_drew.cell (p := ⟨n, 0, none⟩) (blk_lt hpW)).trans ((blk_cell hpW 0).trans rfl)
      have s1 : ∀ W', XReg.Ext W.drew W' → W'.cell? ⟨n, 1, none⟩ = some (.slice ua L[j].2.length uc) := fun W' h => (h.of_drew.cell (p := ⟨n, 1, none⟩) (blk_lt hpW)).trans ((blk_cell hpW 1).trans rfl)
      replace hidW := Aside.mk hidW
      replace hOW := Aside.mk hOW
      replace hBW := Aside.mk hBW
      refine XReg.wp_region_tail 9 XReg.Ext XReg.Ext.refl XReg.Ext.trans (by kernel_rfl) (by kernel_rfl) (by kernel_rfl) [(3, .det (.slice oa l.length oc)), (5, .det (.pointer (some ⟨n, 0, none⟩)))] (XReg.base_cons rfl (XReg.base_cons rfl XReg.base_nil)) ?_
      simp only [List.take_succ_cons, List.take_zero, List.drop_succ_cons, List.drop_zero]
      repeat (first
        | (refine XReg.walk_move XReg.Ext.refl rfl rfl _ rfl (by kernel_rfl) (by kernel_rfl) ?_)
        | (refine XReg.nd_0 (Empty w.heap.size) Empty.up (fun ρ W' hE => ⟨_, _, by (go_simp; try rfl), (Below.refl _ W').alloc (Nat.le_refl _) _, W'.heap.size, rfl, blk_new W' _ _, by have := hBW.out.size; have := hE.of_drew.size; omega⟩) _ rfl rfl (by kernel_rfl) (by kernel_rfl) ?_)
        | (refine XReg.nd_n1 (fun u w' => IdOwn w' w.heap.size u L[j].2) IdOwn.up rfl rfl rfl (fun ρ W' hE ⟨b', e1, h2, h3⟩ e2 => by obtain ⟨v', W2, g1, g2, g3⟩ := app_ids h2 h3 (hidW.out.below hE.of_drew) hsmall; exact ⟨v', W2, by (simp [execOp, resolve, invoke, builtin, XReg.envOf, e1, e2, g1]), g2, g3⟩) _ rfl (by kernel_rfl) (by kernel_rfl) ?_)
        | (refine XReg.run_1 XReg.Ext.refl rfl rfl _ rfl (by kernel_rfl) (by kernel_rfl) ?_; apply Exists.intro; refine ⟨fun ρ W hE h1 => ?_, ?_⟩; (go_simp; try rfl))
        | (refine XReg.nd_2n (Built w.heap.size L[j].1 L[j].2) Built.up rfl rfl rfl (fun ρ W hE h1 h2 => by obtain ⟨a, c, e⟩ := owns_form h2; rw [e] at h2; exact ⟨_, _, by (go_simp; try rfl), XReg.Ext.refl _, _, rfl, h2⟩) _ rfl (by kernel_rfl) (by kernel_rfl) ?_)
        | (refine XReg.nd_1n (Laid 31 w.heap.size L[j].1 L[j].2) Laid.up rfl rfl (fun ρ W hE ⟨v', e1, h2⟩ => by obtain ⟨a, c, e⟩ := owns_form h2; subst e; exact ⟨_, _, by (go_simp; try rfl), (Below.refl _ W).alloc (Nat.le_refl _) _, W.heap.size, _, rfl, blk_new _ _ _, h2.below ((Below.refl _ W).alloc (Nat.le_refl _) _), by simp⟩) _ rfl (by kernel_rfl) (by kernel_rfl) ?_))
      intro ρ W' hE hn
      obtain ⟨⟨⟨⟨_, hid0⟩, hid1⟩, hid2⟩, b2, v2, e20, hb2, hid3, hl2⟩ := hn
      have hBe := hE.of_drew
      have hB' := Aside.mk (hBW.out.trans (hBe.mono hBW.out.size))
      have hO' := Aside.mk (hOW.out.below hBe)
      simp only [e20]
      clear hE hid0 hid1 hid2 s0 s1 hBe hOW hBW hidW c2
      generalize ρ 15 = x15
      generalize ρ 18 = x18
      generalize ρ 19 = x19
      simp only [Act.put, List.setIfInBounds_toArray, List.set_cons_zero, List.set_cons_succ]
      obtain ⟨a2, c2, rfl⟩ := owns_form hid3
      have hsz := hB'.out.size
      have hown := hO'.out.1
      have hb2' := Aside.mk hb2
      replace hid3 := Aside.mk hid3
      clear hb2
      have htk := Aside.mk (List.take_succ_eq_append_getElem hjl)
      go_wp2_with (at_builtin; refine wpList_append_own _ rfl _ _ 28 rfl w.heap.size 31 i0 (.agg #[.string ⟨#[]⟩, .slice none 0 0]) 2 40 Tryd.underlying28 hi.out hz0.out hz1.out hz2.out rfl (by decide) _ _ _ rfl hown ⟨b2, 0, none⟩ 1 1 [.string L[j].1, .slice a2 L[j].2.length c2] rfl rfl (cells_at hb2'.out) (by simp [Value.oneCell']) (by omega) (by omega) hsz ?_; intro v3 w3 hown3 hgr3 _; replace hown3 := Aside.mk hown3; replace hgr3 := Aside.mk hgr3)
      go_roundw
      case rel =>
        refine ⟨j + 1, l ++ [(L[j].1, L[j].2, .slice a2 L[j].2.length c2)], by go_num, by omega, ?_, ⟨?_, ?_⟩, ?_⟩
        · rw [List.map_append, hkey.out, htk.out]; rfl
        · rw [cellsP_append, List.length_append]; exact hown3.out
        · intro p hp
          rcases List.mem_append.1 hp with q | q
          · exact (hO'.out.2 p q).far hown (by decide) hgr3.out
          · rw [List.mem_singleton.1 q]; exact hid3.out.far hown (by decide) hgr3.out
        · exact hB'.out.grown hgr3.out hsz (fun k hk => own_from hown hk)
      case measure => simp [intOf]; omega
    · obtain rfl : j = L.length := by omega
      rw [List.take_length] at hkey
      obtain ⟨oa, oc, rfl⟩ := owns_form hO.1
      replace hO := Aside.mk hO
      replace hB := Aside.mk hB
      replace hkey := Aside.mk hkey
      go_wp2
      go_ret
      exact ⟨_, _, rfl, hO.out, hkey.out, hB.out⟩
end Go.Proofs.YtmhpogajklihdaaDoor.C
namespace Go.Proofs.YtmhpogajklihdaaDoor.C
open Go.RowKit Go.Shelf Go.Lib Go.Sort Go.Proofs.YtmhpogajklihdaaDoorW.PrintWords

theorem lt_rules {x y : M} (h : x.1 ≠ y.1) : decide (ltM x y) = Op.bytesLess x.1.toList y.1.toList := by
  have hz : cmpB x.1 y.1 ≠ 0 := fun e => h (nums_inj (cmpL_zero _ _ e))
  unfold ltM cmpM
  simp only [if_pos hz]
  rw [cmpB_less]
  cases Op.bytesLess x.1.toList y.1.toList <;> cases Op.bytesLess y.1.toList x.1.toList <;> simp
theorem lt_ids {x y : M} (h : x.1 = y.1) : decide (ltM x y) = decide (cmpL x.2 y.2 < 0) := by
  have hz : ¬ cmpB x.1 y.1 ≠ 0 := by rw [h]; unfold cmpB; rw [cmpL_self]; decide
  unfold ltM cmpM
  simp only [if_neg hz]

section
variable {w : World}

set_option maxHeartbeats 2000000 in
set_option maxRecDepth 100000 in
theorem less_walk (x y : M) {ux uy : Value} (hx : IdsAt w ux x.2) (hy : IdsAt w uy y.2) : Calls Tryd.prog 12 #[.agg #[.string x.1, ux], .agg #[.string y.1, uy]] w fun e w' => e = .returned (.bool (decide (ltM x y))) ∧ Gr w w' := by
  have hA : Gr w ((w.alloc (.cells #[.string x.1, ux] 31)).alloc (.cells #[.string y.1, uy] 31)) := Gr.trans _ _ _ (Gr.alloc _ _) (Gr.alloc _ _)
  have p1 := (Below.heap_alloc _ (.cells #[.string y.1, uy] 31) _ (by simp)).trans (blk_new w #[.string x.1, ux] 31)
  have p2 := blk_new (w.alloc (.cells #[.string x.1, ux] 31)) #[.string y.1, uy] 31
  rw [World.size_alloc] at p2
  obtain ⟨A, ca, rfl, hA1, hA2⟩ := hx
  obtain ⟨B, cb, rfl, hB1, hB2⟩ := hy
  go_enter Tryd.func12, Tryd.ntmps12
  go_upto_region 1 with fail
  have q1 : ∀ j (_ : j < x.2.length), ∃ b o, A = some ⟨b, o, none⟩ ∧ b < ((w.alloc (.cells #[.string x.1, .slice A x.2.length ca] 31)).alloc (.cells #[.string y.1, .slice B y.2.length cb] 31)).heap.size ∧ ((w.alloc (.cells #[.string x.1, .slice A x.2.length ca] 31)).alloc (.cells #[.string y.1, .slice B y.2.length cb] 31)).cell? ⟨b, o + j, none⟩ = some (.int .i64 x.2[j]) := fun j hj => by
    obtain ⟨b, o, e, hl, hc⟩ := hA2 j hj
    exact ⟨b, o, e, Nat.lt_of_lt_of_le hl hA.below.size, (hA.below.cell (p := ⟨b, o + j, none⟩) hl).trans hc⟩
  have q2 : ∀ j (_ : j < y.2.length), ∃ b o, B = some ⟨b, o, none⟩ ∧ b < ((w.alloc (.cells #[.string x.1, .slice A x.2.length ca] 31)).alloc (.cells #[.string y.1, .slice B y.2.length cb] 31)).heap.size ∧ ((w.alloc (.cells #[.string x.1, .slice A x.2.length ca] 31)).alloc (.cells #[.string y.1, .slice B y.2.length cb] 31)).cell? ⟨b, o + j, none⟩ = some (.int .i64 y.2[j]) := fun j hj => by
    obtain ⟨b, o, e, hl, hc⟩ := hB2 j hj
    exact ⟨b, o, e, Nat.lt_of_lt_of_le hl hA.below.size, (hA.below.cell (p := ⟨b, o + j, none⟩) hl).trans hc⟩
  replace q1 := Aside.mk q1
  replace q2 := Aside.mk q2
  replace hA := Aside.mk hA
  clear hA2 hB2
  generalize (w.alloc (.cells #[.string x.1, .slice A x.2.length ca] 31)).alloc (.cells #[.string y.1, .slice B y.2.length cb] 31) = W at hA p1 p2 q1 q2 ⊢
  generalize w.heap.size = n at p1 p2 ⊢
  have c1 : ∀ W', Gr W W' → W'.cell? ⟨n, 0, none⟩ = some (.string x.1) := fun W' h => (h.below.cell (p := ⟨n, 0, none⟩) (blk_lt p1)).trans ((blk_cell p1 0).trans rfl)
  have d1 := (blk_cell p1 0).trans rfl
  have d2 := (blk_cell p1 1).trans rfl
  have d3 := (blk_cell p2 0).trans rfl
  have d4 := (blk_cell p2 1).trans rfl
  clear c1
  replace p1 := Aside.mk p1
  replace p2 := Aside.mk p2
  by_cases hne : x.1 = y.1
  · have hres := Aside.mk (lt_ids hne)
    have he : (x.1.toList == y.1.toList) = true := by rw [hne]; exact beq_self_eq_true _
    clear hne
    go_wp2_with fail
    go_loopw [5] (fun a wr => ∃ i : Nat, a = .int .i64 (i : Int) ∧ i ≤ x.2.length ∧ i ≤ y.2.length ∧ cmpL x.2 y.2 = cmpL (x.2.drop i) (y.2.drop i) ∧ Gr W wr) (fun a _ => x.2.length - (intOf a).toNat)
    case atStart => exact ⟨0, rfl, Nat.zero_le _, Nat.zero_le _, rfl, Gr.refl _⟩
    case round =>
      obtain ⟨i, rfl, hi, hi2, hcm, hG⟩ := hrel
      have e1 := (hG.below.cell (p := ⟨n, 0, none⟩) (blk_lt p1.out)).trans d1
      have e2 := (hG.below.cell (p := ⟨n, 1, none⟩) (blk_lt p1.out)).trans d2
      have e3 := (hG.below.cell (p := ⟨n + 1, 0, none⟩) (blk_lt p2.out)).trans d3
      have e4 := (hG.below.cell (p := ⟨n + 1, 1, none⟩) (blk_lt p2.out)).trans d4
      clear d1 d2 d3 d4
      by_cases h1 : i < x.2.length
      · by_cases h2 : i < y.2.length
        · obtain ⟨b1, o1, rfl, hl1, hc1⟩ := q1.out i h1
          obtain ⟨b2, o2, rfl, hl2, hc2⟩ := q2.out i h2
          rw [List.drop_eq_getElem_cons h1, List.drop_eq_getElem_cons h2, cmpL_cons] at hcm
          have g1 : wr.cell? ⟨b1, o1 + i, none⟩ = some (.int .i64 x.2[i]) := (hG.below.cell (p := ⟨b1, o1 + i, none⟩) hl1).trans hc1
          have g2 : wr.cell? ⟨b2, o2 + i, none⟩ = some (.int .i64 y.2[i]) := (hG.below.cell (p := ⟨b2, o2 + i, none⟩) hl2).trans hc2
          clear hc1 hc2
          have h1' : (i : Int) < x.2.length := by omega
          have h2' : (i : Int) < y.2.length := by omega
          replace hG := Aside.mk hG
          by_cases x1 : x.2[i] < y.2[i]
          · have hd : (x.2[i] != y.2[i]) = true := by rw [bne_iff_ne]; omega
            rw [if_pos x1] at hcm
            replace hcm := Aside.mk hcm
            go_wp2_with (go_quiet (fail))
            go_ret
            exact ⟨congrArg (fun q => Ending.returned (.bool q)) (show decide (ltM x y) = true by rw [hres.out, hcm.out]; rfl).symm, Gr.trans _ _ _ hA.out (Gr.trans _ _ _ hG.out (Gr.trans _ _ _ (Gr.drewN _ _) (Gr.drewN _ _)))⟩
          · rw [if_neg x1] at hcm
            by_cases x2 : y.2[i] < x.2[i]
            · have hd : (x.2[i] != y.2[i]) = true := by rw [bne_iff_ne]; omega
              rw [if_pos x2] at hcm
              replace hcm := Aside.mk hcm
              go_wp2_with (go_quiet (fail))
              go_ret
              exact ⟨congrArg (fun q => Ending.returned (.bool q)) (show decide (ltM x y) = false by rw [hres.out, hcm.out]; rfl).symm, Gr.trans _ _ _ hA.out (Gr.trans _ _ _ hG.out (Gr.drewN _ _))⟩
            · have hd : (x.2[i] != y.2[i]) = false := by rw [bne_eq_false_iff_eq]; omega
              rw [if_neg x2] at hcm
              replace hcm := Aside.mk hcm
              clear x1 x2
              go_wp2_with (go_quiet (fail))
              go_roundw
              case rel => exact ⟨i + 1, by go_num, by omega, by omega, hcm.out, Gr.trans _ _ _ hG.out (Gr.drewN _ _)⟩
              case measure => simp [intOf]; omega
        · obtain rfl : i = y.2.length := by omega
          rw [List.drop_length, List.drop_eq_getElem_cons h1, cmpL_right] at hcm
          have h1' : ((y.2.length : Nat) : Int) < x.2.length := by omega
          have h3' : ¬ ((x.2.length : Nat) : Int) < y.2.length := by omega
          replace hcm := Aside.mk hcm
          replace hG := Aside.mk hG
          go_wp2_with fail
          go_ret
          exact ⟨congrArg (fun q => Ending.returned (.bool q)) (show decide (ltM x y) = false by rw [hres.out, hcm.out]; rfl).symm, Gr.trans _ _ _ hA.out (hG.out)⟩
      · obtain rfl : i = x.2.length := by omega
        rw [List.drop_length] at hcm
        replace hG := Aside.mk hG
        by_cases h2 : x.2.length < y.2.length
        · rw [List.drop_eq_getElem_cons h2, cmpL_left] at hcm
          have h3' : ((x.2.length : Nat) : Int) < y.2.length := by omega
          replace hcm := Aside.mk hcm
          go_wp2_with fail
          go_ret
          exact ⟨congrArg (fun q => Ending.returned (.bool q)) (show decide (ltM x y) = true by rw [hres.out, hcm.out]; rfl).symm, Gr.trans _ _ _ hA.out (hG.out)⟩
        · rw [List.drop_eq_nil_of_le (by omega), cmpL_none] at hcm
          have h3' : ¬ ((x.2.length : Nat) : Int) < y.2.length := by omega
          replace hcm := Aside.mk hcm
          go_wp2_with fail
          go_ret
          exact ⟨congrArg (fun q => Ending.returned (.bool q)) (show decide (ltM x y) = false by rw [hres.out, hcm.out]; rfl).symm, Gr.trans _ _ _ hA.out (hG.out)⟩
  · have hres := Aside.mk (lt_rules hne)
    have he := str_ne hne
    clear hne
    go_wp2_with fail
    go_ret
    exact ⟨congrArg (fun q => Ending.returned (.bool q)) hres.out.symm, hA.out⟩
end
end Go.Proofs.YtmhpogajklihdaaDoor.C
namespace Go.Proofs.YtmhpogajklihdaaDoor.C
open Go.RowKit Go.Shelf Go.Lib Go.Sort Go.Proofs.YtmhpogajklihdaaDoorW.PrintWords

theorem one_lt (x y : M) : decide (x = y) = (!decide (ltM x y) && !decide (ltM y x)) := by
  by_cases h : x = y
  · subst h
    simp [ltM_irrefl]
  · rw [decide_eq_false h]
    rcases ltM_total h with q | q
    · simp [q]
    · simp [q]

section
variable {w : World}

set_option maxRecDepth 100000 in
theorem rone_walk (x y : M) {ux uy : Value} (hx : IdsAt w ux x.2) (hy : IdsAt w uy y.2) : Calls Tryd.prog 36 #[.agg #[.string x.1, ux], .agg #[.string y.1, uy]] w fun e w' => e = .returned (.bool (decide (x = y))) ∧ Gr w w' := by
  have hA : Gr w ((w.alloc (.cells #[.string x.1, ux] 31)).alloc (.cells #[.string y.1, uy] 31)) := Gr.trans _ _ _ (Gr.alloc _ _) (Gr.alloc _ _)
  have p1 := (Below.heap_alloc _ (.cells #[.string y.1, uy] 31) _ (by simp)).trans (blk_new w #[.string x.1, ux] 31)
  have p2 := blk_new (w.alloc (.cells #[.string x.1, ux] 31)) #[.string y.1, uy] 31
  rw [World.size_alloc] at p2
  have hx1 := Aside.mk (hx.below hA.below)
  have hy1 := Aside.mk (hy.below hA.below)
  obtain ⟨A, ca, rfl, hA1, hA2⟩ := hx
  obtain ⟨B, cb, rfl, hB1, hB2⟩ := hy
  clear hA1 hA2 hB1 hB2
  replace hA := Aside.mk hA
  go_enter Tryd.func36, Tryd.ntmps36
  go_upto_region 1 with fail
  generalize (w.alloc (.cells #[.string x.1, .slice A x.2.length ca] 31)).alloc (.cells #[.string y.1, .slice B y.2.length cb] 31) = W at hA p1 p2 hx1 hy1 ⊢
  generalize w.heap.size = n at p1 p2 ⊢
  have d1 := (blk_cell p1 0).trans rfl
  have d2 := (blk_cell p1 1).trans rfl
  have d3 := (blk_cell p2 0).trans rfl
  have d4 := (blk_cell p2 1).trans rfl
  have hC := Aside.mk (less_walk x y hx1.out hy1.out)
  have hres := Aside.mk (one_lt x y)
  generalize decide (ltM x y) = p at hC hres
  replace p1 := Aside.mk p1
  replace p2 := Aside.mk p2
  cases p
  · go_wp2_with fail
    go_at_call 12
    refine hC.out.mono ?_
    rintro e w2 ⟨rfl, hG⟩
    have e1 := (hG.below.cell (p := ⟨n, 0, none⟩) (blk_lt p1.out)).trans d1
    have e2 := (hG.below.cell (p := ⟨n, 1, none⟩) (blk_lt p1.out)).trans d2
    have e3 := (hG.below.cell (p := ⟨n + 1, 0, none⟩) (blk_lt p2.out)).trans d3
    have e4 := (hG.below.cell (p := ⟨n + 1, 1, none⟩) (blk_lt p2.out)).trans d4
    have hD := Aside.mk (less_walk y x (hy1.out.below hG.below) (hx1.out.below hG.below))
    generalize decide (ltM y x) = q at hD hres
    replace hG := Aside.mk hG
    clear d1 d2 d3 d4
    go_wp2_with (go_at_call 12; refine hD.out.mono ?_; rintro e w3 ⟨rfl, hG2⟩; replace hG2 := Aside.mk hG2)
    go_ret
    exact ⟨congrArg (fun q => Ending.returned (.bool q)) (show _ = _ by rw [hres.out]; rfl), Gr.trans _ _ _ hA.out (Gr.trans _ _ _ hG.out hG2.out)⟩
  · go_wp2_with (go_at_call 12; refine hC.out.mono ?_; rintro e w2 ⟨rfl, hG⟩; replace hG := Aside.mk hG)
    go_ret
    exact ⟨congrArg (fun q => Ending.returned (.bool q)) (show _ = _ by rw [hres.out]; rfl), Gr.trans _ _ _ hA.out hG.out⟩

set_option maxHeartbeats 1000000 in
set_option maxRecDepth 100000 in
theorem has_walk {v u : Value} {L : List M} (hL : Reads w v L) (x : M) (hx : IdsAt w u x.2) : Calls Tryd.prog 34 #[v, .agg #[.string x.1, u]] w fun e w' => e = .returned (.bool (hasM L x)) ∧ Gr w w' := by
  have hA : Gr w (w.alloc (.cells #[.string x.1, u] 31)) := Gr.alloc _ _
  have p1 := blk_new w #[.string x.1, u] 31
  replace hL := hL.below hA.below
  replace hx := hx.below hA.below
  obtain ⟨A, cap, rfl, hm, hc⟩ := hL
  obtain ⟨U, ucap, e, _, _⟩ := id hx
  subst e
  replace hc := Aside.mk hc
  replace hA := Aside.mk hA
  replace hx := Aside.mk hx
  go_enter Tryd.func34, Tryd.ntmps34
  go_upto_region 1 with fail
  generalize w.alloc (.cells #[.string x.1, .slice U x.2.length ucap] 31) = W at hA p1 hx hc ⊢
  generalize w.heap.size = nb at p1 ⊢
  have b1 := (blk_cell p1 0).trans rfl
  have b2 := (blk_cell p1 1).trans rfl
  replace b1 := Aside.mk b1
  replace b2 := Aside.mk b2
  replace p1 := Aside.mk p1
  go_wp2_with fail
  go_loopw [9] (fun a wr => ∃ i : Nat, a = .int .i64 (i : Int) ∧ i ≤ L.length ∧ (∀ t (_ : t < L.length), t < i → L[t] ≠ x) ∧ Gr W wr) (fun a _ => L.length - (intOf a).toNat)
  case atStart => exact ⟨0, rfl, Nat.zero_le _, fun _ _ h => absurd h (by omega), Gr.refl _⟩
  case round =>
    obtain ⟨i, rfl, hi, h1, hG⟩ := hrel
    by_cases hlt : i < L.length
    · obtain ⟨b, o, um, rfl, hbl, g0, g1, g2⟩ := hc.out i hlt
      have x0 := (hG.below.cell (p := ⟨b, o + i * 2, none⟩) hbl).trans g0
      have x1 := (hG.below.cell (p := ⟨b, o + i * 2 + 1, none⟩) hbl).trans g1
      obtain ⟨Um, uc, e, _, _⟩ := id g2
      subst e
      have hA1 : Gr W (wr.alloc (.cells #[.string L[i].1, .slice Um L[i].2.length uc] 31)) := Gr.trans _ _ _ hG (Gr.alloc _ _)
      have p2 := blk_new wr #[.string L[i].1, .slice Um L[i].2.length uc] 31
      have d0 := (blk_cell p2 0).trans rfl
      have d1 := (blk_cell p2 1).trans rfl
      have d2 := (hA1.below.cell (p := ⟨nb, 0, none⟩) (blk_lt p1.out)).trans b1.out
      have d3 := (hA1.below.cell (p := ⟨nb, 1, none⟩) (blk_lt p1.out)).trans b2.out
      have hC := Aside.mk (rone_walk L[i] x (g2.below hA1.below) (hx.out.below hA1.below))
      replace h1 := Aside.mk h1
      replace hA1 := Aside.mk hA1
      clear hG g0 g1 g2 p2
      by_cases hd : L[i] = x
      · have hr := Aside.mk (hasM_iff.2 (show x ∈ L from by rw [← hd]; exact List.getElem_mem hlt))
        rw [decide_eq_true hd] at hC
        clear hd
        go_wp2_with (go_at_call 36; refine hC.out.mono ?_; rintro e w2 ⟨rfl, hG2⟩; replace hG2 := Aside.mk hG2)
        go_ret
        exact ⟨congrArg (fun q => Ending.returned (.bool q)) hr.out.symm, Gr.trans _ _ _ hA.out (Gr.trans _ _ _ hA1.out hG2.out)⟩
      · rw [decide_eq_false hd] at hC
        replace hd := Aside.mk hd
        go_wp2_with (go_at_call 36; refine hC.out.mono ?_; rintro e w2 ⟨rfl, hG2⟩; replace hG2 := Aside.mk hG2)
        go_roundw
        case rel =>
          refine ⟨i + 1, by go_num, by omega, fun t ht h => ?_, Gr.trans _ _ _ hA1.out hG2.out⟩
          by_cases e : t = i
          · subst e; exact hd.out
          · exact h1.out t ht (by omega)
        case measure => simp [intOf]; omega
    · obtain rfl : i = L.length := by omega
      have hr : hasM L x = false := by
        have : ¬ hasM L x = true := fun q => by
          obtain ⟨t, ht, e⟩ := List.getElem_of_mem (hasM_iff.1 q)
          exact h1 t ht ht e
        simpa using this
      replace hr := Aside.mk hr
      replace hG := Aside.mk hG
      clear h1
      go_wp2_with fail
      go_ret
      exact ⟨congrArg (fun q => Ending.returned (.bool q)) hr.out.symm, Gr.trans _ _ _ hA.out hG.out⟩
end
end Go.Proofs.YtmhpogajklihdaaDoor.C
namespace Go.Proofs.YtmhpogajklihdaaDoor.C
open Go.RowKit Go.Shelf Go.Lib Go.Sort Go.Proofs.YtmhpogajklihdaaDoorW.PrintWords

attribute [local go_sem] XReg.envOf

section
variable {w : World} {v v2 : Value} {K L : List M}

set_option maxHeartbeats 1000000 in
set_option maxRecDepth 100000 in
theorem rsame_walk (hK : Reads w v K) (hL : Reads w v2 L) : Calls Tryd.prog 21 #[v, v2] w fun e w' => e = .returned (.bool (decide (K = L))) ∧ Gr w w' := by
  obtain ⟨A, cap, rfl, hm, hc⟩ := hK
  obtain ⟨A2, cap2, rfl, hm2, hc2⟩ := hL
  replace hc := Aside.mk hc
  replace hc2 := Aside.mk hc2
  by_cases hlen : K.length = L.length
  · go_enter Tryd.func21, Tryd.ntmps21
    have hne : ((K.length : Int) != L.length) = false := by simp [hlen]
    replace hlen : K.length ≤ L.length ∧ L.length ≤ K.length := by omega
    go_wp2_with fail
    go_loopw [13] (fun a wr => ∃ i : Nat, a = .int .i64 (i : Int) ∧ i ≤ K.length ∧ K.take i = L.take i ∧ Gr w wr) (fun a _ => K.length - (intOf a).toNat)
    case atStart => exact ⟨0, rfl, Nat.zero_le _, rfl, Gr.refl _⟩
    case round =>
      obtain ⟨i, rfl, hi, h1, hG⟩ := hrel
      by_cases hlt : i < K.length
      · have hlt2 : i < L.length := by omega
        obtain ⟨b, o, u, rfl, hbl, g0, g1, g2⟩ := hc.out i hlt
        obtain ⟨b2, o2, u2, rfl, hbl2, k0, k1, k2⟩ := hc2.out i hlt2
        have hb : ∀ W', Gr wr.drew W' → Below w.heap.size w W' := fun W' h => (Gr.trans _ _ _ (Gr.trans _ _ _ hG (Gr.drew wr)) h).below
        have x0 : ∀ W', Gr wr.drew W' → W'.cell? ⟨b, o + i * 2, none⟩ = some (.string K[i].1) := fun W' h => ((hb W' h).cell (p := ⟨b, o + i * 2, none⟩) hbl).trans g0
        have x1 : ∀ W', Gr wr.drew W' → W'.cell? ⟨b, o + i * 2 + 1, none⟩ = some u := fun W' h => ((hb W' h).cell (p := ⟨b, o + i * 2 + 1, none⟩) hbl).trans g1
        have y0 : ∀ W', Gr wr.drew W' → W'.cell? ⟨b2, o2 + i * 2, none⟩ = some (.string L[i].1) := fun W' h => ((hb W' h).cell (p := ⟨b2, o2 + i * 2, none⟩) hbl2).trans k0
        have y1 : ∀ W', Gr wr.drew W' → W'.cell? ⟨b2, o2 + i * 2 + 1, none⟩ = some u2 := fun W' h => ((hb W' h).cell (p := ⟨b2, o2 + i * 2 + 1, none⟩) hbl2).trans k1
        have k36 : ∀ W', Gr wr.drew W' → Calls Tryd.prog 36 #[.agg #[.string K[i].1, u], .agg #[.string L[i].1, u2]] W' fun e W2 => ∃ u, e = .returned u ∧ Gr W' W2 ∧ u = .bool (decide (K[i] = L[i])) := fun W' h => (rone_walk K[i] L[i] (g2.below (hb W' h)) (k2.below (hb W' h))).mono fun e W2 ⟨h1, h2⟩ => ⟨_, h1, h2, rfl⟩
        obtain ⟨U, uc, rfl, _, _⟩ := id g2
        obtain ⟨U2, uc2, rfl, _, _⟩ := id k2
        generalize hP : decide (K[i] = L[i]) = P at k36
        replace hP := Aside.mk hP
        replace k36 := Aside.mk k36
        replace hG := Aside.mk hG
        have t1 := Aside.mk (List.take_succ_eq_append_getElem hlt)
        have t2 := Aside.mk (List.take_succ_eq_append_getElem hlt2)
        replace h1 := Aside.mk h1
        clear g0 g1 g2 k0 k1 k2 hb
        go_upto_region 6 with fail
        refine XReg.wp_region Gr Gr.refl Gr.trans (by kernel_rfl) (by kernel_rfl) [(0, .det (.slice (some ⟨b, o, none⟩) K.length cap)), (1, .det (.slice (some ⟨b2, o2, none⟩) L.length cap2)), (5, .det (.int .i64 (i : Int)))] (XReg.base_cons rfl (XReg.base_cons rfl (XReg.base_cons rfl XReg.base_nil))) ?_
        repeat (first
          | (refine XReg.walk_move Gr.refl rfl rfl _ rfl (by kernel_rfl) (by kernel_rfl) ?_)
          | (refine XReg.walk_calld k36.out rfl (by kernel_rfl) (by kernel_rfl) _ rfl (by kernel_rfl) (by kernel_rfl) ?_)
          | (refine XReg.run_1 Gr.refl rfl rfl _ rfl (by kernel_rfl) (by kernel_rfl) ?_; apply Exists.intro; refine ⟨fun ρ W hE h1 => ?_, ?_⟩; (go_simp; try rfl))
          | (refine XReg.run_2 Gr.refl rfl rfl rfl _ rfl (by kernel_rfl) (by kernel_rfl) ?_; apply Exists.intro; refine ⟨fun ρ W hE h1 h2 => ?_, ?_⟩; (go_simp; try rfl)))
        intro ρ W' hE _
        replace hE := Aside.mk (Gr.trans _ _ _ (Gr.drew wr) hE)
        simp only [Act.put, List.setIfInBounds_toArray, List.set_cons_zero, List.set_cons_succ]
        clear x0 x1 y0 y1 k36
        by_cases hd : K[i] = L[i]
        · have hd' := hP.out.symm.trans (decide_eq_true hd)
          subst hd'
          replace hd := Aside.mk hd
          clear hP
          go_wp2_with fail
          go_roundw
          case rel => exact ⟨i + 1, by go_num, by omega, by rw [t1.out, t2.out, h1.out, hd.out], Gr.trans _ _ _ hG.out hE.out⟩
          case measure => simp [intOf]; omega
        · have hd' := hP.out.symm.trans (decide_eq_false hd)
          subst hd'
          have e := Aside.mk (decide_eq_false (fun q : K = L => hd (by subst q; rfl)))
          clear hP hd
          go_wp2_with fail
          go_ret
          exact ⟨congrArg (fun q => Ending.returned (.bool q)) e.out.symm, Gr.trans _ _ _ hG.out hE.out⟩
      · obtain rfl : i = K.length := by omega
        have e : K = L := by
          rw [List.take_length] at h1
          rw [h1, List.take_of_length_le (by omega)]
        replace e := Aside.mk (decide_eq_true e)
        replace hG := Aside.mk hG
        clear h1
        go_wp2_with fail
        go_ret
        exact ⟨congrArg (fun q => Ending.returned (.bool q)) e.out.symm, hG.out⟩
  · have hne : ((K.length : Int) != L.length) = true := by rw [bne_iff_ne]; omega
    have e : decide (K = L) = false := decide_eq_false (fun q => hlen (by rw [q]))
    rw [e]
    clear e
    go_enter Tryd.func21, Tryd.ntmps21
    go_wp2_with fail
    go_ret
    exact ⟨rfl, Gr.refl _⟩

set_option maxRecDepth 100000 in
theorem lsame_walk (hK : Reads w v K) (fK : Few K) (hL : Reads w v2 L) : Calls Tryd.prog 15 #[v, v2] w fun e w' => e = .returned (.bool (decide (K = L))) ∧ Below w.heap.size w w' := by
  have hC := Aside.mk (ref_walk hK fK)
  have hL0 := Aside.mk hL
  obtain ⟨A, cap, rfl, _, _⟩ := hK
  obtain ⟨A2, cap2, rfl, _, _⟩ := hL
  generalize hp : decide (K = L) = p
  go_enter Tryd.func15, Tryd.ntmps15
  go_wp2_with fail
  go_at_call 11
  refine hC.out.mono ?_
  rintro e w1 ⟨r, l, rfl, hO, hk, hB⟩
  have hD := rsame_walk hO.reads (hL0.out.below hB)
  rw [hk, hp] at hD
  replace hD := Aside.mk hD
  obtain ⟨a1, c1, rfl⟩ := owns_form hO.1
  have hs := hB.size
  replace hB := Aside.mk hB
  clear hO hk hC
  go_wp2_with (go_at_call 21; refine hD.out.mono ?_; rintro e w2 ⟨rfl, hG2⟩; replace hG2 := Aside.mk hG2)
  go_ret
  exact ⟨rfl, hB.out.trans (hG2.out.below.mono hs)⟩
end
end Go.Proofs.YtmhpogajklihdaaDoor.C
namespace Go.Proofs.YtmhpogajklihdaaDoor.C
open Go.RowKit Go.Shelf Go.Lib Go.Sort Go.Proofs.YtmhpogajklihdaaDoorW.PrintWords

def ins (x : P) : List P → List P
  | [] => [x]
  | y :: l => if ltM (key x) (key y) then x :: y :: l else y :: ins x l
theorem ins_skip (x : P) : ∀ (l : List P) (j : Nat), j ≤ l.length → (∀ t (_ : t < l.length), t < j → ¬ ltM (key x) (key l[t])) → ins x l = l.take j ++ ins x (l.drop j)
  | _, 0, _, _ => rfl
  | [], j + 1, h, _ => by simp at h
  | y :: l, j + 1, h, hn => by
    have h0 : ¬ ltM (key x) (key y) := hn 0 (by simp) (by omega)
    have ih := ins_skip x l j (by simpa using h) fun t ht hj => by
      have := hn (t + 1) (by simpa using ht) (by omega)
      simpa using this
    show (if _ then _ else _) = _
    rw [if_neg h0, ih]
    rfl
theorem ins_mem (x p : P) : ∀ l : List P, p ∈ ins x l ↔ p = x ∨ p ∈ l
  | [] => by simp [ins]
  | y :: l => by
    have ih := ins_mem x p l
    unfold ins
    split
    · simp
    · rw [List.mem_cons, ih, List.mem_cons]
      constructor
      · rintro (h | h | h)
        · exact .inr (.inl h)
        · exact .inl h
        · exact .inr (.inr h)
      · rintro (h | h | h)
        · exact .inr (.inl h)
        · exact .inl h
        · exact .inr (.inr h)
theorem ins_rises (x : P) : ∀ l : List P, Rising (l.map key) → key x ∉ l.map key → Rising ((ins x l).map key)
  | [], _, _ => by simp [ins, Rising]
  | y :: l, h, hn => by
    rw [List.map_cons] at h hn
    obtain ⟨h1, h2⟩ := List.pairwise_cons.1 h
    have hne : key x ≠ key y := fun e => hn (by rw [e]; simp)
    have hn2 : key x ∉ l.map key := fun e => hn (List.mem_cons_of_mem _ e)
    unfold ins
    split
    · rename_i q
      rw [List.map_cons, List.map_cons]
      refine List.pairwise_cons.2 ⟨fun z hz => ?_, h⟩
      rcases List.mem_cons.1 hz with e | hz
      · rw [e]; exact q
      · exact cmpM_trans q (h1 z hz)
    · rename_i q
      rw [List.map_cons]
      refine List.pairwise_cons.2 ⟨fun z hz => ?_, ins_rises x l h2 hn2⟩
      obtain ⟨p, hp, rfl⟩ := List.mem_map.1 hz
      rcases (ins_mem x p l).1 hp with e | hp
      · rw [e]
        exact (ltM_total hne).resolve_left q
      · exact h1 _ (List.mem_map_of_mem hp)
theorem ins_keys (x : P) (l : List P) (z : M) : z ∈ (ins x l).map key ↔ z = key x ∨ z ∈ l.map key := by
  constructor
  · intro h
    obtain ⟨p, hp, rfl⟩ := List.mem_map.1 h
    rcases (ins_mem x p l).1 hp with e | hp
    · exact .inl (by rw [e])
    · exact .inr (List.mem_map_of_mem hp)
  · rintro (rfl | h)
    · exact List.mem_map_of_mem ((ins_mem x x l).2 (.inl rfl))
    · obtain ⟨p, hp, rfl⟩ := List.mem_map.1 h
      exact List.mem_map_of_mem ((ins_mem x p l).2 (.inr hp))
theorem ins_len (x : P) : ∀ l : List P, (ins x l).length = l.length + 1
  | [] => rfl
  | y :: l => by
    have ih := ins_len x l
    unfold ins
    split
    · rfl
    · rw [List.length_cons, ih, List.length_cons]

/-- A row of the call's own, whose ids lie where they lay in w0. -/
def Refs (w0 W : World) (v : Value) (l : List P) : Prop := W.ownsRow w0.heap.size 31 2 v l.length (cellsP l) ∧ ∀ p ∈ l, IdsAt w0 p.2.2 p.2.1

section
variable {w0 w W : World} {v : Value} {l : List P}
theorem Refs.nil (w0 W : World) : Refs w0 W (.slice none 0 0) [] := ⟨World.ownsRow_nil _ _ _ _, fun p hp => by cases hp⟩
theorem Refs.below (h : Refs w0 w v l) (hb : Below w.heap.size w W) : Refs w0 W v l := ⟨owns_below h.1 hb, h.2⟩
theorem Refs.reads (h : Refs w0 W v l) (hw : Below w0.heap.size w0 W) : Reads W v (l.map key) := by
  have hm := owns_max h.1
  by_cases h0 : 0 < l.length
  · obtain ⟨g, cap, rfl, _, hl⟩ := owns_form1 h.1 h0
    refine ⟨_, cap, by rw [List.length_map], by rw [List.length_map]; omega, fun j hj => ?_⟩
    have hj' : j < l.length := by simpa using hj
    obtain ⟨c0, c1⟩ := cellsP_at l j hj'
    have hlen := cellsP_len l
    refine ⟨g, 0, l[j].2.2, rfl, hl, ?_, ?_, ?_⟩
    · have := h.1.cellAt (j * 2) (by omega)
      rw [c0] at this
      simpa using this
    · have := h.1.cellAt (j * 2 + 1) (by omega)
      rw [c1] at this
      simpa [Nat.add_assoc] using this
    · have := (h.2 l[j] (List.getElem_mem hj')).below hw
      simpa using this
  · obtain ⟨A, cap, rfl⟩ := owns_form h.1
    exact ⟨A, cap, by rw [List.length_map], by rw [List.length_map]; omega, fun j hj => absurd hj (by simp; omega)⟩
end
end Go.Proofs.YtmhpogajklihdaaDoor.C
namespace Go.Proofs.YtmhpogajklihdaaDoor.C
open Go.RowKit Go.Shelf Go.Lib Go.Sort Go.Proofs.YtmhpogajklihdaaDoorW.PrintWords

section
variable {w : World} {v : Value} {L : List M}

set_option maxHeartbeats 4000000 in
set_option maxRecDepth 100000 in
theorem rsort_walk (hL : Reads w v L) (hf : L.length ≤ 1000) : Calls Tryd.prog 18 #[v] w fun e w' => ∃ r l, e = .returned r ∧ Refs w w' r l ∧ Rising (l.map key) ∧ (∀ x, x ∈ l.map key ↔ x ∈ L) ∧ l.length ≤ L.length ∧ Below w.heap.size w w' := by
  obtain ⟨A, cap, rfl, hm, hc⟩ := hL
  obtain ⟨i0, hi0, hz0, hz1, hz2⟩ := info_parts info31
  replace hi0 := Aside.mk hi0
  replace hz0 := Aside.mk hz0
  replace hz1 := Aside.mk hz1
  replace hz2 := Aside.mk hz2
  replace hc := Aside.mk hc
  have hmax : 1000000 ≤ maxLen := by decide
  go_enter Tryd.func18, Tryd.ntmps18
  go_wp2_with fail
  go_loopw [12, 3] (fun a t wr => ∃ (i : Nat) (l : List P), a = .int .i64 (i : Int) ∧ i ≤ L.length ∧ Refs w wr t l ∧ Rising (l.map key) ∧ (∀ x, x ∈ l.map key ↔ x ∈ L.take i) ∧ l.length ≤ i ∧ Below w.heap.size w wr) (fun a _ _ => L.length - (intOf a).toNat)
  case atStart => exact ⟨0, [], rfl, Nat.zero_le _, Refs.nil _ _, .nil, fun x => by simp, Nat.le_refl _, Below.refl _ _⟩
  case round =>
    obtain ⟨i, l, rfl, hi, hR, hr, hmem, hll, hB⟩ := hrel
    obtain ⟨oa, oc, e⟩ := owns_form hR.1
    subst e
    by_cases hlt : i < L.length
    · obtain ⟨b, o, u, rfl, hbl, g0, g1, g2⟩ := hc.out i hlt
      have x0 := (hB.cell (p := ⟨b, o + i * 2, none⟩) hbl).trans g0
      have x1 := (hB.cell (p := ⟨b, o + i * 2 + 1, none⟩) hbl).trans g1
      obtain ⟨U, uc, e, _, _⟩ := id g2
      subst e
      have hA : Gr wr (wr.alloc (.cells #[.string L[i].1, .slice U L[i].2.length uc] 31)) := Gr.alloc _ _
      have p1 := blk_new wr #[.string L[i].1, .slice U L[i].2.length uc] 31
      have hBW := hB.trans (hA.below.mono hB.size)
      have hRW := hR.below hA.below
      have hC := has_walk (hRW.reads hBW) L[i] (g2.below hBW)
      have htk := List.take_succ_eq_append_getElem hlt
      go_upto_region 5 with fail
      generalize wr.alloc (.cells #[.string L[i].1, .slice U L[i].2.length uc] 31) = W at hA p1 hBW hRW hC ⊢
      clear x0 x1 hR hB hA g0 g1
      generalize wr.heap.size = n at p1 ⊢
      have d0 := (blk_cell p1 0).trans rfl
      have d1 := (blk_cell p1 1).trans rfl
      replace hr := Aside.mk hr
      replace hmem := Aside.mk hmem
      replace htk := Aside.mk htk
      replace hBW := Aside.mk hBW
      replace hRW := Aside.mk hRW
      replace p1 := Aside.mk p1
      generalize hp : hasM (l.map key) L[i] = p at hC
      replace hp := Aside.mk hp
      replace hC := Aside.mk hC
      cases p
      · go_upto_region 5 with fail
        go_wp2_with (go_at_call 34; refine hC.out.mono ?_; rintro e w2 ⟨rfl, hG2⟩; have e0 := (hG2.below.cell (p := ⟨n, 0, none⟩) (blk_lt p1.out)).trans d0; have e1 := (hG2.below.cell (p := ⟨n, 1, none⟩) (blk_lt p1.out)).trans d1; replace hG2 := Aside.mk hG2)
        have hR2 := hRW.out.below hG2.out.below
        have hB2 := Aside.mk (hBW.out.trans (hG2.out.below.mono hBW.out.size))
        have hx2 := Aside.mk ((g2.below hBW.out).below hG2.out.below)
        have hids := Aside.mk hR2.2
        have hrow := hR2.1
        have hs2 := hB2.out.size
        have hn2 : n < w2.heap.size := Nat.lt_of_lt_of_le (blk_lt p1.out) hG2.out.below.size
        clear d0 d1 hRW hBW hG2 hC hR2
        replace g2 := Aside.mk g2
        replace hrow := Aside.mk hrow
        obtain ⟨x, hx⟩ : ∃ x : P, x = (L[i].1, L[i].2, .slice U L[i].2.length uc) := ⟨_, rfl⟩
        replace hx := Aside.mk hx
        go_loopw [21, 6, 7] (fun a t b wx => ∃ (j : Nat) (m : List P) (p : Bool), a = .int .i64 (j : Int) ∧ b = .bool p ∧ j ≤ l.length ∧ m.length ≤ j + 1 ∧ wx.ownsRow w2.heap.size 31 2 t m.length (cellsP m) ∧ (p = false → m = l.take j ∧ ∀ q (_ : q < l.length), q < j → ¬ ltM (key x) (key l[q])) ∧ (p = true → m ++ l.drop j = ins x l) ∧ Below w2.heap.size w2 wx) (fun a _ _ _ => l.length - (intOf a).toNat)
        case atStart => exact ⟨0, [], false, rfl, rfl, Nat.zero_le _, Nat.zero_le _, World.ownsRow_nil _ _ _ _, fun _ => ⟨rfl, fun _ _ h => absurd h (by omega)⟩, fun h => Bool.noConfusion h, Below.refl _ _⟩
        case round =>
          obtain ⟨j, m, p, rfl, rfl, hj, hml, hM, hpf, hpt, hBx⟩ := hrel
          by_cases hjl : j < l.length
          · obtain ⟨g, oc2, e, hgB, hgl⟩ := owns_form1 hrow.out (by omega)
            simp only [Value.slice.injEq, true_and] at e
            obtain ⟨rfl, rfl⟩ := e
            obtain ⟨c0, c1⟩ := cellsP_at l j hjl
            have k0 : w2.cell? ⟨g, j * 2, none⟩ = some (.string l[j].1) := (hrow.out.cellAt (j * 2) (by omega)).trans c0
            have k1 : w2.cell? ⟨g, j * 2 + 1, none⟩ = some l[j].2.2 := (hrow.out.cellAt (j * 2 + 1) (by omega)).trans c1
            have x0 := (hBx.cell (p := ⟨g, j * 2, none⟩) hgl).trans k0
            have x1 := (hBx.cell (p := ⟨g, j * 2 + 1, none⟩) hgl).trans k1
            obtain ⟨V, vc, ev, _, _⟩ := hids.out l[j] (List.getElem_mem hjl)
            rw [ev] at x1
            clear c0 c1 k0 k1
            obtain ⟨ma, mc, e⟩ := owns_form hM
            subst e
            have hAx : Below wr.heap.size wr (wr.alloc (.cells #[.string l[j].1, .slice V l[j].2.1.length vc] 31)) := (Below.refl _ wr).alloc (Nat.le_refl _) _
            have q1 := blk_new wr #[.string l[j].1, .slice V l[j].2.1.length vc] 31
            have hMx := owns_below hM hAx
            have hBy := hBx.trans (hAx.mono hBx.size)
            have hlow : ∀ k, (Value.slice ma m.length mc).ownBlock = some k → k < wr.heap.size := fun k hk => by
              obtain ⟨c, hc⟩ := own_typed hM k hk
              exact blk_lt hc
            replace hlow := Aside.mk hlow
            go_upto_region 11 with fail
            generalize wr.alloc (.cells #[.string l[j].1, .slice V l[j].2.1.length vc] 31) = W1 at q1 hMx hBy ⊢
            clear x0 x1 hAx hM hBx
            generalize wr.heap.size = n1 at q1 hlow ⊢
            have y0 := (hBy.cell (p := ⟨n, 0, none⟩) hn2).trans e0
            have y1 := (hBy.cell (p := ⟨n, 1, none⟩) hn2).trans e1
            have z0 := (blk_cell q1 0).trans rfl
            have z1 := (blk_cell q1 1).trans rfl
            clear e0 e1
            cases p
            · obtain ⟨hm2, hno⟩ := hpf rfl
              replace hm2 := Aside.mk hm2
              have hC2 := less_walk L[i] (key l[j]) (hx2.out.below hBy) (by have := (hids.out l[j] (List.getElem_mem hjl)).below (hB2.out.trans (hBy.mono hs2)); rw [ev] at this; exact this)
              by_cases hd : ltM L[i] (key l[j])
              · rw [decide_eq_true hd] at hC2
                have hsk := ins_skip x l j (by omega) hno
                rw [List.drop_eq_getElem_cons hjl] at hsk
                have hi1 : ins x (l[j] :: l.drop (j + 1)) = x :: l[j] :: l.drop (j + 1) := by
                  show (if _ then _ else _) = _
                  rw [if_pos (by rw [hx.out]; exact hd)]
                rw [hi1] at hsk
                replace hsk := Aside.mk hsk
                replace hC2 := Aside.mk hC2
                replace ev := Aside.mk ev
                clear hpf hpt hno hd hi1
                go_wp2_with fail
                go_at_call 12
                refine hC2.out.mono ?_
                rintro e w4 ⟨rfl, hG4⟩
                have y2 := (hG4.below.cell (p := ⟨n, 0, none⟩) (Nat.lt_of_lt_of_le hn2 hBy.size)).trans y0
                have y3 := (hG4.below.cell (p := ⟨n, 1, none⟩) (Nat.lt_of_lt_of_le hn2 hBy.size)).trans y1
                have q4 := (hG4.below.block n1 (blk_lt q1)).trans q1
                have hM4 := owns_below hMx hG4.below
                have hB4 := hBy.trans (hG4.below.mono hBy.size)
                have hA4 : Below w4.heap.size w4 (w4.alloc (.cells #[.string L[i].1, .slice U L[i].2.length uc] 31)) := (Below.refl _ w4).alloc (Nat.le_refl _) _
                have q5 := (hA4.block n1 (blk_lt q4)).trans q4
                have hM5 := owns_below hM4 hA4
                have hB5 := hB4.trans (hA4.mono hB4.size)
                have hs5 := hB5.size
                have hcn := Aside.mk (cells_new w4 [.string L[i].1, .slice U L[i].2.length uc] 31 rfl)
                replace hB5 := Aside.mk hB5
                replace q5 := Aside.mk q5
                clear y0 y1 z0 z1 hM4 hB4 hA4 hMx hBy hG4 q4 q1
                go_upto_region 13 with (at_builtin; refine wpList_append_own _ rfl _ _ 28 rfl w2.heap.size 31 i0 (.agg #[.string ⟨#[]⟩, .slice none 0 0]) 2 40 Tryd.underlying28 hi0.out hz0.out hz1.out hz2.out rfl (by decide) _ _ _ rfl hM5 ⟨w4.heap.size, 0, none⟩ 1 1 [.string L[i].1, .slice U L[i].2.length uc] rfl rfl hcn.out (by simp [Value.oneCell']) (by omega) (by omega) hs5 ?_; intro v3 w3 hown3 hgr3 _; replace hown3 := Aside.mk hown3; replace hgr3 := Aside.mk hgr3)
                have hB6 := hB5.out.grown hgr3.out hs5 (fun k hk => own_from hM5 hk)
                have hne : ∀ k, (Value.slice ma m.length mc).ownBlock = some k → n1 ≠ k := fun k hk e => by have := hlow.out k hk; omega
                have q6 := (hgr3.out.block n1 (blk_lt q5.out) (fun e => hne n1 e.symm rfl)).trans q5.out
                have hA6 : Below w3.heap.size w3 (w3.alloc (.cells #[.string l[j].1, .slice V l[j].2.1.length vc] 31)) := (Below.refl _ w3).alloc (Nat.le_refl _) _
                have hM7 := owns_below hown3.out hA6
                have hB7 := hB6.trans (hA6.mono hB6.size)
                have hs7 := hB7.size
                have y4 := (blk_cell q6 0).trans rfl
                have y5 := (blk_cell q6 1).trans rfl
                have hcn2 := Aside.mk (cells_new w3 [.string l[j].1, .slice V l[j].2.1.length vc] 31 rfl)
                replace hB7 := Aside.mk hB7
                obtain ⟨ma3, mc3, e⟩ := owns_form hown3.out
                subst e
                clear hB6 q6 hA6 hM5 hs5 hne hcn y2 y3
                go_wp2_with (at_builtin; refine wpList_append_own _ rfl _ _ 28 rfl w2.heap.size 31 i0 (.agg #[.string ⟨#[]⟩, .slice none 0 0]) 2 40 Tryd.underlying28 hi0.out hz0.out hz1.out hz2.out rfl (by decide) _ _ _ rfl hM7 ⟨w3.heap.size, 0, none⟩ 1 1 [.string l[j].1, .slice V l[j].2.1.length vc] rfl rfl hcn2.out (by simp [Value.oneCell']) (by omega) (by omega) hs7 ?_; intro v5 w5 hown5 hgr5 _; replace hown5 := Aside.mk hown5; replace hgr5 := Aside.mk hgr5)
                go_roundw
                case rel =>
                  have hmj : m.length ≤ j := by rw [hm2.out, List.length_take]; omega
                  refine ⟨j + 1, (m ++ [x]) ++ [l[j]], true, by go_num, rfl, by omega, by rw [List.length_append, List.length_append]; simp; omega, ?_, fun h => Bool.noConfusion h, fun _ => ?_, hB7.out.grown hgr5.out hs7 (fun k hk => own_from hM7 hk)⟩
                  · rw [List.length_append, List.length_append, cellsP_append, cellsP_append, ev.out, hx.out]; exact hown5.out
                  · rw [hsk.out, hm2.out]; simp
                case measure => simp [intOf]; omega
              · rw [decide_eq_false hd] at hC2
                have hno2 : ∀ q (_ : q < l.length), q < j + 1 → ¬ ltM (key x) (key l[q]) := fun q hq h => by
                  by_cases e : q = j
                  · subst e; rw [hx.out]; exact hd
                  · exact hno q hq (by omega)
                replace hno2 := Aside.mk hno2
                replace hC2 := Aside.mk hC2
                replace ev := Aside.mk ev
                have tk := Aside.mk (List.take_succ_eq_append_getElem hjl)
                clear hpf hpt hno hd
                go_wp2_with fail
                go_at_call 12
                refine hC2.out.mono ?_
                rintro e w4 ⟨rfl, hG4⟩
                have z2 := (hG4.below.cell (p := ⟨n1, 0, none⟩) (blk_lt q1)).trans z0
                have z3 := (hG4.below.cell (p := ⟨n1, 1, none⟩) (blk_lt q1)).trans z1
                have hM4 := owns_below hMx hG4.below
                have hB4 := hBy.trans (hG4.below.mono hBy.size)
                have hA4 : Below w4.heap.size w4 (w4.alloc (.cells #[.string l[j].1, .slice V l[j].2.1.length vc] 31)) := (Below.refl _ w4).alloc (Nat.le_refl _) _
                have hM5 := owns_below hM4 hA4
                have hB5 := hB4.trans (hA4.mono hB4.size)
                have hs5 := hB5.size
                have hcn := Aside.mk (cells_new w4 [.string l[j].1, .slice V l[j].2.1.length vc] 31 rfl)
                replace hB5 := Aside.mk hB5
                clear y0 y1 z0 z1 hM4 hB4 hA4 hMx hBy hG4
                go_wp2_with (at_builtin; refine wpList_append_own _ rfl _ _ 28 rfl w2.heap.size 31 i0 (.agg #[.string ⟨#[]⟩, .slice none 0 0]) 2 40 Tryd.underlying28 hi0.out hz0.out hz1.out hz2.out rfl (by decide) _ _ _ rfl hM5 ⟨w4.heap.size, 0, none⟩ 1 1 [.string l[j].1, .slice V l[j].2.1.length vc] rfl rfl hcn.out (by simp [Value.oneCell']) (by omega) (by omega) hs5 ?_; intro v3 w3 hown3 hgr3 _; replace hown3 := Aside.mk hown3; replace hgr3 := Aside.mk hgr3)
                go_roundw
                case rel =>
                  refine ⟨j + 1, m ++ [l[j]], false, by go_num, rfl, by omega, by rw [List.length_append]; simp; omega, by rw [List.length_append, cellsP_append, ev.out]; exact hown3.out, fun _ => ⟨by rw [hm2.out, tk.out], hno2.out⟩, fun h => Bool.noConfusion h, hB5.out.grown hgr3.out hs5 (fun k hk => own_from hM5 hk)⟩
                case measure => simp [intOf]; omega
            · have hins := hpt rfl
              rw [List.drop_eq_getElem_cons hjl] at hins
              have hA2 : Below W1.heap.size W1 (W1.alloc (.cells #[.string l[j].1, .slice V l[j].2.1.length vc] 31)) := (Below.refl _ W1).alloc (Nat.le_refl _) _
              have hM2 := owns_below hMx hA2
              have hB3 := hBy.trans (hA2.mono hBy.size)
              have hs3 := hB3.size
              have hcn := Aside.mk (cells_new W1 [.string l[j].1, .slice V l[j].2.1.length vc] 31 rfl)
              replace hins := Aside.mk hins
              replace hB3 := Aside.mk hB3
              replace ev := Aside.mk ev
              clear hpf hpt hA2 hMx
              go_wp2_with (at_builtin; refine wpList_append_own _ rfl _ _ 28 rfl w2.heap.size 31 i0 (.agg #[.string ⟨#[]⟩, .slice none 0 0]) 2 40 Tryd.underlying28 hi0.out hz0.out hz1.out hz2.out rfl (by decide) _ _ _ rfl hM2 ⟨W1.heap.size, 0, none⟩ 1 1 [.string l[j].1, .slice V l[j].2.1.length vc] rfl rfl hcn.out (by simp [Value.oneCell']) (by omega) (by omega) hs3 ?_; intro v3 w3 hown3 hgr3 _; replace hown3 := Aside.mk hown3; replace hgr3 := Aside.mk hgr3)
              go_roundw
              case rel =>
                refine ⟨j + 1, m ++ [l[j]], true, by go_num, rfl, by omega, by rw [List.length_append]; simp; omega, by rw [List.length_append, cellsP_append, ev.out]; exact hown3.out, fun h => Bool.noConfusion h, fun _ => ?_, hB3.out.grown hgr3.out hs3 (fun k hk => own_from hM2 hk)⟩
                rw [← hins.out]; simp
              case measure => simp [intOf]; omega
          · obtain rfl : j = l.length := by omega
            have fin : ∀ (W' : World) (v' : Value) (m' : List P), m' = ins x l → W'.ownsRow w2.heap.size 31 2 v' m'.length (cellsP m') → Below w2.heap.size w2 W' → Refs w W' v' (ins x l) ∧ Rising ((ins x l).map key) ∧ (∀ z, z ∈ (ins x l).map key ↔ z ∈ L.take (i + 1)) ∧ (ins x l).length ≤ i + 1 ∧ Below w.heap.size w W' := fun W' v' m' e ho hb => by
              subst e
              refine ⟨⟨owns_base ho hs2, fun q hq => ?_⟩, ins_rises x l hr.out ?_, fun z => ?_, by rw [ins_len]; omega, hB2.out.trans (hb.mono hs2)⟩
              · rcases (ins_mem x q l).1 hq with e | hq
                · rw [e, hx.out]; exact g2.out
                · exact hids.out q hq
              · intro h
                have := hasM_iff.2 h
                rw [hx.out] at this
                rw [show key (L[i].1, L[i].2, Value.slice U L[i].2.length uc) = L[i] from rfl] at this
                rw [hp.out] at this
                cases this
              · rw [ins_keys, htk.out, hmem.out, List.mem_append, List.mem_singleton, hx.out]
                exact or_comm
            replace fin := Aside.mk fin
            obtain ⟨ma, mc, e⟩ := owns_form hM
            subst e
            have y0 := (hBx.cell (p := ⟨n, 0, none⟩) hn2).trans e0
            have y1 := (hBx.cell (p := ⟨n, 1, none⟩) hn2).trans e1
            clear e0 e1
            cases p
            · obtain ⟨rfl, hno⟩ := hpf rfl
              have hsk := ins_skip x l l.length (Nat.le_refl _) hno
              rw [List.drop_length, List.take_length] at hsk
              rw [List.take_length] at hM ⊢
              have hAx := (Below.refl _ wr).alloc (Nat.le_refl _) (.cells #[.string L[i].1, .slice U L[i].2.length uc] 31)
              have hMx := owns_below hM hAx
              have hcn := cells_new wr [.string L[i].1, .slice U L[i].2.length uc] 31 rfl
              have hBxx := hBx.trans (hAx.mono hBx.size)
              have hsx : w2.heap.size ≤ (wr.alloc (.cells #[.string L[i].1, .slice U L[i].2.length uc] 31)).heap.size := hBxx.size
              replace hno := Aside.mk hno
              replace hsk := Aside.mk hsk
              replace hcn := Aside.mk hcn
              replace hBxx := Aside.mk hBxx
              clear hpf hpt hM hAx hBx
              go_wp2_with (at_builtin; refine wpList_append_own _ rfl _ _ 28 rfl w2.heap.size 31 i0 (.agg #[.string ⟨#[]⟩, .slice none 0 0]) 2 40 Tryd.underlying28 hi0.out hz0.out hz1.out hz2.out rfl (by decide) _ _ _ rfl hMx ⟨wr.heap.size, 0, none⟩ 1 1 [.string L[i].1, .slice U L[i].2.length uc] rfl rfl hcn.out (by simp [Value.oneCell']) (by omega) (by omega) hsx ?_; intro v3 w3 hown3 hgr3 _; replace hown3 := Aside.mk hown3; replace hgr3 := Aside.mk hgr3)
              go_roundw
              case rel =>
                have hb3 : Below w2.heap.size w2 w3 := hBxx.out.grown hgr3.out hsx (fun k hk => own_from hMx hk)
                obtain ⟨f1, f2, f3, f4, f5⟩ := fin.out w3 v3 (l ++ [x]) hsk.out.symm (by rw [List.length_append, cellsP_append, hx.out]; exact hown3.out) hb3
                exact ⟨i + 1, ins x l, by go_num, by omega, f1, f2, f3, f4, f5⟩
              case measure => simp [intOf]; omega
            · have hins := hpt rfl
              rw [List.drop_length, List.append_nil] at hins
              replace hM := Aside.mk hM
              replace hins := Aside.mk hins
              replace hBx := Aside.mk hBx
              clear hpf hpt
              go_wp2_with fail
              go_roundw
              case rel =>
                obtain ⟨f1, f2, f3, f4, f5⟩ := fin.out wr _ m hins.out hM.out hBx.out
                exact ⟨i + 1, ins x l, by go_num, by omega, f1, f2, f3, f4, f5⟩
              case measure => simp [intOf]; omega
      · go_wp2_with (go_at_call 34; refine hC.out.mono ?_; rintro e w2 ⟨rfl, hG2⟩; replace hG2 := Aside.mk hG2)
        go_roundw
        case rel =>
          refine ⟨i + 1, l, by go_num, by omega, hRW.out.below hG2.out.below, hr.out, fun x => ?_, by omega, hBW.out.trans (hG2.out.below.mono hBW.out.size)⟩
          rw [htk.out, hmem.out, List.mem_append, List.mem_singleton]
          refine ⟨.inl, fun h => h.elim id fun e => ?_⟩
          rw [e, ← hmem.out]
          exact hasM_iff.1 hp.out
        case measure => simp [intOf]; omega
    · obtain rfl : i = L.length := by omega
      rw [List.take_length] at hmem
      replace hR := Aside.mk hR
      replace hr := Aside.mk hr
      replace hmem := Aside.mk hmem
      replace hB := Aside.mk hB
      go_wp2_with fail
      go_ret
      exact ⟨_, _, rfl, hR.out, hr.out, hmem.out, hll, hB.out⟩
end
end Go.Proofs.YtmhpogajklihdaaDoor.C
namespace Go.Proofs.YtmhpogajklihdaaDoor.C
open Go.RowKit Go.Shelf Go.Lib Go.Sort Go.Proofs.YtmhpogajklihdaaDoorW.PrintWords

theorem away_snoc (L : List M) (l : List P) (p : P) : away L (l ++ [p]) = away L l ++ if hasM L (key p) then [] else [p] := by
  unfold away
  rw [List.filter_append, List.filter_cons]
  cases hasM L (key p) <;> simp
theorem away_len (L : List M) (l : List P) : (away L l).length ≤ l.length := List.length_filter_le _ _

section
variable {w : World} {v v2 : Value} {K L : List M}

set_option maxHeartbeats 4000000 in
set_option maxRecDepth 100000 in
theorem rwithout_walk (hK : Reads w v K) (fK : K.length ≤ 1000) (hL : Reads w v2 L) : Calls Tryd.prog 19 #[v, v2] w fun e w' => ∃ r l, e = .returned r ∧ Refs w w' r l ∧ Rising (l.map key) ∧ (∀ x, x ∈ l.map key ↔ x ∈ K ∧ x ∉ L) ∧ Below w.heap.size w w' := by
  have hS := Aside.mk (rsort_walk hK fK)
  obtain ⟨A, cap, rfl, _, _⟩ := hK
  have hL0 := hL
  obtain ⟨A2, cap2, rfl, _, _⟩ := hL
  obtain ⟨i0, hi0, hz0, hz1, hz2⟩ := info_parts info31
  replace hi0 := Aside.mk hi0
  replace hz0 := Aside.mk hz0
  replace hz1 := Aside.mk hz1
  replace hz2 := Aside.mk hz2
  replace hL0 := Aside.mk hL0
  have hmax : 1000000 ≤ maxLen := by decide
  go_enter Tryd.func19, Tryd.ntmps19
  go_wp2_with fail
  go_at_call 18
  refine hS.out.mono ?_
  rintro e w1 ⟨r1, l, rfl, hR, hr, hmem, hll, hB⟩
  have hl1 : l.length ≤ 1000 := by omega
  obtain ⟨oa, oc, e⟩ := owns_form hR.1
  subst e
  have hrow := Aside.mk hR.1
  have hids := Aside.mk hR.2
  have hs1 := hB.size
  replace hr := Aside.mk hr
  replace hmem := Aside.mk hmem
  replace hB := Aside.mk hB
  clear hR hS
  go_wp2_with fail
  go_loopw [11, 5] (fun a t wr => ∃ (i : Nat) (m : List P), a = .int .i64 (i : Int) ∧ i ≤ l.length ∧ m = away L (l.take i) ∧ wr.ownsRow w1.heap.size 31 2 t m.length (cellsP m) ∧ Below w1.heap.size w1 wr) (fun a _ _ => l.length - (intOf a).toNat)
  case atStart => exact ⟨0, [], rfl, Nat.zero_le _, rfl, World.ownsRow_nil _ _ _ _, Below.refl _ _⟩
  case round =>
    obtain ⟨i, m, rfl, hi, hm, hM, hBx⟩ := hrel
    obtain ⟨ma, mc, e⟩ := owns_form hM
    subst e
    by_cases hlt : i < l.length
    · obtain ⟨g, oc2, e, hgB, hgl⟩ := owns_form1 hrow.out (by omega)
      simp only [Value.slice.injEq, true_and] at e
      obtain ⟨rfl, rfl⟩ := e
      obtain ⟨c0, c1⟩ := cellsP_at l i hlt
      have k0 : w1.cell? ⟨g, i * 2, none⟩ = some (.string l[i].1) := (hrow.out.cellAt (i * 2) (by omega)).trans c0
      have k1 : w1.cell? ⟨g, i * 2 + 1, none⟩ = some l[i].2.2 := (hrow.out.cellAt (i * 2 + 1) (by omega)).trans c1
      have x0 := (hBx.cell (p := ⟨g, i * 2, none⟩) hgl).trans k0
      have x1 := (hBx.cell (p := ⟨g, i * 2 + 1, none⟩) hgl).trans k1
      have hid := hids.out l[i] (List.getElem_mem hlt)
      obtain ⟨V, vc, ev, _, _⟩ := id hid
      rw [ev] at x1 hid
      clear c0 c1 k0 k1
      have hml : m.length ≤ i := by rw [hm]; exact Nat.le_trans (away_len _ _) (by simp; omega)
      have hAx : Below wr.heap.size wr (wr.alloc (.cells #[.string l[i].1, .slice V l[i].2.1.length vc] 31)) := (Below.refl _ wr).alloc (Nat.le_refl _) _
      have q1 := blk_new wr #[.string l[i].1, .slice V l[i].2.1.length vc] 31
      have hMx := owns_below hM hAx
      have hBy := hBx.trans (hAx.mono hBx.size)
      have htk := Aside.mk (List.take_succ_eq_append_getElem hlt)
      replace hm := Aside.mk hm
      replace ev := Aside.mk ev
      go_upto_region 5 with fail
      generalize wr.alloc (.cells #[.string l[i].1, .slice V l[i].2.1.length vc] 31) = W1 at q1 hMx hBy ⊢
      clear x0 x1 hAx hM hBx
      generalize wr.heap.size = n1 at q1 ⊢
      have z0 := (blk_cell q1 0).trans rfl
      have z1 := (blk_cell q1 1).trans rfl
      have hBw := hB.out.trans (hBy.mono hs1)
      have hC := has_walk (hL0.out.below hBw) (key l[i]) (hid.below hBw)
      generalize hp : hasM L (key l[i]) = p at hC
      replace hp := Aside.mk hp
      replace hC := Aside.mk hC
      clear hid hBw
      cases p
      · go_wp2_with fail
        go_at_call 34
        refine hC.out.mono ?_
        rintro e w4 ⟨rfl, hG4⟩
        have z2 := (hG4.below.cell (p := ⟨n1, 0, none⟩) (blk_lt q1)).trans z0
        have z3 := (hG4.below.cell (p := ⟨n1, 1, none⟩) (blk_lt q1)).trans z1
        have hM4 := owns_below hMx hG4.below
        have hB4 := hBy.trans (hG4.below.mono hBy.size)
        have hA4 : Below w4.heap.size w4 (w4.alloc (.cells #[.string l[i].1, .slice V l[i].2.1.length vc] 31)) := (Below.refl _ w4).alloc (Nat.le_refl _) _
        have hM5 := owns_below hM4 hA4
        have hB5 := hB4.trans (hA4.mono hB4.size)
        have hs5 := hB5.size
        have hcn := Aside.mk (cells_new w4 [.string l[i].1, .slice V l[i].2.1.length vc] 31 rfl)
        replace hB5 := Aside.mk hB5
        clear z0 z1 hM4 hB4 hA4 hMx hBy hG4
        go_wp2_with (at_builtin; refine wpList_append_own _ rfl _ _ 28 rfl w1.heap.size 31 i0 (.agg #[.string ⟨#[]⟩, .slice none 0 0]) 2 40 Tryd.underlying28 hi0.out hz0.out hz1.out hz2.out rfl (by decide) _ _ _ rfl hM5 ⟨w4.heap.size, 0, none⟩ 1 1 [.string l[i].1, .slice V l[i].2.1.length vc] rfl rfl hcn.out (by simp [Value.oneCell']) (by omega) (by omega) hs5 ?_; intro v3 w3 hown3 hgr3 _; replace hown3 := Aside.mk hown3; replace hgr3 := Aside.mk hgr3)
        go_roundw
        case rel =>
          refine ⟨i + 1, m ++ [l[i]], by go_num, by omega, by rw [htk.out, away_snoc, hp.out, hm.out]; rfl, by rw [List.length_append, cellsP_append, ev.out]; exact hown3.out, hB5.out.grown hgr3.out hs5 (fun k hk => own_from hM5 hk)⟩
        case measure => simp [intOf]; omega
      · replace hMx := Aside.mk hMx
        replace hBy := Aside.mk hBy
        go_wp2_with (go_at_call 34; refine hC.out.mono ?_; rintro e w4 ⟨rfl, hG4⟩; replace hG4 := Aside.mk hG4)
        go_roundw
        case rel =>
          refine ⟨i + 1, m, by go_num, by omega, by rw [htk.out, away_snoc, hp.out, hm.out]; simp, owns_below hMx.out hG4.out.below, hBy.out.trans (hG4.out.below.mono hBy.out.size)⟩
        case measure => simp [intOf]; omega
    · obtain rfl : i = l.length := by omega
      rw [List.take_length] at hm
      subst hm
      replace hM := Aside.mk hM
      replace hBx := Aside.mk hBx
      go_wp2_with fail
      go_ret
      refine ⟨_, _, rfl, ⟨owns_base hM.out hs1, fun p hp => hids.out p (List.mem_filter.1 hp).1⟩, ?_, fun x => ?_, hB.out.trans (hBx.out.mono hs1)⟩
      · exact hr.out.sublist (List.filter_sublist.map key)
      · rw [away_mem, hmem.out]
end
end Go.Proofs.YtmhpogajklihdaaDoor.C
