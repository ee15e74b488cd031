/- 'Ref' of the laws: the document's copy of matches. -/
import Derived.Test.YtmhpogajklihdaaDoorCApp
namespace Go.XReg
section
variable {P : Program} {ops : Array Oper} {E : World → World → Prop} {w0 : World} {Q : Act → World → Prop} {o : Oper} {l : List Oper} {K : Known} {fin : (Nat → Value) → Act} {nds : (Nat → Value) → World → Prop}
/-- An operation of no values that makes memory. -/
theorem nd_0 (R : Value → World → Prop) (hup : ∀ u w w', R u w → E w w' → R u w')
    (h : ∀ ρ w, E w0 w → ∃ u w', (execOp (envOf ρ) o).run P w = .ok (.value u) w' ∧ E w w' ∧ R u w') (d : Nat) (_ha : argTmps o = []) (hd : o.dst = some d) (hg : guardKnown ops K o = true) (hw : wantB ops K o = true)
    (k : walk P ops E w0 Q l ((d, .nd R) :: K) (fun ρ => (fin ρ).put (some d) (ρ d)) (fun ρ w => nds ρ w ∧ R (ρ d) w)) : walk P ops E w0 Q (o :: l) K fin nds :=
  walk_nd R hup d hd hg hw (fun ρ w hE _ => by
    obtain ⟨u, w', e, he, hr⟩ := h ρ w hE
    rw [e]; exact ⟨he, hr⟩) k
/-- An operation of a value known by a fact, and of a known one. -/
theorem nd_n1 (R : Value → World → Prop) (hup : ∀ u w w', R u w → E w w' → R u w') {t1 t2 : Nat} {v2 : Value} {R1 : Value → World → Prop} (ha : argTmps o = [t1, t2]) (h1 : look K t1 = some (.nd R1)) (h2 : look K t2 = some (.det v2))
    (h : ∀ ρ w, E w0 w → R1 (ρ t1) w → ρ t2 = v2 → ∃ u w', (execOp (envOf ρ) o).run P w = .ok (.value u) w' ∧ E w w' ∧ R u w') (d : Nat) (hd : o.dst = some d) (hg : guardKnown ops K o = true) (hw : wantB ops K o = true)
    (k : walk P ops E w0 Q l ((d, .nd R) :: K) (fun ρ => (fin ρ).put (some d) (ρ d)) (fun ρ w => nds ρ w ∧ R (ρ d) w)) : walk P ops E w0 Q (o :: l) K fin nds :=
  walk_nd R hup d hd hg hw (fun ρ w hE hk => by
    have k1 := hk t1 (by rw [ha]; simp)
    have k2 := hk t2 (by rw [ha]; simp)
    unfold knows at k1 k2
    rw [h1] at k1
    rw [h2] at k2
    obtain ⟨u, w', e, he, hr⟩ := h ρ w hE k1 k2
    rw [e]; exact ⟨he, hr⟩) k
end
end Go.XReg
namespace Go.Proofs.YtmhpogajklihdaaDoor.C
open Go.RowKit Go.Shelf Go.Lib Go.Sort Go.Proofs.YtmhpogajklihdaaDoorW.PrintWords

attribute [local go_sem] XReg.envOf

theorem info31 : (Tryd.prog.info? 31).map (fun i => (i.zero, i.size, i.bytes)) = some (some (.agg #[.string ⟨#[]⟩, .slice none 0 0]), 2, 40) := by kernel_rfl

/-- A new row of no ids. -/
def Empty (B : Nat) (u : Value) (w : World) : Prop := ∃ b, u = .slice (some ⟨b, 0, none⟩) 0 0 ∧ w.heap[b]? = some (.cells #[] 3 (0, 0)) ∧ B ≤ b
theorem Empty.up {B : Nat} : ∀ u w w', Empty B u w → XReg.Ext w w' → Empty B u w' := fun _ _ _ ⟨b, e, h, hB⟩ hb => ⟨b, e, (hb.block b (blk_lt h)).trans h, hB⟩

set_option maxHeartbeats 4000000 in
set_option maxRecDepth 100000 in
theorem ref_walk {w : World} {v : Value} {L : List M} (h : Reads w v L) (hf : Few L) : Calls Tryd.prog 11 #[v] w fun e w' => ∃ r l, e = .returned r ∧ Owns w' w.heap.size 31 r l ∧ l.map key = L ∧ Below w.heap.size w w' := by
  obtain ⟨A, cap, rfl, hm, hc⟩ := h
  obtain ⟨i0, hi, hz0, hz1, hz2⟩ := info_parts info31
  replace hi := Aside.mk hi
  replace hz0 := Aside.mk hz0
  replace hz1 := Aside.mk hz1
  replace hz2 := Aside.mk hz2
  have hlen := hf.1
  replace hf := Aside.mk hf
  replace hc := Aside.mk hc
  have hmax : 1000000 ≤ maxLen := by decide
  go_enter Tryd.func11, Tryd.ntmps11
  go_wp2_with fail
  go_loopw [8, 3] (fun i t wr => ∃ (j : Nat) (l : List P), i = .int .i64 j ∧ j ≤ L.length ∧ l.map key = L.take j ∧ Owns wr w.heap.size 31 t l ∧ Below w.heap.size w wr) (fun i _ _ => L.length - (intOf i).toNat)
  case atStart => exact ⟨0, [], rfl, Nat.zero_le _, rfl, Owns.nil _ _ _, Below.refl _ _⟩
  case round =>
    obtain ⟨j, l, rfl, hj, hkey, hO, hB⟩ := hrel
    by_cases hjl : j < L.length
    · obtain ⟨b, o, u, rfl, hbl, c0, c1, c2⟩ := hc.out j hjl
      have hsmall := hf.out.2 L[j] (List.getElem_mem hjl)
      have f0 := (hB.cell (p := ⟨b, o + j * 2, none⟩) hbl).trans c0
      have f1 := (hB.cell (p := ⟨b, o + j * 2 + 1, none⟩) hbl).trans c1
      obtain ⟨ua, uc, rfl, _, _⟩ := id c2
      have hll : l.length = j := by
        have := congrArg List.length hkey
        simp at this; omega
      have hAB : Below wr.heap.size wr (wr.alloc (.cells #[.string L[j].1, .slice ua L[j].2.length uc] 24)) := (Below.refl _ wr).alloc (Nat.le_refl _) _
      have hBW := hB.trans (hAB.mono hB.size)
      have hOW := hO.below hAB
      have hidW := (c2.below hB).below hAB
      have hpW := blk_new wr #[.string L[j].1, .slice ua L[j].2.length uc] 24
      obtain ⟨oa, oc, rfl⟩ := owns_form hO.1
      clear c0 c1 hAB hO hB
      replace hkey := Aside.mk hkey
      go_upto_region 5 with fail
      generalize wr.alloc (.cells #[.string L[j].1, .slice ua L[j].2.length uc] 24) = W at hBW hOW hidW hpW ⊢
      clear f0 f1
      generalize wr.heap.size = n at hpW ⊢
      have s0 : ∀ W', XReg.Ext W.drew W' → W'.cell? ⟨n, 0, none⟩ = some (.string L[j].1) := fun W' h => (h.of_drew.cell (p := ⟨n, 0, none⟩) (blk_lt hpW)).trans ((blk_cell hpW 0).trans rfl)
      have s1 : ∀ W', XReg.Ext W.drew W' → W'.cell? ⟨n, 1, none⟩ = some (.slice ua L[j].2.length uc) := fun W' h => (h.of_drew.cell (p := ⟨n, 1, none⟩) (blk_lt hpW)).trans ((blk_cell hpW 1).trans rfl)
      replace hidW := Aside.mk hidW
      replace hOW := Aside.mk hOW
      replace hBW := Aside.mk hBW
      refine XReg.wp_region_tail 9 XReg.Ext XReg.Ext.refl XReg.Ext.trans (by kernel_rfl) (by kernel_rfl) (by kernel_rfl) [(3, .det (.slice oa l.length oc)), (5, .det (.pointer (some ⟨n, 0, none⟩)))] (XReg.base_cons rfl (XReg.base_cons rfl XReg.base_nil)) ?_
      simp only [List.take_succ_cons, List.take_zero, List.drop_succ_cons, List.drop_zero]
      repeat (first
        | (refine XReg.walk_move XReg.Ext.refl rfl rfl _ rfl (by kernel_rfl) (by kernel_rfl) ?_)
        | (refine XReg.nd_0 (Empty w.heap.size) Empty.up (fun ρ W' hE => ⟨_, _, by (go_simp; try rfl), (Below.refl _ W').alloc (Nat.le_refl _) _, W'.heap.size, rfl, blk_new W' _ _, by have := hBW.out.size; have := hE.of_drew.size; omega⟩) _ rfl rfl (by kernel_rfl) (by kernel_rfl) ?_)
        | (refine XReg.nd_n1 (fun u w' => IdOwn w' w.heap.size u L[j].2) IdOwn.up rfl rfl rfl (fun ρ W' hE ⟨b', e1, h2, h3⟩ e2 => by obtain ⟨v', W2, g1, g2, g3⟩ := app_ids h2 h3 (hidW.out.below hE.of_drew) hsmall; exact ⟨v', W2, by (simp [execOp, resolve, invoke, builtin, XReg.envOf, e1, e2, g1]), g2, g3⟩) _ rfl (by kernel_rfl) (by kernel_rfl) ?_)
        | (refine XReg.run_1 XReg.Ext.refl rfl rfl _ rfl (by kernel_rfl) (by kernel_rfl) ?_; apply Exists.intro; refine ⟨fun ρ W hE h1 => ?_, ?_⟩; (go_simp; try rfl))
        | (refine XReg.nd_2n (Built w.heap.size L[j].1 L[j].2) Built.up rfl rfl rfl (fun ρ W hE h1 h2 => by obtain ⟨a, c, e⟩ := owns_form h2; rw [e] at h2; exact ⟨_, _, by (go_simp; try rfl), XReg.Ext.refl _, _, rfl, h2⟩) _ rfl (by kernel_rfl) (by kernel_rfl) ?_)
        | (refine XReg.nd_1n (Laid 31 w.heap.size L[j].1 L[j].2) Laid.up rfl rfl (fun ρ W hE ⟨v', e1, h2⟩ => by obtain ⟨a, c, e⟩ := owns_form h2; subst e; exact ⟨_, _, by (go_simp; try rfl), (Below.refl _ W).alloc (Nat.le_refl _) _, W.heap.size, _, rfl, blk_new _ _ _, h2.below ((Below.refl _ W).alloc (Nat.le_refl _) _), by simp⟩) _ rfl (by kernel_rfl) (by kernel_rfl) ?_))
      intro ρ W' hE hn
      obtain ⟨⟨⟨⟨_, hid0⟩, hid1⟩, hid2⟩, b2, v2, e20, hb2, hid3, hl2⟩ := hn
      have hBe := hE.of_drew
      have hB' := Aside.mk (hBW.out.trans (hBe.mono hBW.out.size))
      have hO' := Aside.mk (hOW.out.below hBe)
      simp only [e20]
      clear hE hid0 hid1 hid2 s0 s1 hBe hOW hBW hidW c2
      generalize ρ 15 = x15
      generalize ρ 18 = x18
      generalize ρ 19 = x19
      simp only [Act.put, List.setIfInBounds_toArray, List.set_cons_zero, List.set_cons_succ]
      obtain ⟨a2, c2, rfl⟩ := owns_form hid3
      have hsz := hB'.out.size
      have hown := hO'.out.1
      have hb2' := Aside.mk hb2
      replace hid3 := Aside.mk hid3
      clear hb2
      have htk := Aside.mk (List.take_succ_eq_append_getElem hjl)
      go_wp2_with (at_builtin; refine wpList_append_own _ rfl _ _ 28 rfl w.heap.size 31 i0 (.agg #[.string ⟨#[]⟩, .slice none 0 0]) 2 40 Tryd.underlying28 hi.out hz0.out hz1.out hz2.out rfl (by decide) _ _ _ rfl hown ⟨b2, 0, none⟩ 1 1 [.string L[j].1, .slice a2 L[j].2.length c2] rfl rfl (cells_at hb2'.out) (by simp [Value.oneCell']) (by omega) (by omega) hsz ?_; intro v3 w3 hown3 hgr3 _; replace hown3 := Aside.mk hown3; replace hgr3 := Aside.mk hgr3)
      go_roundw
      case rel =>
        refine ⟨j + 1, l ++ [(L[j].1, L[j].2, .slice a2 L[j].2.length c2)], by go_num, by omega, ?_, ⟨?_, ?_⟩, ?_⟩
        · rw [List.map_append, hkey.out, htk.out]; rfl
        · rw [cellsP_append, List.length_append]; exact hown3.out
        · intro p hp
          rcases List.mem_append.1 hp with q | q
          · exact (hO'.out.2 p q).far hown (by decide) hgr3.out
          · rw [List.mem_singleton.1 q]; exact hid3.out.far hown (by decide) hgr3.out
        · exact hB'.out.grown hgr3.out hsz (fun k hk => own_from hown hk)
      case measure => simp [intOf]; omega
    · obtain rfl : j = L.length := by omega
      rw [List.take_length] at hkey
      obtain ⟨oa, oc, rfl⟩ := owns_form hO.1
      replace hO := Aside.mk hO
      replace hB := Aside.mk hB
      replace hkey := Aside.mk hkey
      go_wp2
      go_ret
      exact ⟨_, _, rfl, hO.out, hkey.out, hB.out⟩
end Go.Proofs.YtmhpogajklihdaaDoor.C
