/- 'Copy' of layer 20. -/
import Derived.Test.YtmhpogajklihdaaDoorCRow
namespace Go.Proofs.YtmhpogajklihdaaDoor.C
open Go.RowKit Go.Shelf Go.Lib Go.Sort Go.Proofs.YtmhpogajklihdaaDoorW.PrintWords

attribute [local go_sem] XReg.envOf

theorem info24 : (Tryd.prog.info? 24).map (fun i => (i.zero, i.size, i.bytes)) = some (some (.agg #[.string ⟨#[]⟩, .slice none 0 0]), 2, 40) := by kernel_rfl
theorem info3 : (Tryd.prog.info? 3).map (fun i => (i.zero, i.size, i.bytes)) = some (some (.int .i64 0), 1, 8) := by kernel_rfl

/-- slices.Clone of ids. -/
theorem clone_ids {w : World} {u : Value} {ids : List Int} (h : IdsAt w u ids) (hl : ids.length ≤ 1000000) : Calls Tryd.prog 29 #[u] w fun e w' => ∃ v, e = .returned v ∧ IdOwn w' w.heap.size v ids ∧ Below w.heap.size w w' := by
  obtain ⟨A, cap, rfl, hm, hc⟩ := h
  obtain ⟨i0, hi, hz0, hz1, hz2⟩ := info_parts info3
  cases A with
  | none =>
    have h0 : ids = [] := by
      cases ids with
      | nil => rfl
      | cons x t => obtain ⟨b, o, e, _⟩ := hc 0 (by simp); cases e
    subst h0
    refine (Tryd.slices_Clone_nil _ _ w).mono ?_
    rintro e w' ⟨rfl, rfl⟩
    exact ⟨_, rfl, World.ownsRow_nil _ _ _ _, Below.refl _ _⟩
  | some a =>
    have hmax : 1000000 ≤ maxLen := by decide
    by_cases h0 : 0 < ids.length
    · obtain ⟨b', o', e, hlt, _⟩ := hc 0 h0
      cases e
      refine (Tryd.slices_Clone i0 (.int .i64 0) 1 8 hi hz0 hz1 hz2 rfl (by decide) (fun w => by kernel_rfl) b' o' ids.length cap (ids.map (Value.int .i64)) w (by simp) (by omega) (by omega) (fun j u hj => ?_) (fun u hu => ?_)).mono ?_
      · have hj' : j < ids.length := by have := (List.getElem?_eq_some_iff.1 hj).1; simpa using this
        obtain ⟨b2, o2, e, _, hcell⟩ := hc j hj'
        cases e
        rw [hcell]
        rw [List.getElem?_map, List.getElem?_eq_getElem hj'] at hj
        exact hj
      · obtain ⟨x, _, rfl⟩ := List.mem_map.1 hu
        rfl
      · rintro e w' ⟨v, rfl, h1, _, h2⟩
        exact ⟨v, rfl, h1, h2⟩
    · have hn : ids = [] := List.eq_nil_of_length_eq_zero (by omega)
      subst hn
      refine (Tryd.slices_Clone_int_zero a cap w).mono ?_
      rintro e w' ⟨v, rfl, h1, _, h2⟩
      exact ⟨v, rfl, h1, h2⟩

/-- What 'build' makes of a text and a clone. -/
def Built (B : Nat) (r : ByteArray) (ids : List Int) (u : Value) (w : World) : Prop := ∃ v, u = .agg #[.string r, v] ∧ IdOwn w B v ids
theorem Built.up {B : Nat} {r : ByteArray} {ids : List Int} : ∀ u w w', Built B r ids u w → XReg.Ext w w' → Built B r ids u w' := fun _ _ _ ⟨v, e, h⟩ hb => ⟨v, e, h.below hb⟩
/-- What is put down of it. -/
def Laid (T : TypeId) (B : Nat) (r : ByteArray) (ids : List Int) (u : Value) (w : World) : Prop := ∃ b v, u = .slice (some ⟨b, 0, none⟩) 1 1 ∧ w.heap[b]? = some (.cells #[.string r, v] T (0, 0)) ∧ IdOwn w B v ids ∧ b < w.heap.size
theorem Laid.up {T : TypeId} {B : Nat} {r : ByteArray} {ids : List Int} : ∀ u w w', Laid T B r ids u w → XReg.Ext w w' → Laid T B r ids u w' := fun _ _ _ ⟨b, v, e, h, hi, hl⟩ hb => ⟨b, v, e, (hb.block b hl).trans h, hi.below hb, Nat.lt_of_lt_of_le hl hb.size⟩
theorem IdOwn.up {B : Nat} {ids : List Int} : ∀ u w w', IdOwn w B u ids → XReg.Ext w w' → IdOwn w' B u ids := fun _ _ _ h hb => h.below hb

theorem cells_at {w : World} {b : Nat} {cs : List Value} {t : TypeId} (h : w.heap[b]? = some (.cells cs.toArray t (0, 0))) : ∀ j u, cs[j]? = some u → w.cell? ((⟨b, 0, none⟩ : Addr).add j) = some u := by
  intro j u hj
  have e : (⟨b, 0, none⟩ : Addr).add j = ⟨b, j, none⟩ := by
    unfold Addr.add
    split
    · rename_i e; subst e; rfl
    · simp
  rw [e, blk_cell h j]
  simpa using hj

/-- The lists that the statements let in. -/
def Few (L : List M) : Prop := L.length ≤ 1000 ∧ ∀ m ∈ L, m.2.length ≤ 1000000

set_option maxHeartbeats 4000000 in
set_option maxRecDepth 100000 in
theorem copy_walk {w : World} {v : Value} {L : List M} (h : Reads w v L) (hf : Few L) : Calls Tryd.prog 14 #[v] w fun e w' => ∃ r l, e = .returned r ∧ Owns w' w.heap.size 24 r l ∧ l.map key = L ∧ Below w.heap.size w w' := by
  obtain ⟨A, cap, rfl, hm, hc⟩ := h
  obtain ⟨i0, hi, hz0, hz1, hz2⟩ := info_parts info24
  replace hi := Aside.mk hi
  replace hz0 := Aside.mk hz0
  replace hz1 := Aside.mk hz1
  replace hz2 := Aside.mk hz2
  have hlen := hf.1
  replace hf := Aside.mk hf
  replace hc := Aside.mk hc
  have hmax : 1000000 ≤ maxLen := by decide
  go_enter Tryd.func14, Tryd.ntmps14
  go_wp2_with fail
  go_loopw [8, 3] (fun i t wr => ∃ (j : Nat) (l : List P), i = .int .i64 j ∧ j ≤ L.length ∧ l.map key = L.take j ∧ Owns wr w.heap.size 24 t l ∧ Below w.heap.size w wr) (fun i _ _ => L.length - (intOf i).toNat)
  case atStart => exact ⟨0, [], rfl, Nat.zero_le _, rfl, Owns.nil _ _ _, Below.refl _ _⟩
  case round =>
    obtain ⟨j, l, rfl, hj, hkey, hO, hB⟩ := hrel
    by_cases hjl : j < L.length
    · obtain ⟨b, o, u, rfl, hbl, c0, c1, c2⟩ := hc.out j hjl
      have hsmall := hf.out.2 L[j] (List.getElem_mem hjl)
      have f0 := (hB.cell (p := ⟨b, o + j * 2, none⟩) hbl).trans c0
      have f1 := (hB.cell (p := ⟨b, o + j * 2 + 1, none⟩) hbl).trans c1
      have hid := c2.below hB
      obtain ⟨ua, uc, rfl, _, _⟩ := id c2
      have hll : l.length = j := by
        have := congrArg List.length hkey
        simp at this; omega
      have hAB : Below wr.heap.size wr (wr.alloc (.cells #[.string L[j].1, .slice ua L[j].2.length uc] 24)) := (Below.refl _ wr).alloc (Nat.le_refl _) _
      have hBW := hB.trans (hAB.mono hB.size)
      have hOW := hO.below hAB
      have hidW := (c2.below hB).below hAB
      have hpW := blk_new wr #[.string L[j].1, .slice ua L[j].2.length uc] 24
      obtain ⟨oa, oc, rfl⟩ := owns_form hO.1
      clear c0 c1 c2 hid hAB hO hB
      replace hkey := Aside.mk hkey
      go_upto_region 5 with fail
      generalize wr.alloc (.cells #[.string L[j].1, .slice ua L[j].2.length uc] 24) = W at hBW hOW hidW hpW ⊢
      clear f0 f1
      generalize wr.heap.size = n at hpW ⊢
      have s0 : ∀ W', XReg.Ext W.drew W' → W'.cell? ⟨n, 0, none⟩ = some (.string L[j].1) := fun W' h => (h.of_drew.cell (p := ⟨n, 0, none⟩) (blk_lt hpW)).trans ((blk_cell hpW 0).trans rfl)
      have s1 : ∀ W', XReg.Ext W.drew W' → W'.cell? ⟨n, 1, none⟩ = some (.slice ua L[j].2.length uc) := fun W' h => (h.of_drew.cell (p := ⟨n, 1, none⟩) (blk_lt hpW)).trans ((blk_cell hpW 1).trans rfl)
      have k29 : Aside (∀ W', XReg.Ext W.drew W' → Calls Tryd.prog 29 #[.slice ua L[j].2.length uc] W' fun e W2 => ∃ u, e = .returned u ∧ XReg.Ext W' W2 ∧ IdOwn W2 w.heap.size u L[j].2) := ⟨fun W' h => (clone_ids (hidW.below h.of_drew) hsmall).mono fun e W2 ⟨v, h1, h2, h3⟩ => ⟨v, h1, h3, owns_base h2 (Nat.le_trans hBW.size h.of_drew.size)⟩⟩
      replace hidW := Aside.mk hidW
      replace hOW := Aside.mk hOW
      replace hBW := Aside.mk hBW
      refine XReg.wp_region_tail 8 XReg.Ext XReg.Ext.refl XReg.Ext.trans (by kernel_rfl) (by kernel_rfl) (by kernel_rfl) [(3, .det (.slice oa l.length oc)), (5, .det (.pointer (some ⟨n, 0, none⟩)))] (XReg.base_cons rfl (XReg.base_cons rfl XReg.base_nil)) ?_
      simp only [List.take_succ_cons, List.take_zero, List.drop_succ_cons, List.drop_zero]
      repeat (first
        | (refine XReg.walk_move XReg.Ext.refl rfl rfl _ rfl (by kernel_rfl) (by kernel_rfl) ?_)
        | (refine XReg.walk_calln IdOwn.up k29.out rfl (by kernel_rfl) (by kernel_rfl) _ rfl (by kernel_rfl) (by kernel_rfl) ?_)
        | (refine XReg.run_1 XReg.Ext.refl rfl rfl _ rfl (by kernel_rfl) (by kernel_rfl) ?_; apply Exists.intro; refine ⟨fun ρ W hE h1 => ?_, ?_⟩; (go_simp; try rfl))
        | (refine XReg.nd_2n (Built w.heap.size L[j].1 L[j].2) Built.up rfl rfl rfl (fun ρ W hE h1 h2 => by obtain ⟨a, c, e⟩ := owns_form h2; rw [e] at h2; exact ⟨_, _, by (go_simp; try rfl), XReg.Ext.refl _, _, rfl, h2⟩) _ rfl (by kernel_rfl) (by kernel_rfl) ?_)
        | (refine XReg.nd_1n (Laid 24 w.heap.size L[j].1 L[j].2) Laid.up rfl rfl (fun ρ W hE ⟨v', e1, h2⟩ => by obtain ⟨a, c, e⟩ := owns_form h2; subst e; exact ⟨_, _, by (go_simp; try rfl), (Below.refl _ W).alloc (Nat.le_refl _) _, W.heap.size, _, rfl, blk_new _ _ _, h2.below ((Below.refl _ W).alloc (Nat.le_refl _) _), by simp⟩) _ rfl (by kernel_rfl) (by kernel_rfl) ?_))
      intro ρ W' hE hn
      obtain ⟨⟨⟨_, hid1⟩, hid2⟩, b2, v2, e19, hb2, hid3, hl2⟩ := hn
      have hBe := hE.of_drew
      have hB' := Aside.mk (hBW.out.trans (hBe.mono hBW.out.size))
      have hO' := Aside.mk (hOW.out.below hBe)
      simp only [e19]
      clear hE hid1 hid2 s0 s1 k29 hBe hOW hBW hidW
      generalize ρ 17 = x17
      generalize ρ 18 = x18
      simp only [Act.put, List.setIfInBounds_toArray, List.set_cons_zero, List.set_cons_succ]
      obtain ⟨a2, c2, rfl⟩ := owns_form hid3
      have hsz := hB'.out.size
      have hown := hO'.out.1
      have hb2' := Aside.mk hb2
      replace hid3 := Aside.mk hid3
      clear hb2
      have htk := Aside.mk (List.take_succ_eq_append_getElem hjl)
      go_wp2_with (at_builtin; refine wpList_append_own _ rfl _ _ 26 rfl w.heap.size 24 i0 (.agg #[.string ⟨#[]⟩, .slice none 0 0]) 2 40 Tryd.underlying26 hi.out hz0.out hz1.out hz2.out rfl (by decide) _ _ _ rfl hown ⟨b2, 0, none⟩ 1 1 [.string L[j].1, .slice a2 L[j].2.length c2] rfl rfl (cells_at hb2'.out) (by simp [Value.oneCell']) (by omega) (by omega) hsz ?_; intro v3 w3 hown3 hgr3 _; replace hown3 := Aside.mk hown3; replace hgr3 := Aside.mk hgr3)
      go_roundw
      case rel =>
        refine ⟨j + 1, l ++ [(L[j].1, L[j].2, .slice a2 L[j].2.length c2)], by go_num, by omega, ?_, ⟨?_, ?_⟩, ?_⟩
        · rw [List.map_append, hkey.out, htk.out]; rfl
        · rw [cellsP_append, List.length_append]; exact hown3.out
        · intro p hp
          rcases List.mem_append.1 hp with q | q
          · exact (hO'.out.2 p q).far hown (by decide) hgr3.out
          · rw [List.mem_singleton.1 q]; exact hid3.out.far hown (by decide) hgr3.out
        · exact hB'.out.grown hgr3.out hsz (fun k hk => own_from hown hk)
      case measure => simp [intOf]; omega
    · obtain rfl : j = L.length := by omega
      rw [List.take_length] at hkey
      obtain ⟨oa, oc, rfl⟩ := owns_form hO.1
      replace hO := Aside.mk hO
      replace hB := Aside.mk hB
      replace hkey := Aside.mk hkey
      go_wp2
      go_ret
      exact ⟨_, _, rfl, hO.out, hkey.out, hB.out⟩
end Go.Proofs.YtmhpogajklihdaaDoor.C
