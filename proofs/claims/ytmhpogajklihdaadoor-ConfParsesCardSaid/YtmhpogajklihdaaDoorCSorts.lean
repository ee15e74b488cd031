/- 'Copy' of layer 20. The library's sort at the rows of layer 20. A row of matches that is written in place. Without those that say again what stands at their left: plain. The library's 'CompactFunc' at the rows of layer 20. 'Sort' of layer 20. -/
import Derived.Test.YtmhpogajklihdaaDoorCRow
import Derived.Shelf.SlSortCmp.NoneTotal
namespace Go.Proofs.YtmhpogajklihdaaDoor.C
open Go.RowKit Go.Shelf Go.Lib Go.Sort Go.Proofs.YtmhpogajklihdaaDoorW.PrintWords

attribute [local go_sem] XReg.envOf

theorem info24 : (Tryd.prog.info? 24).map (fun i => (i.zero, i.size, i.bytes)) = some (some (.agg #[.string ⟨#[]⟩, .slice none 0 0]), 2, 40) := by kernel_rfl
theorem info3 : (Tryd.prog.info? 3).map (fun i => (i.zero, i.size, i.bytes)) = some (some (.int .i64 0), 1, 8) := by kernel_rfl

/-- slices.Clone of ids. -/
theorem clone_ids {w : World} {u : Value} {ids : List Int} (h : IdsAt w u ids) (hl : ids.length ≤ 1000000) : Calls Tryd.prog 29 #[u] w fun e w' => ∃ v, e = .returned v ∧ IdOwn w' w.heap.size v ids ∧ Below w.heap.size w w' := by
  obtain ⟨A, cap, rfl, hm, hc⟩ := h
  obtain ⟨i0, hi, hz0, hz1, hz2⟩ := info_parts info3
  cases A with
  | none =>
    have h0 : ids = [] := by
      cases ids with
      | nil => rfl
      | cons x t => obtain ⟨b, o, e, _⟩ := hc 0 (by simp); cases e
    subst h0
    refine (Tryd.slices_Clone_nil _ _ w).mono ?_
    rintro e w' ⟨rfl, rfl⟩
    exact ⟨_, rfl, World.ownsRow_nil _ _ _ _, Below.refl _ _⟩
  | some a =>
    have hmax : 1000000 ≤ maxLen := by decide
    by_cases h0 : 0 < ids.length
    · obtain ⟨b', o', e, hlt, _⟩ := hc 0 h0
      cases e
      refine (Tryd.slices_Clone i0 (.int .i64 0) 1 8 hi hz0 hz1 hz2 rfl (by decide) (fun w => by kernel_rfl) b' o' ids.length cap (ids.map (Value.int .i64)) w (by simp) (by omega) (by omega) (fun j u hj => ?_) (fun u hu => ?_)).mono ?_
      · have hj' : j < ids.length := by have := (List.getElem?_eq_some_iff.1 hj).1; simpa using this
        obtain ⟨b2, o2, e, _, hcell⟩ := hc j hj'
        cases e
        rw [hcell]
        rw [List.getElem?_map, List.getElem?_eq_getElem hj'] at hj
        exact hj
      · obtain ⟨x, _, rfl⟩ := List.mem_map.1 hu
        rfl
      · rintro e w' ⟨v, rfl, h1, _, h2⟩
        exact ⟨v, rfl, h1, h2⟩
    · have hn : ids = [] := List.eq_nil_of_length_eq_zero (by omega)
      subst hn
      refine (Tryd.slices_Clone_int_zero a cap w).mono ?_
      rintro e w' ⟨v, rfl, h1, _, h2⟩
      exact ⟨v, rfl, h1, h2⟩

/-- What 'build' makes of a text and a clone. -/
def Built (B : Nat) (r : ByteArray) (ids : List Int) (u : Value) (w : World) : Prop := ∃ v, u = .agg #[.string r, v] ∧ IdOwn w B v ids
theorem Built.up {B : Nat} {r : ByteArray} {ids : List Int} : ∀ u w w', Built B r ids u w → XReg.Ext w w' → Built B r ids u w' := fun _ _ _ ⟨v, e, h⟩ hb => ⟨v, e, h.below hb⟩
/-- What is put down of it. -/
def Laid (T : TypeId) (B : Nat) (r : ByteArray) (ids : List Int) (u : Value) (w : World) : Prop := ∃ b v, u = .slice (some ⟨b, 0, none⟩) 1 1 ∧ w.heap[b]? = some (.cells #[.string r, v] T (0, 0)) ∧ IdOwn w B v ids ∧ b < w.heap.size
theorem Laid.up {T : TypeId} {B : Nat} {r : ByteArray} {ids : List Int} : ∀ u w w', Laid T B r ids u w → XReg.Ext w w' → Laid T B r ids u w' := fun _ _ _ ⟨b, v, e, h, hi, hl⟩ hb => ⟨b, v, e, (hb.block b hl).trans h, hi.below hb, Nat.lt_of_lt_of_le hl hb.size⟩
theorem IdOwn.up {B : Nat} {ids : List Int} : ∀ u w w', IdOwn w B u ids → XReg.Ext w w' → IdOwn w' B u ids := fun _ _ _ h hb => h.below hb

theorem cells_at {w : World} {b : Nat} {cs : List Value} {t : TypeId} (h : w.heap[b]? = some (.cells cs.toArray t (0, 0))) : ∀ j u, cs[j]? = some u → w.cell? ((⟨b, 0, none⟩ : Addr).add j) = some u := by
  intro j u hj
  have e : (⟨b, 0, none⟩ : Addr).add j = ⟨b, j, none⟩ := by
    unfold Addr.add
    split
    · rename_i e; subst e; rfl
    · simp
  rw [e, blk_cell h j]
  simpa using hj

/-- The lists that the statements let in. -/
def Few (L : List M) : Prop := L.length ≤ 1000 ∧ ∀ m ∈ L, m.2.length ≤ 1000000

set_option maxHeartbeats 4000000 in
set_option maxRecDepth 100000 in
theorem copy_walk {w : World} {v : Value} {L : List M} (h : Reads w v L) (hf : Few L) : Calls Tryd.prog 14 #[v] w fun e w' => ∃ r l, e = .returned r ∧ Owns w' w.heap.size 24 r l ∧ l.map key = L ∧ Below w.heap.size w w' := by
  obtain ⟨A, cap, rfl, hm, hc⟩ := h
  obtain ⟨i0, hi, hz0, hz1, hz2⟩ := info_parts info24
  replace hi := Aside.mk hi
  replace hz0 := Aside.mk hz0
  replace hz1 := Aside.mk hz1
  replace hz2 := Aside.mk hz2
  have hlen := hf.1
  replace hf := Aside.mk hf
  replace hc := Aside.mk hc
  have hmax : 1000000 ≤ maxLen := by decide
  go_enter Tryd.func14, Tryd.ntmps14
  go_wp2_with fail
  go_loopw [8, 3] (fun i t wr => ∃ (j : Nat) (l : List P), i = .int .i64 j ∧ j ≤ L.length ∧ l.map key = L.take j ∧ Owns wr w.heap.size 24 t l ∧ Below w.heap.size w wr) (fun i _ _ => L.length - (intOf i).toNat)
  case atStart => exact ⟨0, [], rfl, Nat.zero_le _, rfl, Owns.nil _ _ _, Below.refl _ _⟩
  case round =>
    obtain ⟨j, l, rfl, hj, hkey, hO, hB⟩ := hrel
    by_cases hjl : j < L.length
    · obtain ⟨b, o, u, rfl, hbl, c0, c1, c2⟩ := hc.out j hjl
      have hsmall := hf.out.2 L[j] (List.getElem_mem hjl)
      have f0 := (hB.cell (p := ⟨b, o + j * 2, none⟩) hbl).trans c0
      have f1 := (hB.cell (p := ⟨b, o + j * 2 + 1, none⟩) hbl).trans c1
      have hid := c2.below hB
      obtain ⟨ua, uc, rfl, _, _⟩ := id c2
      have hll : l.length = j := by
        have := congrArg List.length hkey
        simp at this; omega
      have hAB : Below wr.heap.size wr (wr.alloc (.cells #[.string L[j].1, .slice ua L[j].2.length uc] 24)) := (Below.refl _ wr).alloc (Nat.le_refl _) _
      have hBW := hB.trans (hAB.mono hB.size)
      have hOW := hO.below hAB
      have hidW := (c2.below hB).below hAB
      have hpW := blk_new wr #[.string L[j].1, .slice ua L[j].2.length uc] 24
      obtain ⟨oa, oc, rfl⟩ := owns_form hO.1
      clear c0 c1 c2 hid hAB hO hB
      replace hkey := Aside.mk hkey
      go_upto_region 5 with fail
      generalize wr.alloc (.cells #[.string L[j].1, .slice ua L[j].2.length uc] 24) = W at hBW hOW hidW hpW ⊢
      clear f0 f1
      generalize wr.heap.size = n at hpW ⊢
      have s0 : ∀ W', XReg.Ext W.drew W' → W'.cell? ⟨n, 0, none⟩ = some (.string L[j].1) := fun W' h => (h.of_drew.cell (p := ⟨n, 0, none⟩) (blk_lt hpW)).trans ((blk_cell hpW 0).trans rfl)
      have s1 : ∀ W', XReg.Ext W.drew W' → W'.cell? ⟨n, 1, none⟩ = some (.slice ua L[j].2.length uc) := fun W' h => (h.of_drew.cell (p := ⟨n, 1, none⟩) (blk_lt hpW)).trans ((blk_cell hpW 1).trans rfl)
      have k29 : Aside (∀ W', XReg.Ext W.drew W' → Calls Tryd.prog 29 #[.slice ua L[j].2.length uc] W' fun e W2 => ∃ u, e = .returned u ∧ XReg.Ext W' W2 ∧ IdOwn W2 w.heap.size u L[j].2) := ⟨fun W' h => (clone_ids (hidW.below h.of_drew) hsmall).mono fun e W2 ⟨v, h1, h2, h3⟩ => ⟨v, h1, h3, owns_base h2 (Nat.le_trans hBW.size h.of_drew.size)⟩⟩
      replace hidW := Aside.mk hidW
      replace hOW := Aside.mk hOW
      replace hBW := Aside.mk hBW
      refine XReg.wp_region_tail 8 XReg.Ext XReg.Ext.refl XReg.Ext.trans (by kernel_rfl) (by kernel_rfl) (by kernel_rfl) [(3, .det (.slice oa l.length oc)), (5, .det (.pointer (some ⟨n, 0, none⟩)))] (XReg.base_cons rfl (XReg.base_cons rfl XReg.base_nil)) ?_
      simp only [List.take_succ_cons, List.take_zero, List.drop_succ_cons, List.drop_zero]
      repeat (first
        | (refine XReg.walk_move XReg.Ext.refl rfl rfl _ rfl (by kernel_rfl) (by kernel_rfl) ?_)
        | (refine XReg.walk_calln IdOwn.up k29.out rfl (by kernel_rfl) (by kernel_rfl) _ rfl (by kernel_rfl) (by kernel_rfl) ?_)
        | (refine XReg.run_1 XReg.Ext.refl rfl rfl _ rfl (by kernel_rfl) (by kernel_rfl) ?_; apply Exists.intro; refine ⟨fun ρ W hE h1 => ?_, ?_⟩; (go_simp; try rfl))
        | (refine XReg.nd_2n (Built w.heap.size L[j].1 L[j].2) Built.up rfl rfl rfl (fun ρ W hE h1 h2 => by obtain ⟨a, c, e⟩ := owns_form h2; rw [e] at h2; exact ⟨_, _, by (go_simp; try rfl), XReg.Ext.refl _, _, rfl, h2⟩) _ rfl (by kernel_rfl) (by kernel_rfl) ?_)
        | (refine XReg.nd_1n (Laid 24 w.heap.size L[j].1 L[j].2) Laid.up rfl rfl (fun ρ W hE ⟨v', e1, h2⟩ => by obtain ⟨a, c, e⟩ := owns_form h2; subst e; exact ⟨_, _, by (go_simp; try rfl), (Below.refl _ W).alloc (Nat.le_refl _) _, W.heap.size, _, rfl, blk_new _ _ _, h2.below ((Below.refl _ W).alloc (Nat.le_refl _) _), by simp⟩) _ rfl (by kernel_rfl) (by kernel_rfl) ?_))
      intro ρ W' hE hn
      obtain ⟨⟨⟨_, hid1⟩, hid2⟩, b2, v2, e19, hb2, hid3, hl2⟩ := hn
      have hBe := hE.of_drew
      have hB' := Aside.mk (hBW.out.trans (hBe.mono hBW.out.size))
      have hO' := Aside.mk (hOW.out.below hBe)
      simp only [e19]
      clear hE hid1 hid2 s0 s1 k29 hBe hOW hBW hidW
      generalize ρ 17 = x17
      generalize ρ 18 = x18
      simp only [Act.put, List.setIfInBounds_toArray, List.set_cons_zero, List.set_cons_succ]
      obtain ⟨a2, c2, rfl⟩ := owns_form hid3
      have hsz := hB'.out.size
      have hown := hO'.out.1
      have hb2' := Aside.mk hb2
      replace hid3 := Aside.mk hid3
      clear hb2
      have htk := Aside.mk (List.take_succ_eq_append_getElem hjl)
      go_wp2_with (at_builtin; refine wpList_append_own _ rfl _ _ 26 rfl w.heap.size 24 i0 (.agg #[.string ⟨#[]⟩, .slice none 0 0]) 2 40 Tryd.underlying26 hi.out hz0.out hz1.out hz2.out rfl (by decide) _ _ _ rfl hown ⟨b2, 0, none⟩ 1 1 [.string L[j].1, .slice a2 L[j].2.length c2] rfl rfl (cells_at hb2'.out) (by simp [Value.oneCell']) (by omega) (by omega) hsz ?_; intro v3 w3 hown3 hgr3 _; replace hown3 := Aside.mk hown3; replace hgr3 := Aside.mk hgr3)
      go_roundw
      case rel =>
        refine ⟨j + 1, l ++ [(L[j].1, L[j].2, .slice a2 L[j].2.length c2)], by go_num, by omega, ?_, ⟨?_, ?_⟩, ?_⟩
        · rw [List.map_append, hkey.out, htk.out]; rfl
        · rw [cellsP_append, List.length_append]; exact hown3.out
        · intro p hp
          rcases List.mem_append.1 hp with q | q
          · exact (hO'.out.2 p q).far hown (by decide) hgr3.out
          · rw [List.mem_singleton.1 q]; exact hid3.out.far hown (by decide) hgr3.out
        · exact hB'.out.grown hgr3.out hsz (fun k hk => own_from hown hk)
      case measure => simp [intOf]; omega
    · obtain rfl : j = L.length := by omega
      rw [List.take_length] at hkey
      obtain ⟨oa, oc, rfl⟩ := owns_form hO.1
      replace hO := Aside.mk hO
      replace hB := Aside.mk hB
      replace hkey := Aside.mk hkey
      go_wp2
      go_ret
      exact ⟨_, _, rfl, hO.out, hkey.out, hB.out⟩
end Go.Proofs.YtmhpogajklihdaaDoor.C
namespace Go.Proofs.YtmhpogajklihdaaDoor.C
open Go.RowKit Go.Shelf Go.Lib Go.Sort Go.Proofs.YtmhpogajklihdaaDoorW.PrintWords

theorem owns_open {W : World} {B n : Nat} {e : TypeId} {size : Nat} {v : Value} {xs : List Value} (h : W.ownsRow B e size v n xs) (hn : 0 < n) :
    ∃ g cap cur, v = .slice (some ⟨g, 0, none⟩) n cap ∧ B ≤ g ∧ W.heap[g]? = some (.cells cur e (0, 0)) ∧ n ≤ cap ∧ cap ≤ maxLen ∧ cur.size = cap * size ∧ cur.toList.take (n * size) = xs := by
  rcases h.2 with ⟨_, rfl⟩ | ⟨g, cap, cur, h1, h2, h3, h4, h5, h6, h7⟩
  · omega
  · exact ⟨g, cap, cur, h1, h2, h3, h4, h5, h6, h7⟩

section
variable {w : World} {B : Nat} {v : Value} {l : List P}

/-- A match with ids that lie in a row of the call's own. -/
abbrev Q (w : World) (B : Nat) := {p : P // IdOwn w B p.2.2 p.2.1}
def encQ {w : World} {B : Nat} (p : Q w B) : List Value := [.string p.1.1, p.1.2.2]
theorem ids_one {W : World} {u : Value} {ids : List Int} (h : IdOwn W B u ids) : u.oneCell' = true := by
  obtain ⟨a, c, rfl⟩ := owns_form h
  rfl

theorem cellsP_len : ∀ l : List P, (cellsP l).length = l.length * 2
  | [] => rfl
  | p :: l => by
    have e : cellsP (p :: l) = .string p.1 :: p.2.2 :: cellsP l := rfl
    rw [e, List.length_cons, List.length_cons, cellsP_len l, List.length_cons]
    omega

theorem flat_cells [Inhabited (Q w B)] (d : Array (Q w B)) : (flatK encQ 2 d).toList = cellsP (d.toList.map (·.1)) := by
  apply List.ext_getElem?
  intro t
  by_cases ht : t < d.size * 2
  · have h1 := get_flatK encQ 2 d t ht
    have hs : t < (flatK encQ 2 d).size := by simpa using ht
    rw [getElem!_pos _ t hs] at h1
    have hd : t / 2 < d.size := by omega
    have e1 : (flatK encQ 2 d).toList[t]? = some (encQ d[t / 2]!)[t % 2]! := by
      rw [Array.getElem?_toList, Array.getElem?_eq_getElem hs, h1]
    rw [e1, getElem!_pos d (t / 2) hd]
    have hl : t / 2 < (d.toList.map (·.1)).length := by simpa using hd
    obtain ⟨c0, c1⟩ := cellsP_at (d.toList.map (·.1)) (t / 2) hl
    rcases Nat.mod_two_eq_zero_or_one t with q | q
    · have e2 : t / 2 * 2 = t := by omega
      rw [e2] at c0
      rw [c0, q]
      simp [encQ]
    · have e2 : t / 2 * 2 + 1 = t := by omega
      rw [e2] at c1
      rw [c1, q]
      simp [encQ]
  · rw [List.getElem?_eq_none (by simp; omega), List.getElem?_eq_none (by rw [cellsP_len]; simp; omega)]

theorem modify_other {w : World} {blk : Nat} {f : Array Value → Array Value} {k : Nat} (h : k ≠ blk) : (mapBlock w blk f).heap[k]? = w.heap[k]? := by
  unfold mapBlock
  rw [Array.getElem?_modify, if_neg (fun e => h e.symm)]
theorem modify_same {w : World} {blk : Nat} {f : Array Value → Array Value} {cur : Array Value} {t : TypeId} (h : w.heap[blk]? = some (.cells cur t (0, 0))) : (mapBlock w blk f).heap[blk]? = some (.cells (f cur) t (0, 0)) := by
  unfold mapBlock
  rw [Array.getElem?_modify, if_pos rfl, h]
  rfl

/-- The worlds that the sort passes through. -/
theorem swk_other [Inhabited (Q w B)] {blk m : Nat} {dk : Array (Q w B)} {os : Array Obj} {k : Nat} (hk : k < w.heap.size) (h : k ≠ blk) : (sortWorldK encQ 2 w blk 0 m dk os).heap[k]? = w.heap[k]? := by
  unfold sortWorldK putRowK putRow
  rw [heap_grow_old _ _ (by simp [mapBlock, Sort.ahead]; exact hk), modify_other h]
  rfl
theorem swk_size [Inhabited (Q w B)] {blk m : Nat} {dk : Array (Q w B)} {os : Array Obj} : w.heap.size ≤ (sortWorldK encQ 2 w blk 0 m dk os).heap.size := by
  unfold sortWorldK
  show w.heap.size ≤ ((putRowK encQ 2 (Sort.ahead w m) blk 0 dk).heap ++ os).size
  rw [Array.size_append]
  have : (putRowK encQ 2 (Sort.ahead w m) blk 0 dk).heap.size = w.heap.size := by simp [putRowK, putRow, mapBlock, Sort.ahead]
  omega
theorem put_take (cur : Array Value) (d : Array Value) (h : d.size ≤ cur.size) : (putCells id 0 d cur).toList.take d.size = d.toList := by
  apply List.ext_getElem?
  intro t
  rw [List.getElem?_take]
  by_cases ht : t < d.size
  · rw [if_pos ht, Array.getElem?_toList, Array.getElem?_toList]
    unfold putCells
    have h1 : t < cur.size := by omega
    rw [Array.getElem?_mapIdx, Array.getElem?_eq_getElem h1, Array.getElem?_eq_getElem ht]
    simp [ht]
  · rw [if_neg ht, Array.getElem?_toList, Array.getElem?_eq_none (by omega)]
theorem put_size (cur d : Array Value) : (putCells id 0 d cur).size = cur.size := by simp [putCells]

set_option maxHeartbeats 1000000 in
theorem sort_walk (h : Owns w B 24 v l) (hl : l.length ≤ 100000) : Calls Tryd.prog 30 #[v, .func (.func 13) #[] #[]] w fun e w' => e = .returned (.tuple #[]) ∧ ∃ l', l'.Perm l ∧ (l'.map key).Pairwise (fun a b => ¬ ltM b a) ∧ Owns w' B 24 v l' ∧ Below B w w' := by
  by_cases hn : 0 < l.length
  · obtain ⟨g, cap, cur, rfl, hBg, hg, hnc, hcm, hcs, htk⟩ := owns_open h.1 hn
    have hgl := blk_lt hg
    -- the row as an array of its elements
    let d : Array (Q w B) := (l.attach.map fun p => (⟨p.1, h.2 p.1 p.2⟩ : Q w B)).toArray
    have hds : d.size = l.length := by simp [d]
    have hdl : d.toList.map (·.1) = l := by
      show ((l.attach.map fun p => (⟨p.1, h.2 p.1 p.2⟩ : Q w B)).toArray.toList).map (·.1) = l
      rw [List.toList_toArray, List.map_map]
      exact List.attach_map_subtype_val l
    haveI : Inhabited (Q w B) := ⟨d[0]'(by omega)⟩
    have hk : ∀ x : Q w B, (encQ x).length = 2 := fun _ => rfl
    have h1 : ∀ x : Q w B, ∀ u ∈ encQ x, u.oneCell' = true := fun x u hu => by
      simp [encQ] at hu
      rcases hu with rfl | rfl
      · rfl
      · exact ids_one x.2
    have ne : ∀ x : Q w B, ∀ b, x.1.2.2.ownBlock = some b → b ≠ g := fun x b hb e => by
      subst e
      obtain ⟨c, hc⟩ := own_typed x.2 b hb
      rw [hg] at hc; cases hc
    have hcmp : CmpLays Tryd.prog 13 #[] encQ 2 (fun x y : Q w B => cmpM (key x.1) (key y.1)) g 0 d.size w := fun m os dk hs x y => by
      have mv : ∀ z : Q w B, IdsAt (sortWorldK encQ 2 w g 0 m dk os) z.1.2.2 z.1.2.1 := fun z =>
        IdOwn.at_ (B := B) (owns_move z.2 fun b _ hlt hb => swk_other hlt (ne z b hb))
      exact (compare_walk (key x.1) (key y.1) (mv x) (mv y)).mono fun e w2 ⟨e1, q, os', e2⟩ => ⟨e1, q, os', e2⟩
    have hH : HoldsK encQ 2 w g 0 d := fun j hj => by
      have hj' : j < d.size * 2 := by simpa using hj
      have e1 : (flatK encQ 2 d).toList[j]? = (cellsP l)[j]? := by rw [flat_cells, hdl]
      have e2 : (cellsP l)[j]? = cur[j]? := by
        rw [← htk, List.getElem?_take, if_pos (by omega), Array.getElem?_toList]
      refine ⟨?_, blk_frozen hg _⟩
      have hs : j < (flatK encQ 2 d).size := by simpa using hj'
      rw [blk_cell hg, Nat.zero_add, ← e2, ← e1, Array.getElem?_toList, Array.getElem?_eq_getElem hs, getElem!_pos _ j hs]
      rfl
    have hO : SWO (ltOf fun x y : Q w B => cmpM (key x.1) (key y.1)) := ⟨fun x => swoM.irrefl (key x.1), fun x y z => swoM.trans (key x.1) (key y.1) (key z.1), fun x y z => swoM.ntrans (key x.1) (key y.1) (key z.1)⟩
    have hcon := AnyQ.slices_SortFunc Tryd.sortM 2 (fun w => by kernel_rfl) (fun w => by kernel_rfl) encQ hk h1 (fun x y : Q w B => cmpM (key x.1) (key y.1)) hO 13 #[] g 0 cap d w (enters_of Tryd.func13 (by kernel_rfl) rfl) hcmp hH hgl (by omega)
    change Calls Tryd.prog 30 _ _ _ at hcon
    rw [hds] at hcon
    refine hcon.mono ?_
    rintro e w' ⟨rfl, d', m, os, hp, hs, rfl⟩
    obtain ⟨hp1, _, hp3⟩ := hp
    have hds' : d'.size = l.length := by rw [hp1, hds]
    have ex : d'.extract 0 l.length = d' := by rw [← hds']; simp
    have ex0 : d.extract 0 l.length = d := by rw [← hds]; simp
    rw [ex, ex0] at hp3
    refine ⟨rfl, d'.toList.map (·.1), ?_, ?_, ⟨?_, ?_⟩, ?_⟩
    · rw [← hdl]; exact hp3.map _
    · rw [List.map_map, List.pairwise_map, List.pairwise_iff_getElem]
      intro i j hi hj hij
      have hi' : i < d'.size := by simpa using hi
      have hj' : j < d'.size := by simpa using hj
      have := hs i j (Nat.zero_le _) hij (by omega)
      rw [getElem!_pos d' i hi', getElem!_pos d' j hj'] at this
      simp only [ltOf, decide_eq_false_iff_not] at this
      simpa [ltM] using this
    · have hg' : (sortWorldK encQ 2 w g 0 m d' os).heap[g]? = some (.cells (putCells id 0 (flatK encQ 2 d') cur) 24 (0, 0)) := by
        unfold sortWorldK putRowK putRow
        rw [heap_grow_old _ _ (by simpa [mapBlock, Sort.ahead] using hgl)]
        exact modify_same (w := Sort.ahead w m) hg
      have hfs : (flatK encQ 2 d').size = l.length * 2 := by rw [size_flatK, hds']
      refine ⟨by rw [cellsP_len], .inr ⟨g, cap, _, by simp [hds'], hBg, hg', by simpa [hds'] using hnc, hcm, by rw [put_size]; exact hcs, ?_⟩⟩
      have := put_take cur (flatK encQ 2 d') (by rw [hfs, hcs]; omega)
      rw [hfs, flat_cells] at this
      simpa [hds'] using this
    · intro p hp
      obtain ⟨x, _, rfl⟩ := List.mem_map.1 hp
      exact owns_move x.2 fun b _ hlt hb => swk_other hlt (ne x b hb)
    · exact ⟨rfl, rfl, rfl, swk_size, fun k hk => swk_other (by omega) (by omega)⟩
  · have hnil : l = [] := List.eq_nil_of_length_eq_zero (by omega)
    subst hnil
    obtain ⟨A, cap, rfl⟩ := owns_form h.1
    have hcon := AnyF.slices_SortFunc_none Tryd.sortM A cap (.func (.func 13) #[] #[]) w
    change Calls Tryd.prog 30 _ _ _ at hcon
    refine hcon.mono ?_
    rintro e w' ⟨rfl, rfl⟩
    exact ⟨rfl, [], .refl _, .nil, h, Below.refl _ _⟩
end
end Go.Proofs.YtmhpogajklihdaaDoor.C
namespace Go.Proofs.YtmhpogajklihdaaDoor.C
open Go.RowKit Go.Shelf Go.Lib Go.Sort Go.Proofs.YtmhpogajklihdaaDoorW.PrintWords

/-- The row of matches m at the head of block g. -/
def RowAt (W : World) (g cap : Nat) (m : List P) : Prop := ∃ cur, W.heap[g]? = some (.cells cur 24 (0, 0)) ∧ cur.size = cap * 2 ∧ cur.toList.take (m.length * 2) = cellsP m ∧ m.length ≤ cap ∧ cap ≤ maxLen

section
variable {w W : World} {g cap : Nat} {m : List P}

theorem RowAt.lt (h : RowAt W g cap m) : g < W.heap.size := by obtain ⟨cur, h, _⟩ := h; exact blk_lt h
theorem RowAt.move (h : RowAt w g cap m) (hk : W.heap[g]? = w.heap[g]?) : RowAt W g cap m := by
  obtain ⟨cur, h1, h2⟩ := h
  exact ⟨cur, hk.trans h1, h2⟩
theorem RowAt.below (h : RowAt w g cap m) (hb : Below w.heap.size w W) : RowAt W g cap m := h.move (hb.block g h.lt)
theorem RowAt.at_ (h : RowAt W g cap m) {j : Nat} (hj : j < m.length * 2) : W.cell? ⟨g, j, none⟩ = (cellsP m)[j]? := by
  obtain ⟨cur, h1, h2, h3, _⟩ := h
  rw [blk_cell h1, ← h3, List.getElem?_take, if_pos hj, Array.getElem?_toList]
theorem RowAt.cell0 (h : RowAt W g cap m) {j : Nat} (hj : j < m.length) : W.cell? ⟨g, j * 2, none⟩ = some (.string m[j].1) := by
  rw [h.at_ (by omega)]; exact (cellsP_at m j hj).1
theorem RowAt.cell1 (h : RowAt W g cap m) {j : Nat} (hj : j < m.length) : W.cell? ⟨g, j * 2 + 1, none⟩ = some m[j].2.2 := by
  rw [h.at_ (by omega)]; exact (cellsP_at m j hj).2
theorem RowAt.frozen (h : RowAt W g cap m) (i : Nat) : W.frozen? ⟨g, i, none⟩ = false := by
  obtain ⟨cur, h1, _⟩ := h
  exact blk_frozen h1 i

theorem cellsP_take (m : List P) (k : Nat) : (cellsP m).take (k * 2) = cellsP (m.take k) := by
  induction m generalizing k with
  | nil => simp [cellsP]
  | cons p m ih =>
    cases k with
    | zero => simp [cellsP]
    | succ k =>
      have e : cellsP (p :: m) = .string p.1 :: p.2.2 :: cellsP m := rfl
      have e2 : cellsP ((p :: m).take (k + 1)) = .string p.1 :: p.2.2 :: cellsP (m.take k) := rfl
      rw [e, e2, ← ih k]
      have : (k + 1) * 2 = k * 2 + 1 + 1 := by omega
      rw [this]
      rfl

/-- A match put at a place. -/
theorem RowAt.store (h : RowAt W g cap m) {j : Nat} (_ : j < m.length) (x : P) : RowAt ((W.setCell ⟨g, j * 2, none⟩ (.string x.1)).setCell ⟨g, j * 2 + 1, none⟩ x.2.2) g cap (m.set j x) := by
  obtain ⟨cur, h1, h2, h3, h4, h5⟩ := h
  refine ⟨_, blk_set (blk_set h1 (j * 2) (.string x.1)) (j * 2 + 1) x.2.2, by simpa using h2, ?_, by simpa using h4, h5⟩
  rw [List.length_set]
  apply List.ext_getElem?
  intro t
  rw [List.getElem?_take]
  have hlen := cellsP_len (m.set j x)
  rw [List.length_set] at hlen
  by_cases ht : t < m.length * 2
  · rw [if_pos ht, Array.getElem?_toList]
    have hd : t / 2 < (m.set j x).length := by rw [List.length_set]; omega
    obtain ⟨c0, c1⟩ := cellsP_at (m.set j x) (t / 2) hd
    have old : cur[t]? = (cellsP m)[t]? := by rw [← h3, List.getElem?_take, if_pos ht, Array.getElem?_toList]
    have hd' : t / 2 < m.length := by omega
    obtain ⟨d0, d1⟩ := cellsP_at m (t / 2) hd'
    have ht' : t < cur.size := by omega
    rcases Nat.mod_two_eq_zero_or_one t with q | q
    · have e : t / 2 * 2 = t := by omega
      rw [e] at c0 d0
      rw [c0]
      by_cases ej : t / 2 = j
      · have e3 : j * 2 = t := by omega
        rw [Array.getElem?_setIfInBounds_ne (by omega), e3]
        simp [ht', ej]
      · rw [Array.getElem?_setIfInBounds_ne (by omega), Array.getElem?_setIfInBounds_ne (by omega), old, d0]
        rw [List.getElem_set_ne (fun e => ej e.symm)]
    · have e : t / 2 * 2 + 1 = t := by omega
      rw [e] at c1 d1
      rw [c1]
      by_cases ej : t / 2 = j
      · have e3 : j * 2 + 1 = t := by omega
        rw [e3]
        simp [ht', ej]
      · rw [Array.getElem?_setIfInBounds_ne (by omega), Array.getElem?_setIfInBounds_ne (by omega), old, d1]
        rw [List.getElem_set_ne (fun e => ej e.symm)]
  · rw [if_neg ht, List.getElem?_eq_none (by omega)]

theorem Owns.row {B : Nat} {v : Value} {l : List P} (h : Owns W B 24 v l) (hn : 0 < l.length) : ∃ g cap, v = .slice (some ⟨g, 0, none⟩) l.length cap ∧ B ≤ g ∧ RowAt W g cap l := by
  obtain ⟨g, cap, cur, rfl, hBg, hg, hnc, hcm, hcs, htk⟩ := owns_open h.1 hn
  exact ⟨g, cap, rfl, hBg, cur, hg, hcs, htk, hnc, hcm⟩
theorem RowAt.owns {B : Nat} (h : RowAt W g cap m) (hB : B ≤ g) {k : Nat} (hk : k ≤ m.length) : W.ownsRow B 24 2 (.slice (some ⟨g, 0, none⟩) k cap) k (cellsP (m.take k)) := by
  obtain ⟨cur, h1, h2, h3, h4, h5⟩ := h
  refine ⟨by rw [cellsP_len, List.length_take]; omega, .inr ⟨g, cap, cur, rfl, hB, h1, by omega, h5, h2, ?_⟩⟩
  rw [← cellsP_take, ← h3, List.take_take, Nat.min_eq_left (by omega)]

/-- Cells that are put from a place on leave what stands ahead. -/
theorem setCells_row (g : Nat) : ∀ (vs : List Value) (o : Nat) (W : World) (cur : Array Value), W.heap[g]? = some (.cells cur 24 (0, 0)) →
    ∃ cur', (W.setCells g o vs).heap[g]? = some (.cells cur' 24 (0, 0)) ∧ cur'.size = cur.size ∧ (∀ i, i < o → cur'[i]? = cur[i]?) ∧ (∀ b, b ≠ g → (W.setCells g o vs).heap[b]? = W.heap[b]?) ∧ ∀ B, B ≤ g → Below B W (W.setCells g o vs)
  | [], o, W, cur, h => ⟨cur, h, rfl, fun _ _ => rfl, fun _ _ => rfl, fun _ _ => Below.refl _ _⟩
  | v :: vs, o, W, cur, h => by
    obtain ⟨cur', h1, h2, h3, h4, h5⟩ := setCells_row g vs (o + 1) (W.setCell ⟨g, o, none⟩ v) _ (blk_set h o v)
    refine ⟨cur', h1, by rw [h2]; simp, fun i hi => ?_, fun b hb => (h4 b hb).trans (Below.heap_setCell _ _ _ _ hb), fun B hB => ((Below.refl B W).setCell hB v).trans (h5 B hB)⟩
    rw [h3 i (by omega), Array.getElem?_setIfInBounds_ne (by omega)]

theorem zero24 (w : World) : (zeroValue 24).run Tryd.prog w = .ok (.agg #[.string ⟨#[]⟩, .slice none 0 0]) w := by kernel_rfl

/-- 'clear' of what stands behind. -/
theorem run_clear (h : RowAt W g cap m) (k n c : Nat) (hk : k + n = m.length) :
    ∃ W', (Builtin.clear_ #[26] 0 #[.slice (some ⟨g, k * 2, none⟩) n c]).run Tryd.prog W = .ok (.tuple #[]) W' ∧ RowAt W' g cap (m.take k) ∧ (∀ b, b ≠ g → W'.heap[b]? = W.heap[b]?) ∧ ∀ B, B ≤ g → Below B W W' := by
  by_cases hn : 0 < n
  · have hzl : ∀ v ∈ (Builtin.zeroCells (Value.agg #[.string ⟨#[]⟩, .slice none 0 0]).cells n).toList, v.oneCell' = true := fun v hv => by
      simp [Builtin.zeroCells, Value.cells] at hv
      obtain ⟨i, _, rfl⟩ := hv
      rcases Nat.mod_two_eq_zero_or_one i with q | q <;> simp [q, Value.oneCell']
    have hlen : (Builtin.zeroCells (Value.agg #[.string ⟨#[]⟩, .slice none 0 0]).cells n).toList.length = n * 2 := by
      simp [Builtin.zeroCells, Value.cells]
    have hst := run_storeCells_cells (P := Tryd.prog) g (k * 2) (Builtin.zeroCells (Value.agg #[.string ⟨#[]⟩, .slice none 0 0]).cells n).toList 0 W (fun j hj => ?_) (fun j _ => h.frozen _) hzl
    · obtain ⟨cur, h1, h2, h3, h4, h5⟩ := h
      obtain ⟨cur', c1, c2, c3, c4, c5⟩ := setCells_row g (Builtin.zeroCells (Value.agg #[.string ⟨#[]⟩, .slice none 0 0]).cells n).toList (k * 2) W cur h1
      refine ⟨_, ?_, ⟨cur', c1, c2.trans h2, ?_, by rw [List.length_take]; omega, h5⟩, c4, c5⟩
      · obtain ⟨q, rfl⟩ : ∃ q, n = q + 1 := ⟨n - 1, by omega⟩
        simp only [Nat.add_zero] at hst
        simp [Builtin.clear_, run_underlying Tryd.underlying26, hst]
      · rw [List.length_take, Nat.min_eq_left (by omega), ← cellsP_take, ← h3, List.take_take, Nat.min_eq_left (by omega)]
        apply List.ext_getElem?
        intro t
        rw [List.getElem?_take, List.getElem?_take]
        split
        · rename_i ht
          rw [Array.getElem?_toList, Array.getElem?_toList, c3 t ht]
        · rfl
    · rw [hlen] at hj
      rw [h.at_ (by omega)]
      have : k * 2 + (0 + j) < (cellsP m).length := by rw [cellsP_len]; omega
      simp only [Nat.zero_add] at this ⊢
      rw [List.getElem?_eq_getElem (by rw [cellsP_len]; omega)]
      rfl
  · have e : n = 0 := by omega
    subst e
    refine ⟨W, by simp [Builtin.clear_, run_underlying Tryd.underlying26], ?_, fun _ _ => rfl, fun _ _ => Below.refl _ _⟩
    rw [List.take_of_length_le (by omega)]
    exact h
end
end Go.Proofs.YtmhpogajklihdaaDoor.C
namespace Go.Proofs.YtmhpogajklihdaaDoor.C
open Go.RowKit Go.Shelf Go.Lib Go.Sort Go.Proofs.YtmhpogajklihdaaDoorW.PrintWords

/-- Without those that say again what stands at their left. -/
def compF : Option M → List P → List P
  | _, [] => []
  | o, x :: l => if o = some (key x) then compF (some (key x)) l else x :: compF (some (key x)) l
def comp (l : List P) : List P := compF none l
def lastF : Option M → List P → Option M
  | o, [] => o
  | _, x :: l => lastF (some (key x)) l
theorem compF_snoc (x : P) : ∀ (l : List P) (o : Option M), compF o (l ++ [x]) = if lastF o l = some (key x) then compF o l else compF o l ++ [x]
  | [], o => by
    by_cases h : o = some (key x) <;> simp [lastF, compF, h]
  | y :: l, o => by
    have ih := compF_snoc x l (some (key y))
    show (if o = some (key y) then compF (some (key y)) (l ++ [x]) else y :: compF (some (key y)) (l ++ [x])) = _
    rw [ih]
    simp only [lastF, compF]
    split <;> split <;> simp
theorem lastF_snoc (x : P) : ∀ (l : List P) (o : Option M), lastF o (l ++ [x]) = some (key x)
  | [], _ => rfl
  | y :: l, _ => lastF_snoc x l (some (key y))
theorem comp_step (l : List P) (j : Nat) (hj : j + 1 < l.length) : comp (l.take (j + 2)) = if key l[j + 1] = key l[j] then comp (l.take (j + 1)) else comp (l.take (j + 1)) ++ [l[j + 1]] := by
  rw [List.take_succ_eq_append_getElem hj]
  unfold comp
  rw [compF_snoc, List.take_succ_eq_append_getElem (show j < l.length by omega), lastF_snoc]
  by_cases h : key l[j + 1] = key l[j]
  · rw [if_pos h, if_pos (by rw [h])]
  · rw [if_neg h, if_neg (fun e => h (Option.some.inj e).symm)]
theorem comp_mem (p : P) : ∀ (l : List P) (o : Option M), p ∈ compF o l → p ∈ l
  | [], _, h => h
  | x :: l, o, h => by
    unfold compF at h
    split at h
    · exact List.mem_cons_of_mem _ (comp_mem p l _ h)
    · rcases List.mem_cons.1 h with e | h
      · rw [e]; simp
      · exact List.mem_cons_of_mem _ (comp_mem p l _ h)
theorem comp_has (p : P) : ∀ (l : List P) (o : Option M), p ∈ l → o ≠ some (key p) → key p ∈ (compF o l).map key
  | x :: l, o, h, hn => by
    unfold compF
    by_cases e : key x = key p
    · rw [if_neg (by rw [e]; exact hn)]
      rw [List.map_cons, e]; simp
    · have h' : p ∈ l := by
        rcases List.mem_cons.1 h with e2 | h
        · exact absurd (by rw [e2]) e
        · exact h
      have ih := comp_has p l (some (key x)) h' (fun e2 => e (Option.some.inj e2))
      split
      · exact ih
      · rw [List.map_cons]; exact List.mem_cons_of_mem _ ih
theorem comp_rises : ∀ (l : List P) (o : Option M), (l.map key).Pairwise (fun a b => ¬ ltM b a) → (∀ x, o = some x → ∀ p ∈ l, ¬ ltM (key p) x) → Rising ((compF o l).map key) ∧ ∀ x, o = some x → ∀ p ∈ compF o l, ltM x (key p)
  | [], _, _, _ => ⟨.nil, fun _ _ p hp => by cases hp⟩
  | y :: l, o, h, ho => by
    rw [List.map_cons, List.pairwise_cons] at h
    obtain ⟨i1, i2⟩ := comp_rises l (some (key y)) h.2 (fun x e p hp => by cases e; exact h.1 (key p) (List.mem_map_of_mem hp))
    unfold compF
    split
    · rename_i e
      refine ⟨i1, fun x e2 p hp => ?_⟩
      rw [e] at e2
      exact i2 x e2 p hp
    · rename_i e
      refine ⟨?_, fun x e2 p hp => ?_⟩
      · rw [List.map_cons]
        refine List.pairwise_cons.2 ⟨fun z hz => ?_, i1⟩
        obtain ⟨p, hp, rfl⟩ := List.mem_map.1 hz
        exact i2 _ rfl p hp
      · have hxy : ltM x (key y) := by
          rcases ltM_total (show x ≠ key y from fun e3 => e (by rw [e2, e3])) with q | q
          · exact q
          · exact absurd q (ho x e2 y (by simp))
        rcases List.mem_cons.1 hp with e3 | hp
        · rw [e3]; exact hxy
        · exact cmpM_trans hxy (i2 _ rfl p hp)
/-- Of a list that is sorted. -/
theorem comp_sorted {l : List P} (h : (l.map key).Pairwise (fun a b => ¬ ltM b a)) : Rising ((comp l).map key) ∧ ∀ x, x ∈ (comp l).map key ↔ x ∈ l.map key := by
  refine ⟨(comp_rises l none h (fun _ e => by cases e)).1, fun x => ⟨fun hx => ?_, fun hx => ?_⟩⟩
  · obtain ⟨p, hp, rfl⟩ := List.mem_map.1 hx
    exact List.mem_map_of_mem (comp_mem p l none hp)
  · obtain ⟨p, hp, rfl⟩ := List.mem_map.1 hx
    exact comp_has p l none hp (by simp)
theorem comp_len : ∀ (l : List P) (o : Option M), (compF o l).length ≤ l.length
  | [], _ => Nat.le_refl _
  | x :: l, o => by
    have ih := comp_len l (some (key x))
    unfold compF
    split
    · rw [List.length_cons]; omega
    · rw [List.length_cons, List.length_cons]; omega
theorem comp_short : ∀ (l : List P), l.length < 2 → comp l = l
  | [], _ => rfl
  | [_], _ => rfl
  | _ :: _ :: l, h => by simp at h; omega
end Go.Proofs.YtmhpogajklihdaaDoor.C
namespace Go.Proofs.YtmhpogajklihdaaDoor.C
open Go.RowKit Go.Shelf Go.Lib Go.Sort Go.Proofs.YtmhpogajklihdaaDoorW.PrintWords

attribute [local go_sem] XReg.envOf

section
variable {w W : World} {B g cap : Nat} {v : Value} {l m : List P}

/-- The ids of all of l, in rows of the call's own. -/
def Ids (W : World) (B : Nat) (l : List P) : Prop := ∀ p ∈ l, IdOwn W B p.2.2 p.2.1
theorem Ids.below (h : Ids w B l) (hb : Below w.heap.size w W) : Ids W B l := fun p hp => (h p hp).below hb
theorem Ids.row (h : Ids w B l) (hr : RowAt w g cap m) (hk : ∀ b, b ≠ g → W.heap[b]? = w.heap[b]?) : Ids W B l := fun p hp =>
  owns_move (h p hp) fun b _ _ hb => hk b fun e => by
    subst e
    obtain ⟨c, hc⟩ := own_typed (h p hp) b hb
    obtain ⟨cur, h1, _⟩ := hr
    rw [h1] at hc; cases hc

/-- What the comparing call answers, in every world that lies ahead. -/
theorem one_calls (hi : Ids w B l) {i j : Nat} (hI : i < l.length) (hJ : j < l.length) :
    ∀ W', Gr w.drew W' → Calls Tryd.prog 32 (#[.agg #[.string l[i].1, l[i].2.2], .agg #[.string l[j].1, l[j].2.2]] ++ #[]) W' fun e W2 => ∃ u, e = .returned u ∧ Gr W' W2 ∧ u = .bool (decide (key l[i] = key l[j])) := fun W' h => by
  rw [Array.append_empty]
  have hb := (Gr.trans _ _ _ (Gr.drew w) h).below
  exact (one_walk (key l[i]) (key l[j]) ((hi _ (List.getElem_mem hI)).below hb).at_ ((hi _ (List.getElem_mem hJ)).below hb).at_).mono fun e W2 ⟨h1, h2⟩ => ⟨_, h1, h2, rfl⟩

set_option maxHeartbeats 1000000 in
set_option maxRecDepth 100000 in
theorem compact_walk (h : Owns w B 24 v l) (hl : l.length ≤ 100000) : Calls Tryd.prog 31 #[v, .func (.func 32) #[] #[]] w fun e w' => ∃ r, e = .returned r ∧ Owns w' B 24 r (comp l) ∧ Below B w w' := by
  by_cases hn : 2 ≤ l.length
  · obtain ⟨g, cap, rfl, hBg, hR⟩ := h.row (by omega)
    have hI : Ids w B l := h.2
    clear h
    have hgl := hR.lt
    have hcap : l.length ≤ cap ∧ cap ≤ maxLen := by obtain ⟨_, _, _, _, h⟩ := hR; exact h
    have hmax : maxLen ≤ 9223372036854775807 := by decide
    replace hR := Aside.mk hR
    replace hI := Aside.mk hI
    go_enter Tryd.func31, Tryd.ntmps31
    go_wp2_with fail
    go_loopw [5] (fun i wr => ∃ k : Nat, i = .int .i64 ((k : Int) + 1) ∧ k + 1 ≤ l.length ∧ comp (l.take (k + 1)) = l.take (k + 1) ∧ Gr w wr) (fun i _ => l.length - (intOf i).toNat)
    case atStart => exact ⟨0, rfl, by omega, comp_short _ (by rw [List.length_take]; omega), Gr.refl _⟩
    case round =>
      obtain ⟨k, rfl, hk, hcm, hG⟩ := hrel
      have hRr := hR.out.below hG.below
      have hIr := hI.out.below hG.below
      by_cases hkl : k + 1 < l.length
      · have hst := comp_step l k hkl
        have f1 := one_calls hIr hkl (show k < l.length by omega)
        have c : ∀ W', Gr wr.drew W' → RowAt W' g cap l := fun W' h => hRr.below (Gr.trans _ _ _ (Gr.drew wr) h).below
        have c0 : ∀ W', Gr wr.drew W' → W'.cell? ⟨g, (k + 1) * 2, none⟩ = some (.string l[k + 1].1) := fun W' h => (c W' h).cell0 hkl
        have c1 : ∀ W', Gr wr.drew W' → W'.cell? ⟨g, (k + 1) * 2 + 1, none⟩ = some l[k + 1].2.2 := fun W' h => (c W' h).cell1 hkl
        have c2 : ∀ W', Gr wr.drew W' → W'.cell? ⟨g, k * 2, none⟩ = some (.string l[k].1) := fun W' h => (c W' h).cell0 (by omega)
        have c3 : ∀ W', Gr wr.drew W' → W'.cell? ⟨g, k * 2 + 1, none⟩ = some l[k].2.2 := fun W' h => (c W' h).cell1 (by omega)
        obtain ⟨a1, b1, e1⟩ := owns_form (hIr _ (List.getElem_mem hkl))
        obtain ⟨a2, b2, e2⟩ := owns_form (hIr _ (List.getElem_mem (show k < l.length by omega)))
        rw [e1] at c1
        rw [e2] at c3
        rw [e1, e2] at f1
        clear e1 e2
        replace f1 := Aside.mk f1
        replace hRr := Aside.mk hRr
        replace hIr := Aside.mk hIr
        replace hG := Aside.mk hG
        replace hcm := Aside.mk hcm
        replace hst := Aside.mk hst
        clear c
        have hwk : IntKind.i64.wrap (k : Int) = k := by rw [IntKind.wrap_i64]; omega
        have hwk2 : (0 : Int) ≤ k ∧ (k : Int) < l.length := by omega
        go_upto_region 6 with fail
        refine XReg.wp_region Gr Gr.refl Gr.trans (by kernel_rfl) (by kernel_rfl) [(0, .det (.slice (some ⟨g, 0, none⟩) l.length cap)), (1, .det (.func (.func 32) #[] #[])), (5, .det (.int .i64 ((k : Int) + 1)))] (XReg.base_cons rfl (XReg.base_cons rfl (XReg.base_cons rfl XReg.base_nil))) ?_
        repeat (first
          | (refine XReg.walk_move Gr.refl rfl rfl _ rfl (by kernel_rfl) (by kernel_rfl) ?_)
          | (refine XReg.walk_callv f1.out rfl rfl (by kernel_rfl) rfl _ rfl (by kernel_rfl) (by kernel_rfl) ?_)
          | (refine XReg.run_1 Gr.refl rfl rfl _ rfl (by kernel_rfl) (by kernel_rfl) ?_; apply Exists.intro; refine ⟨fun ρ W hE h1 => ?_, ?_⟩; (go_simp; try rfl))
          | (refine XReg.run_2 Gr.refl rfl rfl rfl _ rfl (by kernel_rfl) (by kernel_rfl) ?_; apply Exists.intro; refine ⟨fun ρ W hE h1 h2 => ?_, ?_⟩; (go_simp; try rfl)))
        intro ρ W' hE _
        replace hE := Aside.mk (Gr.trans _ _ _ (Gr.drew wr) hE)
        simp only [Act.put, List.setIfInBounds_toArray, List.set_cons_zero, List.set_cons_succ]
        clear c0 c1 c2 c3 f1
        by_cases hd : key l[k + 1] = key l[k]
        · have hd' := decide_eq_true hd
          rw [hd']
          rw [if_pos hd, hcm.out] at hst
          clear hd hd'
          have hR2 := Aside.mk (hRr.out.below hE.out.below)
          have hI2 := Aside.mk (hIr.out.below hE.out.below)
          have hB2 := Aside.mk ((Gr.trans _ _ _ hG.out hE.out).below.mono (show B ≤ w.heap.size by omega))
          clear hR hI hRr hIr hG hcm hE
          go_upto_region 8 with fail
          generalize hN : l.length - (k + 1) = N
          generalize cap - (k + 1) = cap2
          generalize ho : (k + 1) * 2 = o
          go_wp2_with fail
          go_loopw [7, 5] (fun i j wr => ∃ (q p : Nat) (m : List P), i = .int .i64 ((q : Int) + 1) ∧ j = .int .i64 (p : Int) ∧ q + 1 ≤ N ∧ k + 1 ≤ p ∧ p ≤ k + 1 + q ∧ RowAt wr g cap m ∧ m.length = l.length ∧ m.take p = comp (l.take (k + 1 + q + 1)) ∧ (∀ i, p ≤ i → m[i]? = l[i]?) ∧ Ids wr B l ∧ Below B w wr) (fun i _ _ => N - (intOf i).toNat)
          case atStart => exact ⟨0, k + 1, l, rfl, rfl, by omega, Nat.le_refl _, Nat.le_refl _, hR2.out, rfl, hst.out.symm, fun _ _ => rfl, hI2.out, hB2.out⟩
          case round =>
            clear hR2 hI2 hB2 hst
            obtain ⟨q, p, m, rfl, rfl, hq, hp1, hp2, hRm, hml, htk, hrest, hIm, hBm⟩ := hrel
            by_cases hqN : q + 1 < N
            · have hA : k + 1 + q + 1 < l.length := by omega
              have hst := comp_step l (k + 1 + q) hA
              have f1 := one_calls hIm hA (show k + 1 + q < l.length by omega)
              have ma : m[k + 1 + q + 1]'(by omega) = l[k + 1 + q + 1] := by
                have := hrest (k + 1 + q + 1) (by omega)
                rw [List.getElem?_eq_getElem (by omega), List.getElem?_eq_getElem hA] at this
                exact Option.some.inj this
              have mb : m[k + 1 + q]'(by omega) = l[k + 1 + q] := by
                have := hrest (k + 1 + q) (by omega)
                rw [List.getElem?_eq_getElem (by omega), List.getElem?_eq_getElem (by omega)] at this
                exact Option.some.inj this
              have c : ∀ W', Gr wr.drew W' → RowAt W' g cap m := fun W' h => hRm.below (Gr.trans _ _ _ (Gr.drew wr) h).below
              have c0 : ∀ W', Gr wr.drew W' → W'.cell? ⟨g, o + (q + 1) * 2, none⟩ = some (.string l[k + 1 + q + 1].1) := fun W' h => by
                have := (c W' h).cell0 (j := k + 1 + q + 1) (by omega)
                rw [ma] at this
                rwa [show o + (q + 1) * 2 = (k + 1 + q + 1) * 2 by omega]
              have c1 : ∀ W', Gr wr.drew W' → W'.cell? ⟨g, o + (q + 1) * 2 + 1, none⟩ = some l[k + 1 + q + 1].2.2 := fun W' h => by
                have := (c W' h).cell1 (j := k + 1 + q + 1) (by omega)
                rw [ma] at this
                rwa [show o + (q + 1) * 2 + 1 = (k + 1 + q + 1) * 2 + 1 by omega]
              have c2 : ∀ W', Gr wr.drew W' → W'.cell? ⟨g, o + q * 2, none⟩ = some (.string l[k + 1 + q].1) := fun W' h => by
                have := (c W' h).cell0 (j := k + 1 + q) (by omega)
                rw [mb] at this
                rwa [show o + q * 2 = (k + 1 + q) * 2 by omega]
              have c3 : ∀ W', Gr wr.drew W' → W'.cell? ⟨g, o + q * 2 + 1, none⟩ = some l[k + 1 + q].2.2 := fun W' h => by
                have := (c W' h).cell1 (j := k + 1 + q) (by omega)
                rw [mb] at this
                rwa [show o + q * 2 + 1 = (k + 1 + q) * 2 + 1 by omega]
              obtain ⟨a3, b3, e1⟩ := owns_form (hIm _ (List.getElem_mem hA))
              obtain ⟨a4, b4, e2⟩ := owns_form (hIm _ (List.getElem_mem (show k + 1 + q < l.length by omega)))
              rw [e1] at c1
              rw [e2] at c3
              rw [e1, e2] at f1
              clear e2 ma mb c
              generalize hP : decide (key l[k + 1 + q + 1] = key l[k + 1 + q]) = P at f1
              replace hP := Aside.mk hP
              replace e1 := Aside.mk e1
              replace f1 := Aside.mk f1
              replace hRm := Aside.mk hRm
              replace hIm := Aside.mk hIm
              replace hBm := Aside.mk hBm
              replace htk := Aside.mk htk
              replace hst := Aside.mk hst
              replace hrest := Aside.mk hrest
              have hwk : IntKind.i64.wrap (q : Int) = q := by rw [IntKind.wrap_i64]; omega
              have hwk2 : (0 : Int) ≤ q ∧ (q : Int) < N := by omega
              go_upto_region 11 with fail
              refine XReg.wp_region Gr Gr.refl Gr.trans (by kernel_rfl) (by kernel_rfl) [(6, .det (.slice (some ⟨g, o, none⟩) N cap2)), (1, .det (.func (.func 32) #[] #[])), (7, .det (.int .i64 ((q : Int) + 1)))] (XReg.base_cons rfl (XReg.base_cons rfl (XReg.base_cons rfl XReg.base_nil))) ?_
              repeat (first
                | (refine XReg.walk_move Gr.refl rfl rfl _ rfl (by kernel_rfl) (by kernel_rfl) ?_)
                | (refine XReg.walk_callv f1.out rfl rfl (by kernel_rfl) rfl _ rfl (by kernel_rfl) (by kernel_rfl) ?_)
                | (refine XReg.run_1 Gr.refl rfl rfl _ rfl (by kernel_rfl) (by kernel_rfl) ?_; apply Exists.intro; refine ⟨fun ρ W hE h1 => ?_, ?_⟩; (go_simp; try rfl))
                | (refine XReg.run_2 Gr.refl rfl rfl rfl _ rfl (by kernel_rfl) (by kernel_rfl) ?_; apply Exists.intro; refine ⟨fun ρ W hE h1 h2 => ?_, ?_⟩; (go_simp; try rfl)))
              intro ρ W' hE _
              have hc0 := c0 W' hE
              have hc1 := c1 W' hE
              replace hE := Aside.mk (Gr.trans _ _ _ (Gr.drew wr) hE)
              simp only [Act.put, List.setIfInBounds_toArray, List.set_cons_zero, List.set_cons_succ]
              have hR4 := hRm.out.below hE.out.below
              have hI4 := hIm.out.below hE.out.below
              have hB4 := Aside.mk (hBm.out.trans (hE.out.below.mono (show B ≤ wr.heap.size by have := hBm.out.size; omega)))
              clear c0 c1 c2 c3 f1 hRm hIm hBm
              by_cases hd : key l[k + 1 + q + 1] = key l[k + 1 + q]
              · have hd' := hP.out.symm.trans (decide_eq_true hd)
                subst hd'
                rw [if_pos hd] at hst
                clear hd hP
                replace hR4 := Aside.mk hR4
                replace hI4 := Aside.mk hI4
                go_wp2_with fail
                go_roundw
                case rel => exact ⟨q + 1, p, m, by go_num, rfl, by omega, hp1, by omega, hR4.out, hml, htk.out.trans hst.out.symm, hrest.out, hI4.out, hB4.out⟩
                case measure => simp [intOf]; omega
              · have hd' := hP.out.symm.trans (decide_eq_false hd)
                subst hd'
                rw [if_neg hd] at hst
                clear hd hP
                have hfr := hR4.frozen
                have hp4 : p < m.length := by omega
                have hp5 : p < l.length := by omega
                have hR5 := hR4.store hp4 l[k + 1 + q + 1]
                rw [e1.out] at hR5
                have hx0 := hR4.cell0 hp4
                have hx1 := hR4.cell1 hp4
                have hI4 := Aside.mk hI4
                replace hR4 := Aside.mk hR4
                replace hR5 := Aside.mk hR5
                go_wp2_with fail
                go_roundw
                case rel =>
                  refine ⟨q + 1, p + 1, m.set p l[k + 1 + q + 1], by go_num, by go_num, by omega, by omega, by omega, hR5.out, by rw [List.length_set]; exact hml, ?_, fun i hi => ?_, hI4.out.row hR4.out (fun b hb => (Below.heap_setCell _ _ _ _ hb).trans (Below.heap_setCell _ _ _ _ hb)), hB4.out.trans (((Below.refl B W').setCell hBg _).setCell hBg _)⟩
                  · rw [show k + 1 + (q + 1) + 1 = k + 1 + q + 2 by omega, hst.out, ← htk.out, List.take_succ_eq_append_getElem (by rw [List.length_set]; exact hp4), List.getElem_set_self, List.take_set_of_le (Nat.le_refl _)]
                  · rw [List.getElem?_set_ne (by omega)]
                    exact hrest.out i (by omega)
                case measure => simp [intOf]; omega
            · obtain rfl : N = q + 1 := by omega
              rw [show l.take (k + 1 + q + 1) = l from List.take_of_length_le (by omega)] at htk
              have hp3 : p ≤ l.length := by omega
              obtain ⟨w3, hrun, hR3, hk3, hB3⟩ := run_clear hRm p (l.length - p) (cap - p) (by omega)
              have hI3 := Aside.mk (hIm.row hRm hk3)
              replace hB3 := Aside.mk (hBm.trans (hB3 B hBg))
              replace hR3 := Aside.mk hR3
              replace htk := Aside.mk htk
              clear hRm hIm hBm hrest hk3
              go_wp2_with fail
              go_ret
              refine ⟨_, rfl, ⟨?_, fun x hx => hI3.out x (comp_mem x l none hx)⟩, hB3.out⟩
              have hlen : (comp l).length = p := by rw [← htk.out, List.length_take]; omega
              have h3 := hR3.out
              rw [htk.out] at h3
              have := h3.owns hBg (k := p) (by omega)
              rw [List.take_of_length_le (by omega)] at this
              rw [hlen]
              exact this
        · have hd' := decide_eq_false hd
          rw [hd']
          rw [if_neg hd] at hst
          clear hd hd'
          go_wp2_with fail
          go_roundw
          case rel => exact ⟨k + 1, by go_num, by omega, by rw [hst.out, hcm.out, ← List.take_succ_eq_append_getElem], Gr.trans _ _ _ hG.out hE.out⟩
          case measure => simp [intOf]; omega
      · rw [List.take_of_length_le (by omega)] at hcm
        replace hcm := Aside.mk hcm
        replace hRr := Aside.mk hRr
        replace hIr := Aside.mk hIr
        replace hG := Aside.mk hG
        go_wp2_with fail
        go_ret
        refine ⟨_, rfl, ⟨?_, fun x hx => hIr.out x (comp_mem x l none hx)⟩, hG.out.below.mono (by omega)⟩
        rw [hcm.out]
        have := hRr.out.owns hBg (k := l.length) (Nat.le_refl _)
        rwa [List.take_length] at this
  · rw [comp_short l (by omega)]
    obtain ⟨a, c, rfl⟩ := owns_form h.1
    have hmx := owns_max h.1
    replace h := Aside.mk h
    go_enter Tryd.func31, Tryd.ntmps31
    go_wp2_with fail
    go_ret
    exact ⟨_, rfl, h.out, Below.refl _ _⟩
end
end Go.Proofs.YtmhpogajklihdaaDoor.C
namespace Go.Proofs.YtmhpogajklihdaaDoor.C
open Go.RowKit Go.Shelf Go.Lib Go.Sort Go.Proofs.YtmhpogajklihdaaDoorW.PrintWords

section
variable {w : World} {v : Value} {L : List M}

set_option maxRecDepth 100000 in
theorem csort_walk (h : Reads w v L) (hf : Few L) : Calls Tryd.prog 16 #[v] w fun e w' => ∃ r l, e = .returned r ∧ Owns w' w.heap.size 24 r l ∧ Rising (l.map key) ∧ (∀ x, x ∈ l.map key ↔ x ∈ L) ∧ Below w.heap.size w w' ∧ l.length ≤ L.length := by
  have hC := Aside.mk (copy_walk h hf)
  have hlen := hf.1
  obtain ⟨A, cap, rfl, _, _⟩ := h
  go_enter Tryd.func16, Tryd.ntmps16
  go_wp2_with fail
  go_at_call 14
  refine hC.out.mono ?_
  rintro e w1 ⟨r1, l1, rfl, hO1, hk1, hB1⟩
  have hl1 : l1.length ≤ 1000 := by have := congrArg List.length hk1; simp at this; omega
  have hS := Aside.mk (sort_walk hO1 (by omega))
  obtain ⟨a1, c1, rfl⟩ := owns_form hO1.1
  replace hB1 := Aside.mk hB1
  clear hO1
  go_wp2_with fail
  go_at_call 30
  refine hS.out.mono ?_
  rintro e w2 ⟨rfl, l2, hp, hs, hO2, hB2⟩
  have hD := Aside.mk (compact_walk hO2 (by rw [hp.length_eq]; omega))
  replace hB2 := Aside.mk (hB1.out.trans hB2)
  obtain ⟨hr, hm⟩ := comp_sorted hs
  have hmem : ∀ x, x ∈ (comp l2).map key ↔ x ∈ L := fun x => by rw [hm, ← hk1]; exact (hp.map key).mem_iff
  have hlen2 : (comp l2).length ≤ L.length := by
    have e := congrArg List.length hk1
    rw [List.length_map] at e
    have := comp_len l2 none
    have := hp.length_eq
    unfold comp
    omega
  replace hmem := Aside.mk hmem
  replace hr := Aside.mk hr
  clear hO2 hm hs hp hk1 hS hC
  go_wp2_with fail
  go_at_call 31
  refine hD.out.mono ?_
  rintro e w3 ⟨r3, rfl, hO3, hB3⟩
  obtain ⟨a3, c3, rfl⟩ := owns_form hO3.1
  replace hO3 := Aside.mk hO3
  replace hB3 := Aside.mk hB3
  go_wp2_with fail
  go_ret
  exact ⟨_, _, rfl, hO3.out, hr.out, hmem.out, hB2.out.trans hB3.out, hlen2⟩
end
end Go.Proofs.YtmhpogajklihdaaDoor.C
