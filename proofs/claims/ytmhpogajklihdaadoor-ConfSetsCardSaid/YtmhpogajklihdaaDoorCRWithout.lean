/- 'Without' of the document. -/
import Derived.Test.YtmhpogajklihdaaDoorCRSort
namespace Go.Proofs.YtmhpogajklihdaaDoor.C
open Go.RowKit Go.Shelf Go.Lib Go.Sort Go.Proofs.YtmhpogajklihdaaDoorW.PrintWords

theorem away_snoc (L : List M) (l : List P) (p : P) : away L (l ++ [p]) = away L l ++ if hasM L (key p) then [] else [p] := by
  unfold away
  rw [List.filter_append, List.filter_cons]
  cases hasM L (key p) <;> simp
theorem away_len (L : List M) (l : List P) : (away L l).length ≤ l.length := List.length_filter_le _ _

section
variable {w : World} {v v2 : Value} {K L : List M}

set_option maxHeartbeats 4000000 in
set_option maxRecDepth 100000 in
theorem rwithout_walk (hK : Reads w v K) (fK : K.length ≤ 1000) (hL : Reads w v2 L) : Calls Tryd.prog 19 #[v, v2] w fun e w' => ∃ r l, e = .returned r ∧ Refs w w' r l ∧ Rising (l.map key) ∧ (∀ x, x ∈ l.map key ↔ x ∈ K ∧ x ∉ L) ∧ Below w.heap.size w w' := by
  have hS := Aside.mk (rsort_walk hK fK)
  obtain ⟨A, cap, rfl, _, _⟩ := hK
  have hL0 := hL
  obtain ⟨A2, cap2, rfl, _, _⟩ := hL
  obtain ⟨i0, hi0, hz0, hz1, hz2⟩ := info_parts info31
  replace hi0 := Aside.mk hi0
  replace hz0 := Aside.mk hz0
  replace hz1 := Aside.mk hz1
  replace hz2 := Aside.mk hz2
  replace hL0 := Aside.mk hL0
  have hmax : 1000000 ≤ maxLen := by decide
  go_enter Tryd.func19, Tryd.ntmps19
  go_wp2_with fail
  go_at_call 18
  refine hS.out.mono ?_
  rintro e w1 ⟨r1, l, rfl, hR, hr, hmem, hll, hB⟩
  have hl1 : l.length ≤ 1000 := by omega
  obtain ⟨oa, oc, e⟩ := owns_form hR.1
  subst e
  have hrow := Aside.mk hR.1
  have hids := Aside.mk hR.2
  have hs1 := hB.size
  replace hr := Aside.mk hr
  replace hmem := Aside.mk hmem
  replace hB := Aside.mk hB
  clear hR hS
  go_wp2_with fail
  go_loopw [11, 5] (fun a t wr => ∃ (i : Nat) (m : List P), a = .int .i64 (i : Int) ∧ i ≤ l.length ∧ m = away L (l.take i) ∧ wr.ownsRow w1.heap.size 31 2 t m.length (cellsP m) ∧ Below w1.heap.size w1 wr) (fun a _ _ => l.length - (intOf a).toNat)
  case atStart => exact ⟨0, [], rfl, Nat.zero_le _, rfl, World.ownsRow_nil _ _ _ _, Below.refl _ _⟩
  case round =>
    obtain ⟨i, m, rfl, hi, hm, hM, hBx⟩ := hrel
    obtain ⟨ma, mc, e⟩ := owns_form hM
    subst e
    by_cases hlt : i < l.length
    · obtain ⟨g, oc2, e, hgB, hgl⟩ := owns_form1 hrow.out (by omega)
      simp only [Value.slice.injEq, true_and] at e
      obtain ⟨rfl, rfl⟩ := e
      obtain ⟨c0, c1⟩ := cellsP_at l i hlt
      have k0 : w1.cell? ⟨g, i * 2, none⟩ = some (.string l[i].1) := (hrow.out.cellAt (i * 2) (by omega)).trans c0
      have k1 : w1.cell? ⟨g, i * 2 + 1, none⟩ = some l[i].2.2 := (hrow.out.cellAt (i * 2 + 1) (by omega)).trans c1
      have x0 := (hBx.cell (p := ⟨g, i * 2, none⟩) hgl).trans k0
      have x1 := (hBx.cell (p := ⟨g, i * 2 + 1, none⟩) hgl).trans k1
      have hid := hids.out l[i] (List.getElem_mem hlt)
      obtain ⟨V, vc, ev, _, _⟩ := id hid
      rw [ev] at x1 hid
      clear c0 c1 k0 k1
      have hml : m.length ≤ i := by rw [hm]; exact Nat.le_trans (away_len _ _) (by simp; omega)
      have hAx : Below wr.heap.size wr (wr.alloc (.cells #[.string l[i].1, .slice V l[i].2.1.length vc] 31)) := (Below.refl _ wr).alloc (Nat.le_refl _) _
      have q1 := blk_new wr #[.string l[i].1, .slice V l[i].2.1.length vc] 31
      have hMx := owns_below hM hAx
      have hBy := hBx.trans (hAx.mono hBx.size)
      have htk := Aside.mk (List.take_succ_eq_append_getElem hlt)
      replace hm := Aside.mk hm
      replace ev := Aside.mk ev
      go_upto_region 5 with fail
      generalize wr.alloc (.cells #[.string l[i].1, .slice V l[i].2.1.length vc] 31) = W1 at q1 hMx hBy ⊢
      clear x0 x1 hAx hM hBx
      generalize wr.heap.size = n1 at q1 ⊢
      have z0 := (blk_cell q1 0).trans rfl
      have z1 := (blk_cell q1 1).trans rfl
      have hBw := hB.out.trans (hBy.mono hs1)
      have hC := has_walk (hL0.out.below hBw) (key l[i]) (hid.below hBw)
      generalize hp : hasM L (key l[i]) = p at hC
      replace hp := Aside.mk hp
      replace hC := Aside.mk hC
      clear hid hBw
      cases p
      · go_wp2_with fail
        go_at_call 34
        refine hC.out.mono ?_
        rintro e w4 ⟨rfl, hG4⟩
        have z2 := (hG4.below.cell (p := ⟨n1, 0, none⟩) (blk_lt q1)).trans z0
        have z3 := (hG4.below.cell (p := ⟨n1, 1, none⟩) (blk_lt q1)).trans z1
        have hM4 := owns_below hMx hG4.below
        have hB4 := hBy.trans (hG4.below.mono hBy.size)
        have hA4 : Below w4.heap.size w4 (w4.alloc (.cells #[.string l[i].1, .slice V l[i].2.1.length vc] 31)) := (Below.refl _ w4).alloc (Nat.le_refl _) _
        have hM5 := owns_below hM4 hA4
        have hB5 := hB4.trans (hA4.mono hB4.size)
        have hs5 := hB5.size
        have hcn := Aside.mk (cells_new w4 [.string l[i].1, .slice V l[i].2.1.length vc] 31 rfl)
        replace hB5 := Aside.mk hB5
        clear z0 z1 hM4 hB4 hA4 hMx hBy hG4
        go_wp2_with (at_builtin; refine wpList_append_own _ rfl _ _ 28 rfl w1.heap.size 31 i0 (.agg #[.string ⟨#[]⟩, .slice none 0 0]) 2 40 Tryd.underlying28 hi0.out hz0.out hz1.out hz2.out rfl (by decide) _ _ _ rfl hM5 ⟨w4.heap.size, 0, none⟩ 1 1 [.string l[i].1, .slice V l[i].2.1.length vc] rfl rfl hcn.out (by simp [Value.oneCell']) (by omega) (by omega) hs5 ?_; intro v3 w3 hown3 hgr3 _; replace hown3 := Aside.mk hown3; replace hgr3 := Aside.mk hgr3)
        go_roundw
        case rel =>
          refine ⟨i + 1, m ++ [l[i]], by go_num, by omega, by rw [htk.out, away_snoc, hp.out, hm.out]; rfl, by rw [List.length_append, cellsP_append, ev.out]; exact hown3.out, hB5.out.grown hgr3.out hs5 (fun k hk => own_from hM5 hk)⟩
        case measure => simp [intOf]; omega
      · replace hMx := Aside.mk hMx
        replace hBy := Aside.mk hBy
        go_wp2_with (go_at_call 34; refine hC.out.mono ?_; rintro e w4 ⟨rfl, hG4⟩; replace hG4 := Aside.mk hG4)
        go_roundw
        case rel =>
          refine ⟨i + 1, m, by go_num, by omega, by rw [htk.out, away_snoc, hp.out, hm.out]; simp, owns_below hMx.out hG4.out.below, hBy.out.trans (hG4.out.below.mono hBy.out.size)⟩
        case measure => simp [intOf]; omega
    · obtain rfl : i = l.length := by omega
      rw [List.take_length] at hm
      subst hm
      replace hM := Aside.mk hM
      replace hBx := Aside.mk hBx
      go_wp2_with fail
      go_ret
      refine ⟨_, _, rfl, ⟨owns_base hM.out hs1, fun p hp => hids.out p (List.mem_filter.1 hp).1⟩, ?_, fun x => ?_, hB.out.trans (hBx.out.mono hs1)⟩
      · exact hr.out.sublist (List.filter_sublist.map key)
      · rw [away_mem, hmem.out]
end
end Go.Proofs.YtmhpogajklihdaaDoor.C
