/- 'Sort' of the document. -/
import Derived.Test.YtmhpogajklihdaaDoorCIns
namespace Go.Proofs.YtmhpogajklihdaaDoor.C
open Go.RowKit Go.Shelf Go.Lib Go.Sort Go.Proofs.YtmhpogajklihdaaDoorW.PrintWords

section
variable {w : World} {v : Value} {L : List M}

set_option maxHeartbeats 4000000 in
set_option maxRecDepth 100000 in
theorem rsort_walk (hL : Reads w v L) (hf : L.length ≤ 1000) : Calls Tryd.prog 18 #[v] w fun e w' => ∃ r l, e = .returned r ∧ Refs w w' r l ∧ Rising (l.map key) ∧ (∀ x, x ∈ l.map key ↔ x ∈ L) ∧ l.length ≤ L.length ∧ Below w.heap.size w w' := by
  obtain ⟨A, cap, rfl, hm, hc⟩ := hL
  obtain ⟨i0, hi0, hz0, hz1, hz2⟩ := info_parts info31
  replace hi0 := Aside.mk hi0
  replace hz0 := Aside.mk hz0
  replace hz1 := Aside.mk hz1
  replace hz2 := Aside.mk hz2
  replace hc := Aside.mk hc
  have hmax : 1000000 ≤ maxLen := by decide
  go_enter Tryd.func18, Tryd.ntmps18
  go_wp2_with fail
  go_loopw [12, 3] (fun a t wr => ∃ (i : Nat) (l : List P), a = .int .i64 (i : Int) ∧ i ≤ L.length ∧ Refs w wr t l ∧ Rising (l.map key) ∧ (∀ x, x ∈ l.map key ↔ x ∈ L.take i) ∧ l.length ≤ i ∧ Below w.heap.size w wr) (fun a _ _ => L.length - (intOf a).toNat)
  case atStart => exact ⟨0, [], rfl, Nat.zero_le _, Refs.nil _ _, .nil, fun x => by simp, Nat.le_refl _, Below.refl _ _⟩
  case round =>
    obtain ⟨i, l, rfl, hi, hR, hr, hmem, hll, hB⟩ := hrel
    obtain ⟨oa, oc, e⟩ := owns_form hR.1
    subst e
    by_cases hlt : i < L.length
    · obtain ⟨b, o, u, rfl, hbl, g0, g1, g2⟩ := hc.out i hlt
      have x0 := (hB.cell (p := ⟨b, o + i * 2, none⟩) hbl).trans g0
      have x1 := (hB.cell (p := ⟨b, o + i * 2 + 1, none⟩) hbl).trans g1
      obtain ⟨U, uc, e, _, _⟩ := id g2
      subst e
      have hA : Gr wr (wr.alloc (.cells #[.string L[i].1, .slice U L[i].2.length uc] 31)) := Gr.alloc _ _
      have p1 := blk_new wr #[.string L[i].1, .slice U L[i].2.length uc] 31
      have hBW := hB.trans (hA.below.mono hB.size)
      have hRW := hR.below hA.below
      have hC := has_walk (hRW.reads hBW) L[i] (g2.below hBW)
      have htk := List.take_succ_eq_append_getElem hlt
      go_upto_region 5 with fail
      generalize wr.alloc (.cells #[.string L[i].1, .slice U L[i].2.length uc] 31) = W at hA p1 hBW hRW hC ⊢
      clear x0 x1 hR hB hA g0 g1
      generalize wr.heap.size = n at p1 ⊢
      have d0 := (blk_cell p1 0).trans rfl
      have d1 := (blk_cell p1 1).trans rfl
      replace hr := Aside.mk hr
      replace hmem := Aside.mk hmem
      replace htk := Aside.mk htk
      replace hBW := Aside.mk hBW
      replace hRW := Aside.mk hRW
      replace p1 := Aside.mk p1
      generalize hp : hasM (l.map key) L[i] = p at hC
      replace hp := Aside.mk hp
      replace hC := Aside.mk hC
      cases p
      · go_upto_region 5 with fail
        go_wp2_with (go_at_call 34; refine hC.out.mono ?_; rintro e w2 ⟨rfl, hG2⟩; have e0 := (hG2.below.cell (p := ⟨n, 0, none⟩) (blk_lt p1.out)).trans d0; have e1 := (hG2.below.cell (p := ⟨n, 1, none⟩) (blk_lt p1.out)).trans d1; replace hG2 := Aside.mk hG2)
        have hR2 := hRW.out.below hG2.out.below
        have hB2 := Aside.mk (hBW.out.trans (hG2.out.below.mono hBW.out.size))
        have hx2 := Aside.mk ((g2.below hBW.out).below hG2.out.below)
        have hids := Aside.mk hR2.2
        have hrow := hR2.1
        have hs2 := hB2.out.size
        have hn2 : n < w2.heap.size := Nat.lt_of_lt_of_le (blk_lt p1.out) hG2.out.below.size
        clear d0 d1 hRW hBW hG2 hC hR2
        replace g2 := Aside.mk g2
        replace hrow := Aside.mk hrow
        obtain ⟨x, hx⟩ : ∃ x : P, x = (L[i].1, L[i].2, .slice U L[i].2.length uc) := ⟨_, rfl⟩
        replace hx := Aside.mk hx
        go_loopw [21, 6, 7] (fun a t b wx => ∃ (j : Nat) (m : List P) (p : Bool), a = .int .i64 (j : Int) ∧ b = .bool p ∧ j ≤ l.length ∧ m.length ≤ j + 1 ∧ wx.ownsRow w2.heap.size 31 2 t m.length (cellsP m) ∧ (p = false → m = l.take j ∧ ∀ q (_ : q < l.length), q < j → ¬ ltM (key x) (key l[q])) ∧ (p = true → m ++ l.drop j = ins x l) ∧ Below w2.heap.size w2 wx) (fun a _ _ _ => l.length - (intOf a).toNat)
        case atStart => exact ⟨0, [], false, rfl, rfl, Nat.zero_le _, Nat.zero_le _, World.ownsRow_nil _ _ _ _, fun _ => ⟨rfl, fun _ _ h => absurd h (by omega)⟩, fun h => Bool.noConfusion h, Below.refl _ _⟩
        case round =>
          obtain ⟨j, m, p, rfl, rfl, hj, hml, hM, hpf, hpt, hBx⟩ := hrel
          by_cases hjl : j < l.length
          · obtain ⟨g, oc2, e, hgB, hgl⟩ := owns_form1 hrow.out (by omega)
            simp only [Value.slice.injEq, true_and] at e
            obtain ⟨rfl, rfl⟩ := e
            obtain ⟨c0, c1⟩ := cellsP_at l j hjl
            have k0 : w2.cell? ⟨g, j * 2, none⟩ = some (.string l[j].1) := (hrow.out.cellAt (j * 2) (by omega)).trans c0
            have k1 : w2.cell? ⟨g, j * 2 + 1, none⟩ = some l[j].2.2 := (hrow.out.cellAt (j * 2 + 1) (by omega)).trans c1
            have x0 := (hBx.cell (p := ⟨g, j * 2, none⟩) hgl).trans k0
            have x1 := (hBx.cell (p := ⟨g, j * 2 + 1, none⟩) hgl).trans k1
            obtain ⟨V, vc, ev, _, _⟩ := hids.out l[j] (List.getElem_mem hjl)
            rw [ev] at x1
            clear c0 c1 k0 k1
            obtain ⟨ma, mc, e⟩ := owns_form hM
            subst e
            have hAx : Below wr.heap.size wr (wr.alloc (.cells #[.string l[j].1, .slice V l[j].2.1.length vc] 31)) := (Below.refl _ wr).alloc (Nat.le_refl _) _
            have q1 := blk_new wr #[.string l[j].1, .slice V l[j].2.1.length vc] 31
            have hMx := owns_below hM hAx
            have hBy := hBx.trans (hAx.mono hBx.size)
            have hlow : ∀ k, (Value.slice ma m.length mc).ownBlock = some k → k < wr.heap.size := fun k hk => by
              obtain ⟨c, hc⟩ := own_typed hM k hk
              exact blk_lt hc
            replace hlow := Aside.mk hlow
            go_upto_region 11 with fail
            generalize wr.alloc (.cells #[.string l[j].1, .slice V l[j].2.1.length vc] 31) = W1 at q1 hMx hBy ⊢
            clear x0 x1 hAx hM hBx
            generalize wr.heap.size = n1 at q1 hlow ⊢
            have y0 := (hBy.cell (p := ⟨n, 0, none⟩) hn2).trans e0
            have y1 := (hBy.cell (p := ⟨n, 1, none⟩) hn2).trans e1
            have z0 := (blk_cell q1 0).trans rfl
            have z1 := (blk_cell q1 1).trans rfl
            clear e0 e1
            cases p
            · obtain ⟨hm2, hno⟩ := hpf rfl
              replace hm2 := Aside.mk hm2
              have hC2 := less_walk L[i] (key l[j]) (hx2.out.below hBy) (by have := (hids.out l[j] (List.getElem_mem hjl)).below (hB2.out.trans (hBy.mono hs2)); rw [ev] at this; exact this)
              by_cases hd : ltM L[i] (key l[j])
              · rw [decide_eq_true hd] at hC2
                have hsk := ins_skip x l j (by omega) hno
                rw [List.drop_eq_getElem_cons hjl] at hsk
                have hi1 : ins x (l[j] :: l.drop (j + 1)) = x :: l[j] :: l.drop (j + 1) := by
                  show (if _ then _ else _) = _
                  rw [if_pos (by rw [hx.out]; exact hd)]
                rw [hi1] at hsk
                replace hsk := Aside.mk hsk
                replace hC2 := Aside.mk hC2
                replace ev := Aside.mk ev
                clear hpf hpt hno hd hi1
                go_wp2_with fail
                go_at_call 12
                refine hC2.out.mono ?_
                rintro e w4 ⟨rfl, hG4⟩
                have y2 := (hG4.below.cell (p := ⟨n, 0, none⟩) (Nat.lt_of_lt_of_le hn2 hBy.size)).trans y0
                have y3 := (hG4.below.cell (p := ⟨n, 1, none⟩) (Nat.lt_of_lt_of_le hn2 hBy.size)).trans y1
                have q4 := (hG4.below.block n1 (blk_lt q1)).trans q1
                have hM4 := owns_below hMx hG4.below
                have hB4 := hBy.trans (hG4.below.mono hBy.size)
                have hA4 : Below w4.heap.size w4 (w4.alloc (.cells #[.string L[i].1, .slice U L[i].2.length uc] 31)) := (Below.refl _ w4).alloc (Nat.le_refl _) _
                have q5 := (hA4.block n1 (blk_lt q4)).trans q4
                have hM5 := owns_below hM4 hA4
                have hB5 := hB4.trans (hA4.mono hB4.size)
                have hs5 := hB5.size
                have hcn := Aside.mk (cells_new w4 [.string L[i].1, .slice U L[i].2.length uc] 31 rfl)
                replace hB5 := Aside.mk hB5
                replace q5 := Aside.mk q5
                clear y0 y1 z0 z1 hM4 hB4 hA4 hMx hBy hG4 q4 q1
                go_upto_region 13 with (at_builtin; refine wpList_append_own _ rfl _ _ 28 rfl w2.heap.size 31 i0 (.agg #[.string ⟨#[]⟩, .slice none 0 0]) 2 40 Tryd.underlying28 hi0.out hz0.out hz1.out hz2.out rfl (by decide) _ _ _ rfl hM5 ⟨w4.heap.size, 0, none⟩ 1 1 [.string L[i].1, .slice U L[i].2.length uc] rfl rfl hcn.out (by simp [Value.oneCell']) (by omega) (by omega) hs5 ?_; intro v3 w3 hown3 hgr3 _; replace hown3 := Aside.mk hown3; replace hgr3 := Aside.mk hgr3)
                have hB6 := hB5.out.grown hgr3.out hs5 (fun k hk => own_from hM5 hk)
                have hne : ∀ k, (Value.slice ma m.length mc).ownBlock = some k → n1 ≠ k := fun k hk e => by have := hlow.out k hk; omega
                have q6 := (hgr3.out.block n1 (blk_lt q5.out) (fun e => hne n1 e.symm rfl)).trans q5.out
                have hA6 : Below w3.heap.size w3 (w3.alloc (.cells #[.string l[j].1, .slice V l[j].2.1.length vc] 31)) := (Below.refl _ w3).alloc (Nat.le_refl _) _
                have hM7 := owns_below hown3.out hA6
                have hB7 := hB6.trans (hA6.mono hB6.size)
                have hs7 := hB7.size
                have y4 := (blk_cell q6 0).trans rfl
                have y5 := (blk_cell q6 1).trans rfl
                have hcn2 := Aside.mk (cells_new w3 [.string l[j].1, .slice V l[j].2.1.length vc] 31 rfl)
                replace hB7 := Aside.mk hB7
                obtain ⟨ma3, mc3, e⟩ := owns_form hown3.out
                subst e
                clear hB6 q6 hA6 hM5 hs5 hne hcn y2 y3
                go_wp2_with (at_builtin; refine wpList_append_own _ rfl _ _ 28 rfl w2.heap.size 31 i0 (.agg #[.string ⟨#[]⟩, .slice none 0 0]) 2 40 Tryd.underlying28 hi0.out hz0.out hz1.out hz2.out rfl (by decide) _ _ _ rfl hM7 ⟨w3.heap.size, 0, none⟩ 1 1 [.string l[j].1, .slice V l[j].2.1.length vc] rfl rfl hcn2.out (by simp [Value.oneCell']) (by omega) (by omega) hs7 ?_; intro v5 w5 hown5 hgr5 _; replace hown5 := Aside.mk hown5; replace hgr5 := Aside.mk hgr5)
                go_roundw
                case rel =>
                  have hmj : m.length ≤ j := by rw [hm2.out, List.length_take]; omega
                  refine ⟨j + 1, (m ++ [x]) ++ [l[j]], true, by go_num, rfl, by omega, by rw [List.length_append, List.length_append]; simp; omega, ?_, fun h => Bool.noConfusion h, fun _ => ?_, hB7.out.grown hgr5.out hs7 (fun k hk => own_from hM7 hk)⟩
                  · rw [List.length_append, List.length_append, cellsP_append, cellsP_append, ev.out, hx.out]; exact hown5.out
                  · rw [hsk.out, hm2.out]; simp
                case measure => simp [intOf]; omega
              · rw [decide_eq_false hd] at hC2
                have hno2 : ∀ q (_ : q < l.length), q < j + 1 → ¬ ltM (key x) (key l[q]) := fun q hq h => by
                  by_cases e : q = j
                  · subst e; rw [hx.out]; exact hd
                  · exact hno q hq (by omega)
                replace hno2 := Aside.mk hno2
                replace hC2 := Aside.mk hC2
                replace ev := Aside.mk ev
                have tk := Aside.mk (List.take_succ_eq_append_getElem hjl)
                clear hpf hpt hno hd
                go_wp2_with fail
                go_at_call 12
                refine hC2.out.mono ?_
                rintro e w4 ⟨rfl, hG4⟩
                have z2 := (hG4.below.cell (p := ⟨n1, 0, none⟩) (blk_lt q1)).trans z0
                have z3 := (hG4.below.cell (p := ⟨n1, 1, none⟩) (blk_lt q1)).trans z1
                have hM4 := owns_below hMx hG4.below
                have hB4 := hBy.trans (hG4.below.mono hBy.size)
                have hA4 : Below w4.heap.size w4 (w4.alloc (.cells #[.string l[j].1, .slice V l[j].2.1.length vc] 31)) := (Below.refl _ w4).alloc (Nat.le_refl _) _
                have hM5 := owns_below hM4 hA4
                have hB5 := hB4.trans (hA4.mono hB4.size)
                have hs5 := hB5.size
                have hcn := Aside.mk (cells_new w4 [.string l[j].1, .slice V l[j].2.1.length vc] 31 rfl)
                replace hB5 := Aside.mk hB5
                clear y0 y1 z0 z1 hM4 hB4 hA4 hMx hBy hG4
                go_wp2_with (at_builtin; refine wpList_append_own _ rfl _ _ 28 rfl w2.heap.size 31 i0 (.agg #[.string ⟨#[]⟩, .slice none 0 0]) 2 40 Tryd.underlying28 hi0.out hz0.out hz1.out hz2.out rfl (by decide) _ _ _ rfl hM5 ⟨w4.heap.size, 0, none⟩ 1 1 [.string l[j].1, .slice V l[j].2.1.length vc] rfl rfl hcn.out (by simp [Value.oneCell']) (by omega) (by omega) hs5 ?_; intro v3 w3 hown3 hgr3 _; replace hown3 := Aside.mk hown3; replace hgr3 := Aside.mk hgr3)
                go_roundw
                case rel =>
                  refine ⟨j + 1, m ++ [l[j]], false, by go_num, rfl, by omega, by rw [List.length_append]; simp; omega, by rw [List.length_append, cellsP_append, ev.out]; exact hown3.out, fun _ => ⟨by rw [hm2.out, tk.out], hno2.out⟩, fun h => Bool.noConfusion h, hB5.out.grown hgr3.out hs5 (fun k hk => own_from hM5 hk)⟩
                case measure => simp [intOf]; omega
            · have hins := hpt rfl
              rw [List.drop_eq_getElem_cons hjl] at hins
              have hA2 : Below W1.heap.size W1 (W1.alloc (.cells #[.string l[j].1, .slice V l[j].2.1.length vc] 31)) := (Below.refl _ W1).alloc (Nat.le_refl _) _
              have hM2 := owns_below hMx hA2
              have hB3 := hBy.trans (hA2.mono hBy.size)
              have hs3 := hB3.size
              have hcn := Aside.mk (cells_new W1 [.string l[j].1, .slice V l[j].2.1.length vc] 31 rfl)
              replace hins := Aside.mk hins
              replace hB3 := Aside.mk hB3
              replace ev := Aside.mk ev
              clear hpf hpt hA2 hMx
              go_wp2_with (at_builtin; refine wpList_append_own _ rfl _ _ 28 rfl w2.heap.size 31 i0 (.agg #[.string ⟨#[]⟩, .slice none 0 0]) 2 40 Tryd.underlying28 hi0.out hz0.out hz1.out hz2.out rfl (by decide) _ _ _ rfl hM2 ⟨W1.heap.size, 0, none⟩ 1 1 [.string l[j].1, .slice V l[j].2.1.length vc] rfl rfl hcn.out (by simp [Value.oneCell']) (by omega) (by omega) hs3 ?_; intro v3 w3 hown3 hgr3 _; replace hown3 := Aside.mk hown3; replace hgr3 := Aside.mk hgr3)
              go_roundw
              case rel =>
                refine ⟨j + 1, m ++ [l[j]], true, by go_num, rfl, by omega, by rw [List.length_append]; simp; omega, by rw [List.length_append, cellsP_append, ev.out]; exact hown3.out, fun h => Bool.noConfusion h, fun _ => ?_, hB3.out.grown hgr3.out hs3 (fun k hk => own_from hM2 hk)⟩
                rw [← hins.out]; simp
              case measure => simp [intOf]; omega
          · obtain rfl : j = l.length := by omega
            have fin : ∀ (W' : World) (v' : Value) (m' : List P), m' = ins x l → W'.ownsRow w2.heap.size 31 2 v' m'.length (cellsP m') → Below w2.heap.size w2 W' → Refs w W' v' (ins x l) ∧ Rising ((ins x l).map key) ∧ (∀ z, z ∈ (ins x l).map key ↔ z ∈ L.take (i + 1)) ∧ (ins x l).length ≤ i + 1 ∧ Below w.heap.size w W' := fun W' v' m' e ho hb => by
              subst e
              refine ⟨⟨owns_base ho hs2, fun q hq => ?_⟩, ins_rises x l hr.out ?_, fun z => ?_, by rw [ins_len]; omega, hB2.out.trans (hb.mono hs2)⟩
              · rcases (ins_mem x q l).1 hq with e | hq
                · rw [e, hx.out]; exact g2.out
                · exact hids.out q hq
              · intro h
                have := hasM_iff.2 h
                rw [hx.out] at this
                rw [show key (L[i].1, L[i].2, Value.slice U L[i].2.length uc) = L[i] from rfl] at this
                rw [hp.out] at this
                cases this
              · rw [ins_keys, htk.out, hmem.out, List.mem_append, List.mem_singleton, hx.out]
                exact or_comm
            replace fin := Aside.mk fin
            obtain ⟨ma, mc, e⟩ := owns_form hM
            subst e
            have y0 := (hBx.cell (p := ⟨n, 0, none⟩) hn2).trans e0
            have y1 := (hBx.cell (p := ⟨n, 1, none⟩) hn2).trans e1
            clear e0 e1
            cases p
            · obtain ⟨rfl, hno⟩ := hpf rfl
              have hsk := ins_skip x l l.length (Nat.le_refl _) hno
              rw [List.drop_length, List.take_length] at hsk
              rw [List.take_length] at hM ⊢
              have hAx := (Below.refl _ wr).alloc (Nat.le_refl _) (.cells #[.string L[i].1, .slice U L[i].2.length uc] 31)
              have hMx := owns_below hM hAx
              have hcn := cells_new wr [.string L[i].1, .slice U L[i].2.length uc] 31 rfl
              have hBxx := hBx.trans (hAx.mono hBx.size)
              have hsx : w2.heap.size ≤ (wr.alloc (.cells #[.string L[i].1, .slice U L[i].2.length uc] 31)).heap.size := hBxx.size
              replace hno := Aside.mk hno
              replace hsk := Aside.mk hsk
              replace hcn := Aside.mk hcn
              replace hBxx := Aside.mk hBxx
              clear hpf hpt hM hAx hBx
              go_wp2_with (at_builtin; refine wpList_append_own _ rfl _ _ 28 rfl w2.heap.size 31 i0 (.agg #[.string ⟨#[]⟩, .slice none 0 0]) 2 40 Tryd.underlying28 hi0.out hz0.out hz1.out hz2.out rfl (by decide) _ _ _ rfl hMx ⟨wr.heap.size, 0, none⟩ 1 1 [.string L[i].1, .slice U L[i].2.length uc] rfl rfl hcn.out (by simp [Value.oneCell']) (by omega) (by omega) hsx ?_; intro v3 w3 hown3 hgr3 _; replace hown3 := Aside.mk hown3; replace hgr3 := Aside.mk hgr3)
              go_roundw
              case rel =>
                have hb3 : Below w2.heap.size w2 w3 := hBxx.out.grown hgr3.out hsx (fun k hk => own_from hMx hk)
                obtain ⟨f1, f2, f3, f4, f5⟩ := fin.out w3 v3 (l ++ [x]) hsk.out.symm (by rw [List.length_append, cellsP_append, hx.out]; exact hown3.out) hb3
                exact ⟨i + 1, ins x l, by go_num, by omega, f1, f2, f3, f4, f5⟩
              case measure => simp [intOf]; omega
            · have hins := hpt rfl
              rw [List.drop_length, List.append_nil] at hins
              replace hM := Aside.mk hM
              replace hins := Aside.mk hins
              replace hBx := Aside.mk hBx
              clear hpf hpt
              go_wp2_with fail
              go_roundw
              case rel =>
                obtain ⟨f1, f2, f3, f4, f5⟩ := fin.out wr _ m hins.out hM.out hBx.out
                exact ⟨i + 1, ins x l, by go_num, by omega, f1, f2, f3, f4, f5⟩
              case measure => simp [intOf]; omega
      · go_wp2_with (go_at_call 34; refine hC.out.mono ?_; rintro e w2 ⟨rfl, hG2⟩; replace hG2 := Aside.mk hG2)
        go_roundw
        case rel =>
          refine ⟨i + 1, l, by go_num, by omega, hRW.out.below hG2.out.below, hr.out, fun x => ?_, by omega, hBW.out.trans (hG2.out.below.mono hBW.out.size)⟩
          rw [htk.out, hmem.out, List.mem_append, List.mem_singleton]
          refine ⟨.inl, fun h => h.elim id fun e => ?_⟩
          rw [e, ← hmem.out]
          exact hasM_iff.1 hp.out
        case measure => simp [intOf]; omega
    · obtain rfl : i = L.length := by omega
      rw [List.take_length] at hmem
      replace hR := Aside.mk hR
      replace hr := Aside.mk hr
      replace hmem := Aside.mk hmem
      replace hB := Aside.mk hB
      go_wp2_with fail
      go_ret
      exact ⟨_, _, rfl, hR.out, hr.out, hmem.out, hll, hB.out⟩
end
end Go.Proofs.YtmhpogajklihdaaDoor.C
