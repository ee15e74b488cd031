/- The law ConfSets walked. -/
import Derived.Test.YtmhpogajklihdaaDoorCWipe
namespace Go.Proofs.YtmhpogajklihdaaDoor.C
open Go.RowKit Go.Shelf Go.Lib Go.Sort Go.Proofs.YtmhpogajklihdaaDoorW.PrintWords

theorem cellsP_app (a b : List P) : cellsP (a ++ b) = cellsP a ++ cellsP b := by simp [cellsP]
theorem cellsP_one : ∀ (l : List P), ∀ u ∈ cellsP l, (∀ p ∈ l, ∃ A n c, p.2.2 = .slice A n c) → u.oneCell' = true
  | [], u, h, _ => by simp [cellsP] at h
  | p :: l, u, h, hf => by
    have e : cellsP (p :: l) = .string p.1 :: p.2.2 :: cellsP l := rfl
    rw [e] at h
    rcases List.mem_cons.1 h with rfl | h
    · rfl
    · rcases List.mem_cons.1 h with rfl | h
      · obtain ⟨A, n, c, e⟩ := hf p (by simp)
        rw [e]; rfl
      · exact cellsP_one l u h (fun q hq => hf q (by simp [hq]))

/-- Matches appended to matches. -/
theorem app_two {W : World} {B B2 : Nat} {r r2 : Value} {l l2 : List P} (h : Owns W B 24 r l) (h2 : Owns W B2 24 r2 l2) (hBB : B2 ≤ B) (hBW : B ≤ W.heap.size) (hl : l.length ≤ 1000) (hl2 : l2.length ≤ 1000) :
    ∃ v' W', (Builtin.append_ #[26, 26] 26 #[r, r2]).run Tryd.prog W = .ok v' W' ∧ Owns W' B2 24 v' (l ++ l2) ∧ Below B W W' := by
  obtain ⟨i0, hi, hz0, hz1, hz2⟩ := info_parts info24
  have hmax : 1000000 ≤ maxLen := by decide
  by_cases hn : 0 < l2.length
  · obtain ⟨g2, cap2, cur2, rfl, _, hg2, hnc2, _, hcs2, htk2⟩ := owns_open h2.1 hn
    have hnews : ∀ j u, (cellsP l2)[j]? = some u → W.cell? ((⟨g2, 0, none⟩ : Addr).add j) = some u := fun j u hj => by
      have hj' := (List.getElem?_eq_some_iff.1 hj).1
      rw [cellsP_len] at hj'
      rw [show (⟨g2, 0, none⟩ : Addr).add j = ⟨g2, j, none⟩ from by
        unfold Addr.add
        split
        · rename_i e; subst e; rfl
        · simp, h2.1.cellAt j hj']
      exact hj
    have h1 : ∀ u ∈ cellsP l2, u.oneCell' = true := fun u hu => cellsP_one l2 u hu fun p hp => by
      obtain ⟨A, c, e⟩ := owns_form (h2.2 p hp)
      exact ⟨_, _, _, e⟩
    obtain ⟨v', w', hrun, hown, hgrow⟩ := run_append_own (P := Tryd.prog) W B 26 26 24 i0 (.agg #[.string ⟨#[]⟩, .slice none 0 0]) 2 40 Tryd.underlying26 hi hz0 hz1 hz2 rfl (by decide) _ l.length (cellsP l) h.1 ⟨g2, 0, none⟩ l2.length cap2 (cellsP l2) (by rw [cellsP_len]) hnews h1 (by omega) (by omega) (by omega)
    refine ⟨v', w', hrun, ⟨?_, fun p hp => ?_⟩, ?_⟩
    · rw [List.length_append, cellsP_app]; exact owns_base hown hBB
    · rcases List.mem_append.1 hp with q | q
      · exact owns_base ((h.2 p q).far h.1 (by decide) hgrow.1) hBB
      · exact (h2.2 p q).far h.1 (by decide) hgrow.1
    · exact (Below.refl B W).grown hgrow.1 hBW (fun k hk => own_from h.1 hk)
  · have e : l2 = [] := List.eq_nil_of_length_eq_zero (by omega)
    subst e
    obtain ⟨a2, c2, rfl⟩ := owns_form h2.1
    refine ⟨r, W, ?_, by rw [List.append_nil]; exact h.base hBB, Below.refl _ _⟩
    rcases h.1.2 with ⟨rfl, _⟩ | ⟨g, cap, cur, rfl, _, hg, hnc, hcm, _⟩
    · cases a2 <;> simp [Builtin.append_, run_underlying Tryd.underlying26, sizeOf, typeInfo, hi, Builtin.lenOf, Builtin.firstCells, loadCells, loadCellsFrom]
    · cases a2 <;> simp [Builtin.append_, run_underlying Tryd.underlying26, sizeOf, typeInfo, hi, Builtin.lenOf, Builtin.firstCells, storeCells, loadCells, loadCellsFrom, hnc]

/-- An append whose run is known. -/
theorem wpList_append_run {P : Program} {ops : Array Oper} {rest : List Oper} {o : Oper} {a : Act} {w : World} {Q : Exit → Act → World → Prop} (hgd : o.guard = none) (s x : Operand) (t : TypeId)
    (ho : o.op = .call { callee := .builtin .append, args := #[s, x], argTypes := #[t, t] }) (v u : Value) (hs : a.eval s = v) (hx : a.eval x = u) (v' : Value) (w' : World)
    (hr : (Builtin.append_ #[t, t] o.type #[v, u]).run P w = .ok v' w') (h : wpList P ops Q rest (a.put o.dst v') w') : wpList P ops Q (o :: rest) a w :=
  wpList_plain hgd fun _ hK => by
    unfold Oper.wp execOp
    simp only [ho, resolve, invoke, builtin, Sem.run_bind, Sem.run_pure, Result.andThen_ok, List.map_toArray, List.map_cons, List.map_nil, hs, hx, hr]
    exact hK _ _ h

section
variable {w : World} {v v2 : Value} {K L : List M}

set_option maxHeartbeats 8000000 in
set_option maxRecDepth 100000 in
theorem sets_yes (hK : Reads w v K) (hL : Reads w v2 L) (hsK : smallB K = true) (hsL : smallB L = true) (hE : Tab w) : Calls Tryd.prog 6 #[v, v2] w fun e w' => e = .returned (.bool true) ∧ Below w.heap.size w w' := by
  have hK0 := Aside.mk hK
  have hL0 := Aside.mk hL
  have hS := small_walk hK
  rw [hsK] at hS
  replace hS := Aside.mk hS
  obtain ⟨A, cap, rfl, _, _⟩ := hK
  obtain ⟨A2, cap2, rfl, _, _⟩ := hL
  replace hE := Aside.mk hE
  have fK := Aside.mk (small_few hsK)
  have fL := Aside.mk (small_few hsL)
  have nK : K.length ≤ 40 := by unfold smallB at hsK; simp at hsK; omega
  have nL : L.length ≤ 40 := by unfold smallB at hsL; simp at hsL; omega
  obtain ⟨i0, hi, hz0, hz1, hz2⟩ := info_parts info24
  replace hi := Aside.mk hi
  replace hz0 := Aside.mk hz0
  replace hz1 := Aside.mk hz1
  replace hz2 := Aside.mk hz2
  have hmax : 1000000 ≤ maxLen := by decide
  go_enter Tryd.func6, Tryd.ntmps6
  go_wp2_with fail
  go_at_call 9
  refine hS.out.mono ?_
  rintro e w1 ⟨rfl, hG1⟩
  have hS2 := small_walk (hL0.out.below hG1.below)
  rw [hsL] at hS2
  replace hS2 := Aside.mk hS2
  have hB1 := Aside.mk hG1.below
  clear hG1 hS
  go_wp2_with fail
  go_at_call 9
  refine hS2.out.mono ?_
  rintro e w2 ⟨rfl, hG2⟩
  have hB2 := hB1.out.trans (hG2.below.mono hB1.out.size)
  have hD := Aside.mk (diff_walk (hK0.out.below hB2) fK.out (hL0.out.below hB2) fL.out)
  have hs2 := hB2.size
  replace hB2 := Aside.mk hB2
  clear hG2 hS2 hB1
  go_wp2_with fail
  go_at_call 17
  refine hD.out.mono ?_
  rintro e w3 ⟨r1, r2, l1, l2, rfl, hO1, hr1, hm1, hO2, hr2, hm2, hb3⟩
  obtain ⟨a1, c1, rfl⟩ := owns_form hO1.1
  obtain ⟨a2, c2, rfl⟩ := owns_form hO2.1
  have hf1 := few_sub fK.out hr1 (fun x hx => ((hm1 x).1 hx).1)
  have hf2 := few_sub fL.out hr2 (fun x hx => ((hm2 x).1 hx).1)
  have hn2 : l2.length ≤ 40 := by
    have := nodup_le (rising_nodup hr2) (fun x hx => ((hm2 x).1 hx).1)
    rw [List.length_map] at this
    omega
  have hB3 := hB2.out.trans (hb3.mono hs2)
  have hD2 := Aside.mk (diff_walk (hK0.out.below hB3) fK.out hO1.reads hf1)
  have hs3 := hB3.size
  have hRg := Aside.mk hO1.reads
  replace hO2 := Aside.mk hO2
  replace hB3 := Aside.mk hB3
  replace hm1 := Aside.mk hm1
  replace hm2 := Aside.mk hm2
  have hz23 := hb3.size
  clear hO1 hr1 hr2 hb3 hD hB2
  go_wp2_with fail
  go_at_call 17
  refine hD2.out.mono ?_
  rintro e w4 ⟨r3, r4, l3, l4, rfl, hO3, hr3, hm3, hO4, hr4, hm4, hb4⟩
  obtain ⟨a3, c3, rfl⟩ := owns_form hO3.1
  obtain ⟨a4, c4, rfl⟩ := owns_form hO4.1
  have hf3 := few_sub fK.out hr3 (fun x hx => ((hm3 x).1 hx).1)
  have hn3 : l3.length ≤ 40 := by
    have := nodup_le (rising_nodup hr3) (fun x hx => ((hm3 x).1 hx).1)
    rw [List.length_map] at this
    omega
  have hB4 := hB3.out.trans (hb4.mono hs3)
  have hC := Aside.mk (copy_walk hO3.reads hf3)
  have hs4 := hB4.size
  replace hO2 := Aside.mk (hO2.out.below hb4)
  replace hRg := Aside.mk (hRg.out.below hb4)
  replace hB4 := Aside.mk hB4
  replace hm3 := Aside.mk hm3
  replace hf3 := Aside.mk hf3
  have hz34 := hb4.size
  clear hO3 hr3 hO4 hr4 hm4 hb4 hD2 hB3
  go_wp2_with fail
  go_at_call 14
  refine hC.out.mono ?_
  rintro e w5 ⟨r5, l5, rfl, hO5, hk5, hb5⟩
  obtain ⟨a5, c5, rfl⟩ := owns_form hO5.1
  have hn5 : l5.length = l3.length := by rw [← List.length_map (f := key), hk5, List.length_map]
  have hlow5 := hb5
  have h24 : w2.heap.size ≤ w4.heap.size := by omega
  obtain ⟨v6, w6, hrun, hO6, hb6⟩ := app_two hO5 (hO2.out.below hb5) h24 hb5.size (by omega) (by omega)
  have hlow6 := hlow5.trans hb6
  obtain ⟨a6, c6, rfl⟩ := owns_form hO6.1
  have hf6 : Few ((l5 ++ l2).map key) := by
    rw [List.map_append, hk5]
    refine ⟨by rw [List.length_append, List.length_map, List.length_map]; omega, fun m hm => ?_⟩
    rcases List.mem_append.1 hm with q | q
    · exact hf3.out.2 m q
    · exact hf2.2 m q
  have hm6 := Aside.mk (fun x => show x ∈ (l5 ++ l2).map key ↔ x ∈ l3.map key ∨ x ∈ l2.map key by rw [List.map_append, hk5, List.mem_append])
  have hC6 := csort_walk hO6.reads hf6
  rw [show (l5 ++ l2).length = l5.length + l2.length from List.length_append] at hC6
  replace hC6 := Aside.mk hC6
  have hs6 := hlow6.size
  replace hlow6 := Aside.mk hlow6
  have hcame := Aside.mk hO2.out.reads
  replace hrun := Aside.mk hrun
  clear hO6 hf6 hb6 hlow5 hO5 hk5 hb5 hC hO2 hn5
  go_wp2_with (at_builtin; refine wpList_append_run rfl _ _ 26 rfl _ _ rfl rfl _ _ hrun.out ?_)
  go_at_call 16
  refine hC6.out.mono ?_
  rintro e w7 ⟨r7, l7, rfl, hO7, hr7, hm7, hb7, _⟩
  obtain ⟨a7, c7, rfl⟩ := owns_form hO7.1
  have hlow7 := hlow6.out.trans (hb7.mono hs6)
  have hS7 := hO7.reads
  have hC7 := Aside.mk (csort_walk (hL0.out.below (hB4.out.trans (hlow7.mono hs4))) fL.out)
  have hs7 := hlow7.size
  replace hlow7 := Aside.mk hlow7
  replace hS7 := Aside.mk hS7
  replace hr7 := Aside.mk hr7
  replace hm7 := Aside.mk hm7
  clear hC6 hO7 hb7 hlow6 hrun
  go_wp2_with fail
  go_at_call 16
  refine hC7.out.mono ?_
  rintro e w8 ⟨r8, l8, rfl, hO8, hr8, hm8, hb8, _⟩
  obtain ⟨a8, c8, rfl⟩ := owns_form hO8.1
  have hlow8 := hlow7.out.trans (hb8.mono hs7)
  have heq : l7.map key = l8.map key := rising_eq hr7.out hr8 fun x => by
    rw [hm7.out, hm6.out, hm3.out, hm1.out, hm2.out, hm8]
    constructor
    · rintro (⟨h1, h2⟩ | ⟨h1, h2⟩)
      · exact Classical.byContradiction fun q => h2 ⟨h1, q⟩
      · exact h1
    · intro h
      by_cases q : x ∈ K
      · exact .inl ⟨q, fun z => z.2 h⟩
      · exact .inr ⟨h, q⟩
  have hC8 := same_walk (hS7.out.below hb8) hO8.reads
  rw [decide_eq_true heq] at hC8
  have hs8 := hlow8.size
  replace hlow8 := Aside.mk hlow8
  replace hC8 := Aside.mk hC8
  clear hC7 hO8 hr8 hm8 hb8 heq hlow7 hS7
  go_wp2_with fail
  go_at_call 20
  refine hC8.out.mono ?_
  rintro e w9 ⟨rfl, hG9⟩
  have hlow9 := Aside.mk (hlow8.out.trans (hG9.below.mono hs8))
  obtain ⟨a1', c1', e1, hx1, hg⟩ := hRg.out
  simp only [Value.slice.injEq, List.length_map] at e1
  obtain ⟨rfl, _, rfl⟩ := e1
  obtain ⟨a2', c2', e2, hx2, hc⟩ := hcame.out
  simp only [Value.slice.injEq, List.length_map] at e2
  obtain ⟨rfl, _, rfl⟩ := e2
  rw [List.length_map] at hx1 hx2
  replace hg := Aside.mk hg
  replace hc := Aside.mk hc
  clear hC8 hG9 hlow8 hRg hcame
  go_wp2_with fail
  go_loopw [49] (fun a wr => ∃ i : Nat, a = .int .i64 (i : Int) ∧ i ≤ l1.length ∧ Below w4.heap.size w4 wr) (fun a _ => l1.length - (intOf a).toNat)
  case atStart => exact ⟨0, rfl, Nat.zero_le _, hlow9.out⟩
  case round =>
    clear hlow9
    obtain ⟨i, rfl, hi, hlr⟩ := hrel
    by_cases hlt : i < l1.length
    · obtain ⟨b, o, u, rfl, hbl, g0, g1, g2⟩ := hg.out i (by rw [List.length_map]; exact hlt)
      rw [List.getElem_map] at g0 g2
      obtain ⟨U, uc, rfl, _, _⟩ := id g2
      have x0 := (hlr.cell (p := ⟨b, o + i * 2, none⟩) hbl).trans g0
      have x1 := (hlr.cell (p := ⟨b, o + i * 2 + 1, none⟩) hbl).trans g1
      have hA1 := hlr.alloc hlr.size (.cells #[.string l1[i].1, .slice U l1[i].2.1.length uc] 24)
      have p1 := blk_new wr #[.string l1[i].1, .slice U l1[i].2.1.length uc] 24
      have hmi := (hm1.out (key l1[i])).1 (List.mem_map_of_mem (List.getElem_mem hlt))
      replace hmi := Aside.mk hmi
      have hgi := g2.below hA1
      clear g0 g1 g2
      go_upto_region 11 with fail
      generalize wr.alloc (.cells #[.string l1[i].1, .slice U l1[i].2.1.length uc] 24) = W at hA1 p1 hgi ⊢
      clear x0 x1
      generalize wr.heap.size = nb at p1 ⊢
      clear hlr
      replace hA1 := Aside.mk hA1
      replace hgi := Aside.mk hgi
      replace p1 := Aside.mk p1
      go_wp2_with fail
      go_loopw [55] (fun a wx => ∃ k : Nat, a = .int .i64 (k : Int) ∧ k ≤ l2.length ∧ Below W.heap.size W wx) (fun a _ => l2.length - (intOf a).toNat)
      case atStart => exact ⟨0, rfl, Nat.zero_le _, Below.refl _ _⟩
      case round =>
        obtain ⟨k, rfl, hk, hlx⟩ := hrel
        by_cases hlt2 : k < l2.length
        · obtain ⟨b2, o2, u2, rfl, hbl2, g0, g1, g2⟩ := hc.out k (by rw [List.length_map]; exact hlt2)
          rw [List.getElem_map] at g0 g2
          obtain ⟨U2, uc2, rfl, _, _⟩ := id g2
          have hl4 := hA1.out.trans (hlx.mono hA1.out.size)
          have x0 := (hl4.cell (p := ⟨b2, o2 + k * 2, none⟩) hbl2).trans g0
          have x1 := (hl4.cell (p := ⟨b2, o2 + k * 2 + 1, none⟩) hbl2).trans g1
          have hA2 := (Below.refl wr.heap.size wr).alloc (Nat.le_refl _) (.cells #[.string l2[k].1, .slice U2 l2[k].2.1.length uc2] 24)
          have p2 := blk_new wr #[.string l2[k].1, .slice U2 l2[k].2.1.length uc2] 24
          have d1 := (blk_cell p2 0).trans rfl
          have d2 := (blk_cell p2 1).trans rfl
          have hlx2 := hlx.trans (hA2.mono hlx.size)
          have d3 := (hlx2.cell (p := ⟨nb, 0, none⟩) (blk_lt p1.out)).trans ((blk_cell p1.out 0).trans rfl)
          have d4 := (hlx2.cell (p := ⟨nb, 1, none⟩) (blk_lt p1.out)).trans ((blk_cell p1.out 1).trans rfl)
          have hC := compare_walk (key l1[i]) (key l2[k]) (hgi.out.below hlx2) ((g2.below hl4).below hA2)
          have hmk := (hm2.out (key l2[k])).1 (List.mem_map_of_mem (List.getElem_mem hlt2))
          have hne : cmpM (key l1[i]) (key l2[k]) ≠ 0 := fun q => hmk.2 (by rw [← cmpM_zero q]; exact hmi.out.1)
          generalize cmpM (key l1[i]) (key l2[k]) = c at hC hne
          have hne2 : (c == 0) = false := by simpa using hne
          have hlx3 := Aside.mk hlx2
          have hsx := hlx2.size
          replace hC := Aside.mk hC
          clear g0 g1 g2 hl4 hA2 p2 hlx2 hmk hne hlx
          go_wp2_with (go_at_call 13; refine hC.out.mono ?_; rintro e w11 ⟨rfl, hG⟩; replace hG := Aside.mk hG)
          go_roundw
          case rel => exact ⟨k + 1, by go_num, by omega, hlx3.out.trans (hG.out.below.mono hsx)⟩
          case measure => simp [intOf]; omega
        · replace hlx := Aside.mk hlx
          go_wp2_with fail
          go_roundw
          case rel => exact ⟨i + 1, by go_num, by omega, hA1.out.trans (hlx.out.mono hA1.out.size)⟩
          case measure => simp [intOf]; omega
    · have hBr := hB4.out.trans (hlr.mono hs4)
      have hC := Aside.mk (csort_walk (hK0.out.below hBr) fK.out)
      have hsr := hBr.size
      replace hBr := Aside.mk hBr
      clear hlr
      go_wp2_with fail
      go_at_call 16
      refine hC.out.mono ?_
      rintro e w12 ⟨r9, l9, rfl, hO9, hr9, hm9, hb9, _⟩
      obtain ⟨a9, c9, rfl⟩ := owns_form hO9.1
      have hB12 := hBr.out.trans (hb9.mono hsr)
      have hf9 := few_sub fK.out hr9 (fun x hx => (hm9 x).1 hx)
      have hD9 := Aside.mk (diff_walk (hK0.out.below hB12) fK.out hO9.reads hf9)
      have hs12 := hB12.size
      replace hB12 := Aside.mk hB12
      replace hm9 := Aside.mk hm9
      clear hO9 hr9 hb9 hf9 hC hBr
      go_wp2_with fail
      go_at_call 17
      refine hD9.out.mono ?_
      rintro e w13 ⟨r10, r11, l10, l11, rfl, hO10, _, hm10, hO11, _, hm11, hb13⟩
      have e10 : l10 = [] := List.map_eq_nil_iff.1 (rising_nil fun x hx => ((hm10 x).1 hx).2 ((hm9.out x).2 ((hm10 x).1 hx).1))
      have e11 : l11 = [] := List.map_eq_nil_iff.1 (rising_nil fun x hx => ((hm11 x).1 hx).2 ((hm9.out x).1 ((hm11 x).1 hx).1))
      obtain ⟨a10, c10, rfl⟩ := owns_form hO10.1
      obtain ⟨a11, c11, rfl⟩ := owns_form hO11.1
      have hB13 := Aside.mk (hB12.out.trans (hb13.mono hs12))
      subst e10 e11
      clear hO10 hO11 hm10 hm11 hb13 hD9
      go_wp2_with (go_at_call 10; refine (awake_walk (hE.out.below hB13.out)).mono ?_; rintro e w14 ⟨rfl, hb⟩; replace hb := Aside.mk hb)
      go_ret
      exact ⟨rfl, hB13.out.trans (hb.out.mono hB13.out.size)⟩

set_option maxRecDepth 100000 in
theorem sets_walk (hK : Reads w v K) (hL : Reads w v2 L) (hE : Tab w) : Calls Tryd.prog 6 #[v, v2] w fun e w' => e = .returned (.bool true) ∧ Below w.heap.size w w' := by
  cases hsK : smallB K with
  | false =>
    have hS := small_walk hK
    rw [hsK] at hS
    replace hS := Aside.mk hS
    obtain ⟨A, cap, rfl, _, _⟩ := hK
    obtain ⟨A2, cap2, rfl, _, _⟩ := hL
    replace hE := Aside.mk hE
    go_enter Tryd.func6, Tryd.ntmps6
    go_wp2_with (first | (go_at_call 9; refine hS.out.mono ?_; rintro e w1 ⟨rfl, hG⟩; replace hG := Aside.mk hG) | (go_at_call 10; refine (awake_walk (hE.out.below hG.out.below)).mono ?_; rintro e w2 ⟨rfl, hb⟩; replace hb := Aside.mk hb))
    go_ret
    exact ⟨rfl, hG.out.below.trans (hb.out.mono hG.out.below.size)⟩
  | true =>
    cases hsL : smallB L with
    | true => exact sets_yes hK hL hsK hsL hE
    | false =>
      have hS := small_walk hK
      rw [hsK] at hS
      replace hS := Aside.mk hS
      have hL0 := Aside.mk hL
      obtain ⟨A, cap, rfl, _, _⟩ := hK
      obtain ⟨A2, cap2, rfl, _, _⟩ := hL
      replace hE := Aside.mk hE
      go_enter Tryd.func6, Tryd.ntmps6
      go_wp2_with fail
      go_at_call 9
      refine hS.out.mono ?_
      rintro e w1 ⟨rfl, hG1⟩
      have hS2 := small_walk (hL0.out.below hG1.below)
      rw [hsL] at hS2
      replace hS2 := Aside.mk hS2
      have hB1 := Aside.mk hG1.below
      clear hG1 hS
      go_wp2_with fail
      go_at_call 9
      refine hS2.out.mono ?_
      rintro e w2 ⟨rfl, hG2⟩
      have hB2 := Aside.mk (hB1.out.trans (hG2.below.mono hB1.out.size))
      clear hG2 hS2
      go_wp2_with (go_at_call 10; refine (awake_walk (hE.out.below hB2.out)).mono ?_; rintro e w3 ⟨rfl, hb⟩; replace hb := Aside.mk hb)
      go_ret
      exact ⟨rfl, hB2.out.trans (hb.out.mono hB2.out.size)⟩
end
end Go.Proofs.YtmhpogajklihdaaDoor.C
