/- The law TripleSorts walked. -/
import Derived.Test.YtfgnpplnjgjjkaaDoorSSort
import Derived.Test.YtfgnpplnjgjjkaaDoorXReg
import Derived.Laws.OwnMore
namespace Go.Proofs.YtfgnpplnjgjjkaaDoor.T
open Go.RowKit Go.Shelf Go.Lib Go.Sort Go.Proofs.YtfgnpplnjgjjkaaDoorW.PrintWords Go.Proofs.YtfgnpplnjgjjkaaDoor.K

attribute [local go_sem] XReg.envOf
attribute [local go_sem high] eq23

set_option maxRecDepth 100000 in
theorem less_gr (x y : Tr) (w : World) : Calls Tryd.prog 35 #[ag3 x, ag3 y] w fun e w' => e = .returned (.bool (lessB x.1 x.2.1 x.2.2 y.1 y.2.1 y.2.2)) ∧ Gr w w' := by
  obtain ⟨a0, a1, a2⟩ := x
  obtain ⟨b0, b1, b2⟩ := y
  dsimp only
  have hg : Gr w ((w.alloc (.cells #[.int .i64 a0, .int .i64 a1, .int .i64 a2] 22)).alloc (.cells #[.int .i64 b0, .int .i64 b1, .int .i64 b2] 22)) := Gr.trans _ _ _ (Gr.alloc _ _) (Gr.alloc _ _)
  replace hg := Aside0.mk hg
  by_cases h0 : a0 = b0
  · subst h0
    by_cases h1 : a1 = b1
    · subst h1
      go_enter Tryd.func35, Tryd.ntmps35
      go_wp2_with fail
      go_ret
      exact ⟨by simp [lessB], hg.out⟩
    · have hb : (a1 != b1) = true := bne_iff_ne.2 h1
      go_enter Tryd.func35, Tryd.ntmps35
      go_wp2_with fail
      go_ret
      exact ⟨by simp [lessB, h1], hg.out⟩
  · have hb : (a0 != b0) = true := bne_iff_ne.2 h0
    go_enter Tryd.func35, Tryd.ntmps35
    go_wp2_with fail
    go_ret
    exact ⟨by simp [lessB, h0], hg.out⟩
theorem less_no {x y : Tr} (h : ¬ cmpT x y < 0) : lessB x.1 x.2.1 x.2.2 y.1 y.2.1 y.2.2 = false := by
  obtain ⟨h1, h2, h3⟩ := less_cmp x.1 x.2.1 x.2.2 y.1 y.2.1 y.2.2
  cases hb : lessB x.1 x.2.1 x.2.2 y.1 y.2.1 y.2.2 with
  | false => rfl
  | true =>
    have := h1.1 hb
    unfold cmpT at h
    omega
theorem eqB_iff (x y : Tr) : (x.1 == y.1 && (x.2.1 == y.2.1 && x.2.2 == y.2.2)) = decide (x = y) := by
  rw [Bool.eq_iff_iff]
  simp only [Bool.and_eq_true, beq_iff_eq, decide_eq_true_eq]
  constructor
  · rintro ⟨h1, h2, h3⟩
    exact Prod.ext h1 (Prod.ext h2 h3)
  · rintro rfl
    exact ⟨rfl, rfl, rfl⟩

/-- Triples appended to a new row of none. -/
theorem app_tr {w : World} {b B n₀ : Nat} {u : Value} {zs : List Tr} (hb : w.heap[b]? = some (.cells #[] 23 (0, 0))) (hB : B ≤ b) (h : RT n₀ w u zs) (hl : zs.length ≤ 1000000) :
    ∃ v W', (Builtin.append_ #[27, 27] 27 #[.slice (some ⟨b, 0, none⟩) 0 0, u]).run Tryd.prog w = .ok v W' ∧ Below w.heap.size w W' ∧ W'.ownsRow B 23 3 v zs.length (csT zs) := by
  obtain ⟨A, cap, rfl, hm, hc⟩ := h
  obtain ⟨i0, hi, hz0, hz1, hz2⟩ := info_parts info23
  have hmax : 1000000 ≤ maxLen := by decide
  have hbl := blk_lt hb
  have h0 : w.ownsRow B 23 3 (.slice (some ⟨b, 0, none⟩) 0 0) 0 [] := ⟨rfl, .inr ⟨b, 0, #[], rfl, hB, hb, Nat.le_refl _, Nat.zero_le _, rfl, rfl⟩⟩
  by_cases hn : 0 < zs.length
  · obtain ⟨b', o', e, _⟩ := hc 0 hn
    subst e
    have hnews : ∀ j u, (csT zs)[j]? = some u → w.cell? ((⟨b', o', none⟩ : Addr).add j) = some u := fun j u hj => by
      have hj' : j < (csT zs).length := (List.getElem?_eq_some_iff.1 hj).1
      rw [csT_len] at hj'
      have hd : j / 3 < zs.length := by omega
      obtain ⟨b2, o2, e, _, _, g0, g1, g2⟩ := hc (j / 3) hd
      cases e
      obtain ⟨c0, c1, c2⟩ := csT_at zs (j / 3) hd
      have ha : (⟨b', o', none⟩ : Addr).add j = ⟨b', o' + j, none⟩ := by
        unfold Addr.add
        split
        · rename_i e0; subst e0; rfl
        · rfl
      rw [ha]
      have hm3 : j % 3 = 0 ∨ j % 3 = 1 ∨ j % 3 = 2 := by omega
      rcases hm3 with q | q | q
      · have e2 : j / 3 * 3 = j := by omega
        rw [e2] at c0 g0
        rw [g0, ← c0, hj]
      · have e2 : j / 3 * 3 + 1 = j := by omega
        rw [Nat.add_assoc, e2] at g1
        rw [e2] at c1
        rw [g1, ← c1, hj]
      · have e2 : j / 3 * 3 + 2 = j := by omega
        rw [Nat.add_assoc, e2] at g2
        rw [e2] at c2
        rw [g2, ← c2, hj]
    have h1 : ∀ u ∈ csT zs, u.oneCell' = true := fun u hu => by
      obtain ⟨x, _, hx⟩ := List.mem_flatMap.1 hu
      simp at hx
      rcases hx with rfl | rfl | rfl <;> rfl
    obtain ⟨v', w', hrun, hown, _⟩ := run_append_own (P := Tryd.prog) w B 27 27 23 i0 (.agg #[.int .i64 0, .int .i64 0, .int .i64 0]) 3 24 Tryd.underlying27 hi hz0 hz1 hz2 rfl (by decide) _ 0 [] h0 ⟨b', o', none⟩ zs.length cap (csT zs) (csT_len zs) hnews h1 (by omega) (by omega) (by omega)
    have hg := run_append_grow (P := Tryd.prog) w 27 27 23 i0 (.agg #[.int .i64 0, .int .i64 0, .int .i64 0]) Tryd.underlying27 hi hz0 ⟨b, 0, none⟩ 0 0 [] (by simp) (fun j v hj => by simp at hj) ⟨b', o', none⟩ zs.length cap (csT zs) (by rw [hz1]; exact csT_len zs) hnews (by omega) (by omega) (by rw [hz2, nextslicecap_zero (by omega)]; omega)
    rw [hrun] at hg
    injection hg with e1 e2
    refine ⟨v', w', hrun, ?_, ?_⟩
    · rw [e2]; exact (Gr.trans _ _ _ (Gr.drew w) (Gr.alloc _ _)).below
    · have := hown
      rw [Nat.zero_add, List.nil_append] at this
      exact this
  · have e : zs = [] := List.eq_nil_of_length_eq_zero (by omega)
    subst e
    refine ⟨.slice (some ⟨b, 0, none⟩) 0 0, w, ?_, Below.refl _ w, h0⟩
    cases A with
    | none => simp [Builtin.append_, run_underlying Tryd.underlying27, sizeOf, typeInfo, hi, Builtin.lenOf, Builtin.firstCells, storeCells]
    | some a => simp [Builtin.append_, run_underlying Tryd.underlying27, sizeOf, typeInfo, hi, Builtin.lenOf, Builtin.firstCells, storeCells, loadCells, loadCellsFrom]

theorem wpList_append_run {P : Program} {ops : Array Oper} {rest : List Oper} {o : Oper} {a : Act} {w : World} {Q : Exit → Act → World → Prop} (hgd : o.guard = none) (s x : Operand) (t : TypeId)
    (ho : o.op = .call { callee := .builtin .append, args := #[s, x], argTypes := #[t, t] }) (v u : Value) (hs : a.eval s = v) (hx : a.eval x = u) (v' : Value) (w' : World)
    (hr : (Builtin.append_ #[t, t] o.type #[v, u]).run P w = .ok v' w') (h : wpList P ops Q rest (a.put o.dst v') w') : wpList P ops Q (o :: rest) a w :=
  wpList_plain hgd fun _ hK => by
    unfold Oper.wp execOp
    simp only [ho, resolve, invoke, builtin, Sem.run_bind, Sem.run_pure, Result.andThen_ok, List.map_toArray, List.map_cons, List.map_nil, hs, hx, hr]
    exact hK _ _ h
end Go.Proofs.YtfgnpplnjgjjkaaDoor.T
