/- Ids appended to a new row of none. -/
import Derived.Test.YtmhpogajklihdaaDoorCSmall
import Derived.Laws.OwnMore
namespace Go.Proofs.YtmhpogajklihdaaDoor.C
open Go.RowKit Go.Shelf Go.Lib Go.Sort Go.Proofs.YtmhpogajklihdaaDoorW.PrintWords

theorem app_ids {w : World} {b B : Nat} {u : Value} {ids : List Int} (hb : w.heap[b]? = some (.cells #[] 3 (0, 0))) (hB : B ≤ b) (h : IdsAt w u ids) (hl : ids.length ≤ 1000000) :
    ∃ v W', (Builtin.append_ #[22, 22] 22 #[.slice (some ⟨b, 0, none⟩) 0 0, u]).run Tryd.prog w = .ok v W' ∧ XReg.Ext w W' ∧ IdOwn W' B v ids := by
  obtain ⟨A, cap, rfl, hm, hc⟩ := h
  obtain ⟨i0, hi, hz0, hz1, hz2⟩ := info_parts info3
  have hmax : 1000000 ≤ maxLen := by decide
  have hbl := blk_lt hb
  have h0 : w.ownsRow B 3 1 (.slice (some ⟨b, 0, none⟩) 0 0) 0 [] := ⟨rfl, .inr ⟨b, 0, #[], rfl, hB, hb, Nat.le_refl _, Nat.zero_le _, rfl, rfl⟩⟩
  by_cases hn : 0 < ids.length
  · obtain ⟨b', o', e, _, _⟩ := hc 0 hn
    subst e
    have hnews : ∀ j u, (ids.map (Value.int .i64))[j]? = some u → w.cell? ((⟨b', o', none⟩ : Addr).add j) = some u := fun j u hj => by
      have hj' : j < ids.length := by have := (List.getElem?_eq_some_iff.1 hj).1; simpa using this
      obtain ⟨b2, o2, e, _, hcell⟩ := hc j hj'
      cases e
      rw [List.getElem?_map, List.getElem?_eq_getElem hj'] at hj
      rw [← hj]
      unfold Addr.add
      split
      · rename_i e0; subst e0; exact hcell
      · exact hcell
    have h1 : ∀ u ∈ ids.map (Value.int .i64), u.oneCell' = true := fun u hu => by
      obtain ⟨x, _, rfl⟩ := List.mem_map.1 hu
      rfl
    obtain ⟨v', w', hrun, hown, _⟩ := run_append_own (P := Tryd.prog) w B 22 22 3 i0 (.int .i64 0) 1 8 Tryd.underlying22 hi hz0 hz1 hz2 rfl (by decide) _ 0 [] h0 ⟨b', o', none⟩ ids.length cap (ids.map (Value.int .i64)) (by simp) hnews h1 (by omega) (by omega) (by omega)
    have hg := run_append_grow (P := Tryd.prog) w 22 22 3 i0 (.int .i64 0) Tryd.underlying22 hi hz0 ⟨b, 0, none⟩ 0 0 [] (by simp) (fun j v hj => by simp at hj) ⟨b', o', none⟩ ids.length cap (ids.map (Value.int .i64)) (by simp [hz1]) hnews (by omega) (by omega) (by rw [hz2, nextslicecap_zero (by omega)]; omega)
    rw [hrun] at hg
    injection hg with e1 e2
    refine ⟨v', w', hrun, ?_, ?_⟩
    · rw [e2]; exact (Gr.trans _ _ _ (Gr.drew w) (Gr.alloc _ _)).below
    · have := hown
      rw [Nat.zero_add, List.nil_append] at this
      exact this
  · have e : ids = [] := List.eq_nil_of_length_eq_zero (by omega)
    subst e
    refine ⟨.slice (some ⟨b, 0, none⟩) 0 0, w, ?_, XReg.Ext.refl w, h0⟩
    cases A with
    | none => simp [Builtin.append_, run_underlying Tryd.underlying22, sizeOf, typeInfo, hi, Builtin.lenOf, Builtin.firstCells, storeCells]
    | some a => simp [Builtin.append_, run_underlying Tryd.underlying22, sizeOf, typeInfo, hi, Builtin.lenOf, Builtin.firstCells, storeCells, loadCells, loadCellsFrom]
end Go.Proofs.YtmhpogajklihdaaDoor.C
