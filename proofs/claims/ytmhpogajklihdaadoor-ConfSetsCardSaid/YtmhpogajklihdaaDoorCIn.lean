/- The closure of 'without', and the library's 'IndexFunc' with it. -/
import Derived.Test.YtmhpogajklihdaaDoorCSearch
namespace Go.Proofs.YtmhpogajklihdaaDoor.C
open Go.RowKit Go.Shelf Go.Lib Go.Sort Go.Proofs.YtmhpogajklihdaaDoorW.PrintWords

section
variable {w : World} {v u : Value} {L : List M} {c : Nat}

/-- The row that the closure looks into. -/
structure Look (w : World) (c : Nat) (L : List M) : Prop where
  lt : c < w.heap.size
  at_ : ∃ v, w.cell? ⟨c, 0, none⟩ = some v ∧ Reads w v L
  few : L.length ≤ 100000
  up : Rising L
theorem Look.below {w w' : World} {c : Nat} {L : List M} (h : Look w c L) (hb : Below w.heap.size w w') : Look w' c L := by
  obtain ⟨v, h1, h2⟩ := h.at_
  exact ⟨Nat.lt_of_lt_of_le h.lt hb.size, ⟨v, (hb.cell (p := ⟨c, 0, none⟩) h.lt).trans h1, h2.below hb⟩, h.few, h.up⟩

set_option maxRecDepth 100000 in
theorem in_walk (h : Look w c L) (x : M) (hx : IdsAt w u x.2) : Calls Tryd.prog 50 #[.agg #[.string x.1, u], .pointer (some ⟨c, 0, none⟩)] w fun e w' => e = .returned (.bool (hasM L x)) ∧ Gr w w' := by
  have hA : Gr w (w.alloc (.cells #[.string x.1, u] 24)) := Gr.alloc _ _
  have p1 := blk_new w #[.string x.1, u] 24
  replace h := h.below hA.below
  replace hx := hx.below hA.below
  obtain ⟨v, hc, hR⟩ := h.at_
  have hS := Aside.mk (search_walk hR h.few h.up x hx)
  obtain ⟨A, cap, rfl, _, _⟩ := hR
  obtain ⟨U, ucap, rfl, _, _⟩ := hx
  have d0 := (blk_cell p1 0).trans rfl
  have d1 := (blk_cell p1 1).trans rfl
  replace hA := Aside.mk hA
  clear h p1
  go_enter Tryd.func50, Tryd.ntmps50
  go_wp2_with (go_at_call 51; refine hS.out.mono ?_; rintro e w2 ⟨⟨i, rfl⟩, hG⟩; replace hG := Aside.mk hG)
  go_ret
  exact ⟨rfl, Gr.trans _ _ _ hA.out hG.out⟩
end
end Go.Proofs.YtmhpogajklihdaaDoor.C
