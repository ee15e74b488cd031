/- 'Sort' of layer 20. -/
import Derived.Test.YtmhpogajklihdaaDoorCCompact
namespace Go.Proofs.YtmhpogajklihdaaDoor.C
open Go.RowKit Go.Shelf Go.Lib Go.Sort Go.Proofs.YtmhpogajklihdaaDoorW.PrintWords

section
variable {w : World} {v : Value} {L : List M}

set_option maxRecDepth 100000 in
theorem csort_walk (h : Reads w v L) (hf : Few L) : Calls Tryd.prog 16 #[v] w fun e w' => ∃ r l, e = .returned r ∧ Owns w' w.heap.size 24 r l ∧ Rising (l.map key) ∧ (∀ x, x ∈ l.map key ↔ x ∈ L) ∧ Below w.heap.size w w' ∧ l.length ≤ L.length := by
  have hC := Aside.mk (copy_walk h hf)
  have hlen := hf.1
  obtain ⟨A, cap, rfl, _, _⟩ := h
  go_enter Tryd.func16, Tryd.ntmps16
  go_wp2_with fail
  go_at_call 14
  refine hC.out.mono ?_
  rintro e w1 ⟨r1, l1, rfl, hO1, hk1, hB1⟩
  have hl1 : l1.length ≤ 1000 := by have := congrArg List.length hk1; simp at this; omega
  have hS := Aside.mk (sort_walk hO1 (by omega))
  obtain ⟨a1, c1, rfl⟩ := owns_form hO1.1
  replace hB1 := Aside.mk hB1
  clear hO1
  go_wp2_with fail
  go_at_call 30
  refine hS.out.mono ?_
  rintro e w2 ⟨rfl, l2, hp, hs, hO2, hB2⟩
  have hD := Aside.mk (compact_walk hO2 (by rw [hp.length_eq]; omega))
  replace hB2 := Aside.mk (hB1.out.trans hB2)
  obtain ⟨hr, hm⟩ := comp_sorted hs
  have hmem : ∀ x, x ∈ (comp l2).map key ↔ x ∈ L := fun x => by rw [hm, ← hk1]; exact (hp.map key).mem_iff
  have hlen2 : (comp l2).length ≤ L.length := by
    have e := congrArg List.length hk1
    rw [List.length_map] at e
    have := comp_len l2 none
    have := hp.length_eq
    unfold comp
    omega
  replace hmem := Aside.mk hmem
  replace hr := Aside.mk hr
  clear hO2 hm hs hp hk1 hS hC
  go_wp2_with fail
  go_at_call 31
  refine hD.out.mono ?_
  rintro e w3 ⟨r3, rfl, hO3, hB3⟩
  obtain ⟨a3, c3, rfl⟩ := owns_form hO3.1
  replace hO3 := Aside.mk hO3
  replace hB3 := Aside.mk hB3
  go_wp2_with fail
  go_ret
  exact ⟨_, _, rfl, hO3.out, hr.out, hmem.out, hB2.out.trans hB3.out, hlen2⟩
end
end Go.Proofs.YtmhpogajklihdaaDoor.C
