/- 'without' and 'Diff' of layer 20. -/
import Derived.Test.YtmhpogajklihdaaDoorCDelete
namespace Go.Proofs.YtmhpogajklihdaaDoor.C
open Go.RowKit Go.Shelf Go.Lib Go.Sort Go.Proofs.YtmhpogajklihdaaDoorW.PrintWords

theorem away_mem {L : List M} {l : List P} {x : M} : x ∈ (away L l).map key ↔ x ∈ l.map key ∧ x ∉ L := by
  unfold away
  constructor
  · intro h
    obtain ⟨p, hp, rfl⟩ := List.mem_map.1 h
    obtain ⟨h1, h2⟩ := List.mem_filter.1 hp
    refine ⟨List.mem_map_of_mem h1, fun q => ?_⟩
    rw [hasM_iff.2 q] at h2
    cases h2
  · rintro ⟨h, hn⟩
    obtain ⟨p, hp, rfl⟩ := List.mem_map.1 h
    refine List.mem_map_of_mem (List.mem_filter.2 ⟨hp, ?_⟩)
    cases e : hasM L (key p) with
    | false => rfl
    | true => exact absurd (hasM_iff.1 e) hn

section
variable {w : World} {v v2 : Value} {K L : List M}

set_option maxHeartbeats 1000000 in
set_option maxRecDepth 100000 in
theorem without_walk (hK : Reads w v K) (fK : Few K) (hL : Reads w v2 L) (fL : Few L) : Calls Tryd.prog 33 #[v, v2] w fun e w' => ∃ r l, e = .returned r ∧ Owns w' w.heap.size 24 r l ∧ Rising (l.map key) ∧ (∀ x, x ∈ l.map key ↔ x ∈ K ∧ x ∉ L) ∧ Below w.heap.size w w' := by
  have hA : Below w.heap.size w (w.alloc (.cells #[v2] 26)) := (Gr.alloc _ _).below
  have p1 := blk_new w #[v2] 26
  have hK0 := Aside.mk hK
  have hC := Aside.mk (csort_walk (hL.below hA) fL)
  obtain ⟨A, cap, rfl, _, _⟩ := hK
  obtain ⟨A2, cap2, rfl, _, _⟩ := hL
  have hn : w.heap.size < (w.alloc (.cells #[.slice A2 L.length cap2] 26)).heap.size := by simp
  go_enter Tryd.func33, Tryd.ntmps33
  go_upto_region 1 with fail
  generalize w.alloc (.cells #[.slice A2 L.length cap2] 26) = W at hA p1 hC hn ⊢
  have c0 := (blk_cell p1 0).trans rfl
  replace hA := Aside.mk hA
  go_wp2_with fail
  go_at_call 16
  refine hC.out.mono ?_
  rintro e w2 ⟨rY, lY, rfl, hOY, hrY, hmY, hBY, hlY⟩
  have hn2 := hn
  obtain ⟨n, hnw⟩ : ∃ n, n = w.heap.size := ⟨_, rfl⟩
  rw [← hnw] at p1 hn hn2 hA ⊢
  replace hnw := Aside.mk hnw
  obtain ⟨aY, cY, rfl⟩ := owns_form hOY.1
  have q1 : w2.heap[n]? = some (.cells #[.slice A2 L.length cap2] 26 (0, 0)) := (hBY.block n hn).trans p1
  have q2 := (blk_cell q1 0).trans rfl
  have q3 := blk_frozen q1
  have hAo := hA.out
  have hOY3 : Owns (w2.setCell ⟨n, 0, none⟩ (.slice aY lY.length cY)) W.heap.size 24 (.slice aY lY.length cY) lY := ⟨owns_move hOY.1 (fun b hb _ _ => Below.heap_setCell _ _ _ _ (by show b ≠ n; omega)), fun p hp => owns_move (hOY.2 p hp) (fun b hb _ _ => Below.heap_setCell _ _ _ _ (by show b ≠ n; omega))⟩
  have hB3 : Below n w (w2.setCell ⟨n, 0, none⟩ (.slice aY lY.length cY)) := (hAo.trans (hBY.mono (by omega))).setCell (Nat.le_refl _) _
  have q4 : (w2.setCell ⟨n, 0, none⟩ (.slice aY lY.length cY)).cell? ⟨n, 0, none⟩ = some (.slice aY lY.length cY) := (blk_cell (blk_set q1 0 _) 0).trans rfl
  have hn3 : n < (w2.setCell ⟨n, 0, none⟩ (.slice aY lY.length cY)).heap.size := blk_lt (blk_set q1 0 _)
  have hLk : Look (w2.setCell ⟨n, 0, none⟩ (.slice aY lY.length cY)) n (lY.map key) := ⟨hn3, ⟨_, q4, hOY3.reads⟩, by have := fL.1; rw [List.length_map]; omega, hrY⟩
  have hK3 := hK0.out.below (hB3.mono (by rw [hnw.out]; exact Nat.le_refl _))
  have hS := Aside.mk (csort_walk hK3 fK)
  replace hLk := Aside.mk hLk
  replace hB3 := Aside.mk hB3
  replace hmY := Aside.mk hmY
  clear hrY hBY hOY hOY3 hK3 q4 p1 hn hn2 hAo
  go_wp2_with fail
  generalize w2.setCell ⟨n, 0, none⟩ (.slice aY lY.length cY) = w3 at hS hLk hB3 hn3 ⊢
  go_at_call 16
  refine hS.out.mono ?_
  rintro e w4 ⟨rX, lX, rfl, hOX, hrX, hmX, hB4, hlX⟩
  have hD := Aside.mk (delete_walk hLk.out hB4 hOX (by have := fK.1; omega))
  obtain ⟨aX, cX, rfl⟩ := owns_form hOX.1
  replace hrX := Aside.mk hrX
  replace hmX := Aside.mk hmX
  clear hOX hB4 hS
  go_wp2_with fail
  go_at_call 49
  refine hD.out.mono ?_
  rintro e w5 ⟨r5, rfl, hO5, hB5⟩
  obtain ⟨a5, c5, rfl⟩ := owns_form hO5.1
  replace hO5 := Aside.mk hO5
  replace hB5 := Aside.mk hB5
  go_wp2_with fail
  go_ret
  have hs3 := hB3.out.size
  refine ⟨_, _, rfl, hO5.out.base (by rw [← hnw.out]; omega), ?_, fun x => ?_, by rw [← hnw.out]; exact hB3.out.trans (hB5.out.mono (by omega))⟩
  · refine hrX.out.sublist ?_
    exact (List.filter_sublist).map key
  · rw [← hmX.out x, ← hmY.out x]
    exact away_mem

set_option maxRecDepth 100000 in
theorem diff_walk (hK : Reads w v K) (fK : Few K) (hL : Reads w v2 L) (fL : Few L) : Calls Tryd.prog 17 #[v, v2] w fun e w' => ∃ r1 r2 l1 l2, e = .returned (.tuple #[r1, r2]) ∧ Owns w' w.heap.size 24 r1 l1 ∧ Rising (l1.map key) ∧ (∀ x, x ∈ l1.map key ↔ x ∈ K ∧ x ∉ L) ∧ Owns w' w.heap.size 24 r2 l2 ∧ Rising (l2.map key) ∧ (∀ x, x ∈ l2.map key ↔ x ∈ L ∧ x ∉ K) ∧ Below w.heap.size w w' := by
  have hA := Aside.mk (without_walk hK fK hL fL)
  have hK0 := Aside.mk hK
  have hL0 := Aside.mk hL
  obtain ⟨A, cap, rfl, _, _⟩ := hK
  obtain ⟨A2, cap2, rfl, _, _⟩ := hL
  go_enter Tryd.func17, Tryd.ntmps17
  go_wp2_with fail
  go_at_call 33
  refine hA.out.mono ?_
  rintro e w1 ⟨r1, l1, rfl, hO1, hr1, hm1, hB1⟩
  have hC := Aside.mk (without_walk (hL0.out.below hB1) fL (hK0.out.below hB1) fK)
  have hO1' := Aside.mk hO1
  replace hr1 := Aside.mk hr1
  replace hm1 := Aside.mk hm1
  obtain ⟨a1, c1, rfl⟩ := owns_form hO1.1
  have hs := hB1.size
  replace hB1 := Aside.mk hB1
  clear hO1
  go_wp2_with fail
  go_at_call 33
  refine hC.out.mono ?_
  rintro e w2 ⟨r2, l2, rfl, hO2, hr2, hm2, hB2⟩
  have hO3 := Aside.mk (hO1'.out.below hB2)
  have hO4 := Aside.mk (hO2.base hs)
  obtain ⟨a2, c2, rfl⟩ := owns_form hO2.1
  have hB3 := Aside.mk (hB1.out.trans (hB2.mono hs))
  replace hr2 := Aside.mk hr2
  replace hm2 := Aside.mk hm2
  clear hO2 hB2 hC hA
  go_wp2_with fail
  go_ret2
  exact ⟨_, _, _, _, rfl, hO3.out, hr1.out, hm1.out, hO4.out, hr2.out, hm2.out, hB3.out⟩
end
end Go.Proofs.YtmhpogajklihdaaDoor.C
