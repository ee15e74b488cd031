/- 'small' of the laws. -/
import Derived.Test.YtmhpogajklihdaaDoorCSame
namespace Go.Proofs.YtmhpogajklihdaaDoor.C
open Go.RowKit Go.Shelf Go.Lib Go.Sort Go.Proofs.YtmhpogajklihdaaDoorW.PrintWords

/-- A match of few ids and a short rule. -/
def tiny (m : M) : Bool := !(decide (20 < m.2.length) || decide (60 < m.1.size))
def smallB (L : List M) : Bool := L.all tiny && decide (L.length ≤ 40)
theorem small_few {L : List M} (h : smallB L = true) : Few L := by
  unfold smallB at h
  rw [Bool.and_eq_true, List.all_eq_true, decide_eq_true_eq] at h
  refine ⟨by omega, fun m hm => ?_⟩
  have := h.1 m hm
  unfold tiny at this
  simp at this
  omega

section
variable {w : World} {v : Value} {L : List M}

set_option maxHeartbeats 1000000 in
set_option maxRecDepth 100000 in
theorem small_walk (hL : Reads w v L) : Calls Tryd.prog 9 #[v] w fun e w' => e = .returned (.bool (smallB L)) ∧ Gr w w' := by
  obtain ⟨A, cap, rfl, hm, hc⟩ := hL
  replace hc := Aside.mk hc
  go_enter Tryd.func9, Tryd.ntmps9
  go_wp2_with fail
  go_loopw [7] (fun a wr => ∃ i : Nat, a = .int .i64 (i : Int) ∧ i ≤ L.length ∧ (∀ t (_ : t < L.length), t < i → tiny L[t] = true) ∧ Gr w wr) (fun a _ => L.length - (intOf a).toNat)
  case atStart => exact ⟨0, rfl, Nat.zero_le _, fun _ _ h => absurd h (by omega), Gr.refl _⟩
  case round =>
    obtain ⟨i, rfl, hi, h1, hG⟩ := hrel
    by_cases hlt : i < L.length
    · obtain ⟨b, o, u, rfl, hbl, g0, g1, g2⟩ := hc.out i hlt
      have x0 := (hG.below.cell (p := ⟨b, o + i * 2, none⟩) hbl).trans g0
      have x1 := (hG.below.cell (p := ⟨b, o + i * 2 + 1, none⟩) hbl).trans g1
      obtain ⟨U, uc, rfl, _, _⟩ := g2
      have hA1 := Aside.mk (show Gr w (wr.alloc (.cells #[.string L[i].1, .slice U L[i].2.length uc] 24)) from Gr.trans _ _ _ hG (Gr.alloc _ _))
      have p1 := blk_new wr #[.string L[i].1, .slice U L[i].2.length uc] 24
      have d0 := (blk_cell p1 0).trans rfl
      have d1 := (blk_cell p1 1).trans rfl
      replace h1 := Aside.mk h1
      clear hG g0 g1 p1
      by_cases ht : tiny L[i] = true
      · have ht2 : ¬ 20 < L[i].2.length ∧ ¬ 60 < L[i].1.size := by
          unfold tiny at ht; simp at ht; omega
        replace ht := Aside.mk ht
        obtain ⟨t1, t2⟩ := ht2
        have t1' : ¬ (20 : Int) < L[i].2.length := by omega
        have t2' : ¬ (60 : Int) < L[i].1.size := by omega
        go_wp2_with fail
        go_roundw
        case rel =>
          refine ⟨i + 1, by go_num, by omega, fun t ht2 h => ?_, hA1.out⟩
          by_cases e : t = i
          · subst e; exact ht.out
          · exact h1.out t ht2 (by omega)
        case measure => simp [intOf]; omega
      · have hs : smallB L = false := by
          unfold smallB
          rw [Bool.and_eq_false_iff]
          left
          rw [List.all_eq_false]
          exact ⟨L[i], List.getElem_mem hlt, ht⟩
        have ht2 : 20 < L[i].2.length ∨ 60 < L[i].1.size := by
          unfold tiny at ht; simp at ht; omega
        replace hs := Aside.mk hs
        clear ht
        by_cases t1 : 20 < L[i].2.length
        · have t1' : (20 : Int) < L[i].2.length := by omega
          go_wp2_with fail
          go_ret
          exact ⟨congrArg (fun q => Ending.returned (.bool q)) hs.out.symm, hA1.out⟩
        · have t1' : ¬ (20 : Int) < L[i].2.length := by omega
          have t2' : (60 : Int) < L[i].1.size := by omega
          go_wp2_with fail
          go_ret
          exact ⟨congrArg (fun q => Ending.returned (.bool q)) hs.out.symm, hA1.out⟩
    · obtain rfl : i = L.length := by omega
      have hs : smallB L = decide (L.length ≤ 40) := by
        unfold smallB
        rw [List.all_eq_true.2 (fun m hm => by obtain ⟨t, ht, rfl⟩ := List.getElem_of_mem hm; exact h1 t ht ht)]
        rfl
      replace hs := Aside.mk hs
      replace hG := Aside.mk hG
      clear h1
      go_wp2_with fail
      go_ret
      refine ⟨?_, hG.out⟩
      rw [hs.out]
      simp
      omega
end
end Go.Proofs.YtmhpogajklihdaaDoor.C
