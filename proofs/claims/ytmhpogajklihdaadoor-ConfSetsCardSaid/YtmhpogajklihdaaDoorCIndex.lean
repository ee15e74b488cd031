/- The library's 'IndexFunc' with the closure of 'without'. -/
import Derived.Test.YtmhpogajklihdaaDoorCIn
namespace Go.Proofs.YtmhpogajklihdaaDoor.C
open Go.RowKit Go.Shelf Go.Lib Go.Sort Go.Proofs.YtmhpogajklihdaaDoorW.PrintWords

section
variable {w : World} {v : Value} {K L : List M} {c : Nat}

set_option maxHeartbeats 1000000 in
set_option maxRecDepth 100000 in
theorem index_walk (h : Look w c L) (hK : Reads w v K) : Calls Tryd.prog 67 #[v, .func (.func 50) #[] #[.pointer (some ⟨c, 0, none⟩)]] w fun e w' => (∃ i : Int, e = .returned (.int .i64 i) ∧
    ((i = -1 ∧ ∀ x ∈ K, hasM L x = false) ∨ ∃ (j : Nat) (hj : j < K.length), i = j ∧ hasM L K[j] = true ∧ ∀ t (_ : t < K.length), t < j → hasM L K[t] = false)) ∧ Gr w w' := by
  obtain ⟨A, cap, rfl, hm, hc⟩ := hK
  replace hc := Aside.mk hc
  replace h := Aside.mk h
  go_enter Tryd.func67, Tryd.ntmps67
  go_wp2_with fail
  go_loopw [8] (fun a wr => ∃ i : Nat, a = .int .i64 (i : Int) ∧ i ≤ K.length ∧ (∀ t (_ : t < K.length), t < i → hasM L K[t] = false) ∧ Gr w wr) (fun a _ => K.length - (intOf a).toNat)
  case atStart => exact ⟨0, rfl, Nat.zero_le _, fun _ _ h => absurd h (by omega), Gr.refl _⟩
  case round =>
    obtain ⟨i, rfl, hi, h1, hG⟩ := hrel
    by_cases hlt : i < K.length
    · obtain ⟨b, o, u, rfl, hbl, g0, g1, g2⟩ := hc.out i hlt
      have c0 := (hG.below.cell (p := ⟨b, o + i * 2, none⟩) hbl).trans g0
      have c1 := (hG.below.cell (p := ⟨b, o + i * 2 + 1, none⟩) hbl).trans g1
      have hC := Aside.mk (in_walk (h.out.below hG.below) K[i] (g2.below hG.below))
      obtain ⟨U, ucap, rfl, _, _⟩ := g2
      replace h1 := Aside.mk h1
      replace hG := Aside.mk hG
      clear g0 g1
      generalize hp : hasM L K[i] = p at hC
      cases p
      · replace hp := Aside.mk hp
        go_wp2_with (go_at_call 50; refine hC.out.mono ?_; rintro e w2 ⟨rfl, hG2⟩; replace hG2 := Aside.mk hG2)
        go_roundw
        case rel =>
          refine ⟨i + 1, by go_num, by omega, fun t ht h => ?_, Gr.trans _ _ _ hG.out hG2.out⟩
          by_cases e : t = i
          · subst e; exact hp.out
          · exact h1.out t ht (by omega)
        case measure => simp [intOf]; omega
      · replace hp := Aside.mk hp
        go_wp2_with (go_at_call 50; refine hC.out.mono ?_; rintro e w2 ⟨rfl, hG2⟩; replace hG2 := Aside.mk hG2)
        go_ret
        exact ⟨⟨_, rfl, .inr ⟨i, hlt, rfl, hp.out, h1.out⟩⟩, Gr.trans _ _ _ hG.out hG2.out⟩
    · obtain rfl : i = K.length := by omega
      replace h1 := Aside.mk h1
      replace hG := Aside.mk hG
      go_wp2_with fail
      go_ret
      refine ⟨⟨_, rfl, .inl ⟨rfl, fun x hx => ?_⟩⟩, hG.out⟩
      obtain ⟨t, ht, rfl⟩ := List.getElem_of_mem hx
      exact h1.out t ht ht
end
end Go.Proofs.YtmhpogajklihdaaDoor.C
