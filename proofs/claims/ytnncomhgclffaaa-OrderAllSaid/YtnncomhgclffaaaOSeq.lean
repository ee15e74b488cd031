/- All orders: the iterator's contract. -/
import Derived.Test.YtnncomhgclffaaaONext
import Derived.Test.YtnncomhgclffaaaORef
import Derived.Sort.LoopGhostIn
import Derived.Shelf.Abstract
import Derived.WalkKit
import Derived.OwnWalkIn
import Derived.TacticsInMore
import Derived.LoopNIn
import Derived.LoopIn
import Derived.Maps.AppendAt
import Derived.Outline
namespace Go.Proofs.Ytnncomhgclffaaa.O
open Go.RowKit Go.Shelf Go.OIter Go.Proofs.YtnncomhgclffaaaW.PrintWords Go.Proofs.Ytnncomhgclffaaa.POrderAll

attribute [local go_sem] Oper.semAt_some

set_option maxRecDepth 100000 in
set_option maxHeartbeats 2000000 in
theorem none_iter (m : Nat) (hm : 1 ≤ m) (Bn : Nat) (v : Int) (c : Int) (hc : order_Count.f 0 v = some (0, c)) (hc0 : c ≠ 0) (k : Nat) (w : World) (hB : Boxed w Bn 3 (.int .i64 v)) :
    Iter Fence.wide m Try.prog 97 #[.pointer (some ⟨Bn, 0, none⟩)] [] k 3 w := fun l J Jx W hW hJ hY h0 => by
  have c0 := ((hW.cell (p := ⟨Bn, 0, none⟩) hB.lt).trans hB.cell)
  have hC := Aside0.mk (order_Count.calls 0 v 0 c W hc)
  have hcb : (c != 0) = true := bne_iff_ne.2 hc0
  have hJd := Aside0.mk (fun q => hJ [] W (W.drewN q) h0 ⟨rfl, rfl, rfl, Nat.le_refl _, fun _ _ => rfl⟩)
  clear hY h0 hJ hW hB hc hc0
  refine callsIn_of_wp Try.func97 rfl trivial ?_ rfl
  simp only [Try.ntmps97, List.size_toArray, List.length_cons, List.length_nil, Nat.reduceAdd, Nat.reduceSub, Array.replicate_succ, Array.replicate_zero, List.push_toArray, List.append_toArray, List.nil_append, List.cons_append]
  gi_wp2_with (refine ⟨trivial, ?_⟩; gi_at_call 58; refine (callsIn_wide.2 hC.out).mono ?_; rintro e w' ⟨rfl, q, rfl⟩)
  refine bodyPost_ret (results_none rfl _ _ _) rfl ?_
  exact ⟨⟨_, rfl⟩, .inl ⟨[], rfl, hJd.out _⟩⟩

theorem owns_lower {w : World} {b b' : Nat} {e : TypeId} {size n : Nat} {v : Value} {xs : List Value} (h : w.ownsRow b e size v n xs) (hb : b' ≤ b) : w.ownsRow b' e size v n xs := by
  refine ⟨h.1, ?_⟩
  rcases h.2 with h2 | ⟨g, cap, cur, h1, h2, q⟩
  · exact .inl h2
  · exact .inr ⟨g, cap, cur, h1, by omega, q⟩

/-- The copy of the order at hand. -/
theorem clone_walk {w : World} {lb : Nat} {l : List Int} (h : Lin w lb l) (h6 : l.length ≤ 6) : Calls Try.prog 99 #[.slice (some ⟨lb, 0, none⟩) l.length l.length] w fun e w' => ∃ g cap, e = .returned (.slice (some ⟨g, 0, none⟩) l.length cap) ∧ w.heap.size ≤ g ∧
    w'.ownsRow w.heap.size 3 1 (.slice (some ⟨g, 0, none⟩) l.length cap) l.length (l.map (.int .i64)) ∧ Below w.heap.size w w' := by
  obtain ⟨i0, hi, hz0, hz1, hz2⟩ := info_parts info3
  have hmax : 1000000 ≤ maxLen := by decide
  refine (Try.slices_Clone i0 (.int .i64 0) 1 8 hi hz0 hz1 hz2 rfl (by decide) (fun w => by kernel_rfl) lb 0 l.length l.length (l.map (.int .i64)) w (by simp) (by omega) (by omega) (fun j u hj => ?_) (fun u hu => ?_)).mono ?_
  · rw [Nat.zero_add, blk_cell h j]
    simp [Cs]
    simpa using hj
  · obtain ⟨x, _, rfl⟩ := List.mem_map.1 hu
    rfl
  · rintro e w' ⟨v', rfl, ho, hne, hb⟩
    rcases ho.2 with ⟨h1, _⟩ | ⟨g, cap, cur, rfl, hg, q⟩
    · exact absurd h1 hne
    · exact ⟨g, cap, rfl, hg, ho, hb⟩

theorem orders_at {n i : Nat} (h : n ≤ 6) (hi : i < fct n) : (orders n)[i]? = some ((orders n).getD i []) := by
  have : i < (orders n).length := by rw [orders_len n h]; exact hi
  rw [List.getElem?_eq_getElem this]
  simp [List.getD, List.getElem?_eq_getElem this]

set_option maxRecDepth 100000 in
set_option maxHeartbeats 4000000 in
theorem orders_iter (m : Nat) (hm : 1 ≤ m) (Bn : Nat) (n : Nat) (h6 : n ≤ 6) (w : World) (hB : Boxed w Bn 3 (.int .i64 n)) :
    Iter Fence.wide m Try.prog 97 #[.pointer (some ⟨Bn, 0, none⟩)] (orders n) n 3 w := fun l J Jx W hW hJ hY h0 => by
  have c0 := ((hW.cell (p := ⟨Bn, 0, none⟩) hB.lt).trans hB.cell)
  have hC := Aside0.mk (order_Count.calls 8 n _ 0 W (count_ok n h6))
  have hF := Aside0.mk (fun q => first_walk n h6 (W.drewN q))
  have hJd := Aside0.mk (fun q => hJ [] W (W.drewN q) h0 ⟨rfl, rfl, rfl, Nat.le_refl _, fun _ _ => rfl⟩)
  have hk := fct_small n h6
  -- a round up to the yield
  have key : Aside0 (∀ (i : Nat) (pre : List El) (lb : Nat) (W1 : World) (g cap : Nat) (W2 : World), pre.length = i → i < fct n → J pre W1 → W.heap.size ≤ W1.heap.size → W1.heap.size ≤ g → 
      W2.ownsRow W1.heap.size 3 1 (.slice (some ⟨g, 0, none⟩) n cap) n (((orders n).getD i []).map (.int .i64)) → Below W1.heap.size W1 W2 →
      YieldAt Fence.wide (m - 1) Try.prog l #[.slice (some ⟨g, 0, none⟩) n cap] W2 fun e W' =>
        (e = .returned (.bool true) ∧ J (pre ++ [((orders n).getD i [], .slice (some ⟨g, 0, none⟩) n cap)]) W' ∧ Fr W.heap.size (.slice (some ⟨g, 0, none⟩) n cap) W2 W') ∨ (e = .returned (.bool false) ∧ Jx (pre ++ [((orders n).getD i [], .slice (some ⟨g, 0, none⟩) n cap)]) W')) :=
    ⟨fun i pre lb W1 g cap W2 hi hlt hj hs hg ho hb => hY pre ((orders n).getD i [], .slice (some ⟨g, 0, none⟩) n cap) W2 (hJ _ _ _ hj (hb.mono hs))
      ⟨by rw [hi]; exact orders_at h6 hlt, (orders_all n h6 i hlt).1, ⟨g, cap, rfl⟩, owns_lower ho hs⟩⟩
  clear hY hW hB h0
  refine callsIn_of_wp Try.func97 rfl trivial ?_ rfl
  simp only [Try.ntmps97, List.size_toArray, List.length_cons, List.length_nil, Nat.reduceAdd, Nat.reduceSub, Array.replicate_succ, Array.replicate_zero, List.push_toArray, List.append_toArray, List.nil_append, List.cons_append]
  gi_wp2_with (refine ⟨trivial, ?_⟩; first | (gi_at_call 58; refine (callsIn_wide.2 hC.out).mono ?_; rintro e w' ⟨rfl, q, rfl⟩) | (gi_at_call 98; refine (callsIn_wide.2 (hF.out _)).mono ?_; rintro e w' ⟨rfl, hL, hb, hs⟩))
  have hJ1 := Aside0.mk (hJ [] _ _ (hJd.out q) hb)
  replace hL := Aside0.mk (show Lin w' W.heap.size (firstL n) from hL)
  have hs1 : Aside0 (W.heap.size < w'.heap.size) := ⟨by rw [hs]; show W.heap.size < W.heap.size + 1; omega⟩
  replace hJ := Aside0.mk hJ
  clear hC hF hJd hb hs c0
  gi_loopg [] (fct n - 1) (fun kq wr => ∃ pre : List El, pre.length + kq + 1 = fct n ∧ Aside0 (Lin wr W.heap.size ((orders n).getD pre.length [])) ∧ Aside0 (J pre wr) ∧ Aside0 (W.heap.size < wr.heap.size))
  case atStart => exact ⟨[], by simp; omega, ⟨by rw [List.length_nil, orders_first n h6]; exact hL.out⟩, hJ1, hs1⟩
  case round =>
    clear hJ1 hs1 hL
    obtain ⟨pre, hpre, hL, hj, hs⟩ := hrel
    have hi : pre.length < fct n := by omega
    obtain ⟨hll, _⟩ := orders_all n h6 pre.length hi
    have hkey := Aside0.mk (fun g cap W2 => key.out pre.length pre 0 wr g cap W2 rfl hi hj.out (Nat.le_of_lt hs.out))
    have hnext := Aside0.mk (orders_next n h6 pre.length hi)
    have hCl := clone_walk hL.out (by omega)
    rw [hll] at hCl
    replace hCl := Aside0.mk hCl
    have hNx : Aside0 (∀ W3, Lin W3 W.heap.size ((orders n).getD pre.length []) → Calls Try.prog 100 #[.slice (some ⟨W.heap.size, 0, none⟩) n n] W3 fun e w' => e = .returned (.bool (orders n)[pre.length + 1]?.isSome) ∧ Q W3 W.heap.size (((orders n)[pre.length + 1]?).getD ((orders n).getD pre.length [])) w') := ⟨fun W3 h3 => by
      have := next_walk W.heap.size _ (by omega) W3 h3
      rw [hll, hnext.out] at this
      exact this⟩
    generalize (orders n).getD pre.length [] = cur at hL hkey hCl hNx hll hnext
    replace hll := Aside0.mk hll
    replace hi := Aside0.mk hi
    clear key
    gi_wp2_with (refine ⟨trivial, ?_⟩; first | (gi_at_call 99; refine (callsIn_wide.2 hCl.out).mono ?_; rintro e W2 ⟨g, cap, rfl, hg, ho, hb⟩; obtain ⟨fn, tmps, assign, body, hy, hR⟩ := hkey.out g cap W2 hg ho hb))
    refine hR.mono ?_
    have hL2 := Aside0.mk ((hb.block W.heap.size hs.out).trans hL.out)
    have hlt2 := Aside0.mk (Nat.lt_of_lt_of_le hs.out hb.size)
    have hgne := Aside0.mk (Nat.lt_of_lt_of_le hs.out hg)
    clear hR hy ho hb hCl hkey hg
    rintro e W3 (⟨rfl, hJ3, hfr⟩ | ⟨rfl, hJx3⟩)
    · have hL3 : Lin W3 W.heap.size cur := (hfr.2 W.heap.size (Nat.le_refl _) hlt2.out (by
        have := hgne.out
        simp only [Value.ownBlock, ne_eq, Option.some.injEq]
        omega)).trans hL2.out
      have hN := Aside0.mk (hNx.out W3 hL3)
      replace hJ3 := Aside0.mk hJ3
      clear hNx hL3 hfr hlt2 hgne
      by_cases hend : pre.length + 1 < fct n
      · rw [orders_at h6 hend] at hN
        simp only [Option.isSome_some, Option.getD_some] at hN
        gi_wp2_with (refine ⟨trivial, ?_⟩; gi_at_call 100; refine (callsIn_wide.2 hN.out).mono ?_; rintro e W4 ⟨rfl, hQ4⟩)
        gi_roundg (gk - 1)
        case measure => omega
        case rel => exact ⟨pre ++ [(cur, .slice (some ⟨g, 0, none⟩) n cap)], by simp; omega, ⟨by rw [List.length_append]; exact hQ4.1⟩, ⟨hJ.out _ _ _ hJ3.out hQ4.2.1⟩, ⟨hQ4.1.lt⟩⟩
      · have hnone : (orders n)[pre.length + 1]? = none := by
          rw [List.getElem?_eq_none_iff, orders_len n h6]
          omega
        rw [hnone] at hN
        simp only [Option.isSome_none, Option.getD_none] at hN
        gi_wp2_with (refine ⟨trivial, ?_⟩; gi_at_call 100; refine (callsIn_wide.2 hN.out).mono ?_; rintro e W4 ⟨rfl, hQ4⟩)
        go_end0
        exact ⟨⟨_, rfl⟩, .inl ⟨pre ++ [(cur, .slice (some ⟨g, 0, none⟩) n cap)], by rw [orders_len n h6]; simp; omega, hJ.out _ _ _ hJ3.out hQ4.2.1⟩⟩
    · replace hJx3 := Aside0.mk hJx3
      clear hNx hlt2 hgne
      gi_wp2_with (refine ⟨trivial, ?_⟩)
      go_end0
      exact ⟨⟨_, rfl⟩, .inr ⟨_, hJx3.out⟩⟩
end Go.Proofs.Ytnncomhgclffaaa.O
