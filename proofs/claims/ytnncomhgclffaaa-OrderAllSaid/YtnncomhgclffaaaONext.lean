/- The next order: walked. -/
import Derived.Test.YtnncomhgclffaaaOWalk
import Derived.Deep.CutBlock
import Derived.Sort.CutIn
namespace Go.Proofs.Ytnncomhgclffaaa.O
open Go.RowKit Go.Shelf Go.Proofs.YtnncomhgclffaaaW.PrintWords Go.Proofs.Ytnncomhgclffaaa.POrderAll

theorem piv_le (l : List Int) : ∀ m i, piv l m = i + 1 → ¬ l.getD i 0 > l.getD (i + 1) 0 ∧ i + 1 ≤ m
  | 0, i, h => by simp [piv] at h
  | m + 1, i, h => by
    unfold piv at h
    by_cases c : l.getD m 0 > l.getD (m + 1) 0
    · rw [if_pos c] at h
      have := piv_le l m i h
      exact ⟨this.1, by omega⟩
    · rw [if_neg c] at h
      have : m = i := by omega
      subst this
      exact ⟨c, Nat.le_refl _⟩

/-- What the row's walk keeps. -/
def Q (w : World) (lb : Nat) (l : List Int) (W : World) : Prop := Lin W lb l ∧ Below lb w W ∧ W.heap.size = w.heap.size
theorem Q.drewN {w W : World} {lb : Nat} {l : List Int} (h : Q w lb l W) (q : Nat) : Q w lb l (W.drewN q) := ⟨h.1, ⟨h.2.1.1, h.2.1.2, h.2.1.3, h.2.1.4, h.2.1.5⟩, h.2.2⟩
theorem Q.drew {w W : World} {lb : Nat} {l : List Int} (h : Q w lb l W) : Q w lb l W.drew := ⟨h.1, h.2.1.drew, h.2.2⟩
theorem Q.set {w W : World} {lb : Nat} {l : List Int} (h : Q w lb l W) (j : Nat) (x : Int) : Q w lb (l.set j x) (W.setCell ⟨lb, j, none⟩ (.int .i64 x)) := ⟨h.1.set j x, h.2.1.setCell (Nat.le_refl _) _, by simpa using h.2.2⟩

theorem wr1 (m : Nat) (h : m ≤ 10) : IntKind.i64.wrap ((m : Int) + 1) = ((m + 1 : Nat) : Int) := by rw [IntKind.wrap_i64]; omega
theorem wm1 (m : Nat) (h : m ≤ 10) : IntKind.i64.wrap ((m : Int) - 1) = (m : Int) - 1 := by rw [IntKind.wrap_i64]; omega
theorem wm2 (m : Nat) (h : m ≤ 10) : IntKind.i64.wrap ((m : Int) - 2) = (m : Int) - 2 := by rw [IntKind.wrap_i64]; omega

theorem Q.reverse {w W : World} {lb : Nat} {l : List Int} (h : Q w lb l W) (m : Nat) (hm : m ≤ l.length) (q : Nat) : Q w lb (l.take m ++ (l.drop m).reverse) ((W.drewN q).setCells lb m (((l.drop m).take (l.length - m)).reverse.map (Value.int .i64))) := by
  obtain ⟨h1, h2, h3⟩ := h.drewN q
  have e : (l.drop m).take (l.length - m) = l.drop m := List.take_of_length_le (by simp)
  rw [e]
  obtain ⟨cur', g1, g2, g3⟩ := setCells_row ((l.drop m).reverse.map (Value.int .i64)) m (W.drewN q) (Cs l) h1 (by simp [Cs]; omega)
  obtain ⟨k1, k2, k3, k4⟩ := setCells_same lb ((l.drop m).reverse.map (Value.int .i64)) m (W.drewN q)
  refine ⟨?_, ⟨k1.trans h2.os, k2.trans h2.tape, k3.trans h2.output, by rw [k4]; exact h2.size, fun k hk => (setCells_far _ _ k (by omega)).trans (h2.block k hk)⟩, k4.trans h3⟩
  unfold Lin
  rw [g1]
  have : cur' = Cs (l.take m ++ (l.drop m).reverse) := by
    apply Array.toList_inj.1
    rw [g3]
    have hz : (Cs l).toList = l.map (Value.int .i64) := by simp [Cs]
    have hd : (l.map (Value.int .i64)).drop (m + ((l.drop m).reverse.map (Value.int .i64)).length) = [] := List.drop_eq_nil_of_le (by simp; omega)
    rw [hz, hd]
    simp [Cs, List.map_take]
  rw [this]
set_option maxHeartbeats 2000000 in
set_option maxRecDepth 100000 in
theorem next_walk (lb : Nat) (l : List Int) (h6 : l.length ≤ 6) (w : World) (hw : Lin w lb l) : Calls Try.prog 100 #[.slice (some ⟨lb, 0, none⟩) l.length l.length] w fun e w' =>
    e = .returned (.bool (nextL l).isSome) ∧ Q w lb ((nextL l).getD l) w' := by
  have hQ := Aside0.mk (show Q w lb l w from ⟨hw, Below.refl _ _, rfl⟩)
  generalize hn : l.length = n at h6
  replace hn := Aside0.mk hn
  clear hw
  by_cases h0 : n = 0
  · subst h0
    have e : nextL l = none := by unfold nextL; rw [hn.out]; rfl
    rw [e]
    have hq : decide ((0 : Int) ≤ -2) = false := by decide
    go_enter Try.func100, Try.ntmps100
    go_wp2
    go_loopg [3] 1 (fun _ v3 wr => v3 = .int .i64 (-2) ∧ Aside0 (Q w lb l wr))
    case atStart => exact ⟨rfl, hQ⟩
    case round =>
      clear hQ
      obtain ⟨rfl, hQ⟩ := hrel
      have hQd := Aside0.mk hQ.out.drewN
      clear hQ
      go_wp2_with (go_quiet (fail))
      go_ret
      exact ⟨rfl, hQd.out _⟩
  · have w2 := wm2 n (by omega)
    go_enter Try.func100, Try.ntmps100
    go_wp2
    go_loopg [3] (n - 1) (fun kq v3 wr => v3 = .int .i64 ((kq : Int) - 1) ∧ kq < n ∧ Aside0 (piv l (n - 1) = piv l kq) ∧ Aside0 (Q w lb l wr))
    case atStart => exact ⟨by congr 1; omega, by omega, ⟨rfl⟩, hQ⟩
    case round =>
      clear hQ w2
      obtain ⟨rfl, hm, hp, hQ⟩ := hrel
      cases gk with
      | zero =>
        have e : nextL l = none := by
          unfold nextL
          rw [hn.out, hp.out]
          rfl
        replace e := Aside0.mk e
        have hQd := Aside0.mk hQ.out.drewN
        clear hp
        simp only [Int.zero_sub, Int.cast_ofNat_Int]
        have hq : decide ((0 : Int) ≤ -1) = false := by decide
        go_wp2_with (go_quiet (fail))
        go_ret
        exact ⟨by rw [e.out]; rfl, by rw [e.out]; exact hQd.out _⟩
      | succ m =>
        have hmn : m + 1 < l.length := by rw [hn.out]; exact hm
        have w1 := wr1 m (by omega)
        have w2 := wm1 m (by omega)
        have e1 : ((m + 1 : Nat) : Int) - 1 = (m : Int) := by omega
        rw [e1]
        have hup : Aside0 (piv l (m + 1) = if l.getD m 0 > l.getD (m + 1) 0 then piv l m else m + 1) := ⟨rfl⟩
        have c0 := hQ.out.1.at (j := m) (by omega)
        have c1 := hQ.out.1.at (j := m + 1) hmn
        have hQd := Aside0.mk hQ.out.drewN
        clear hmn e1
        generalize hx : l.getD m 0 = x at c0 hup
        generalize hy : l.getD (m + 1) 0 = y at c1 hup
        replace hx := Aside0.mk hx
        replace hy := Aside0.mk hy
        replace hQ := Aside0.mk hQ
        by_cases hc : y < x
        · have hcd := decide_eq_true hc
          have hp' : Aside0 (piv l (n - 1) = piv l m) := ⟨by rw [hp.out, hup.out, if_pos hc]⟩
          clear hp hup hc
          go_wp2_with (go_quiet (fail))
          go_roundg m
          case measure => omega
          case rel => exact ⟨rfl, by omega, hp', ⟨hQd.out _⟩⟩
        · have hcd := decide_eq_false hc
          have hp' : Aside0 (piv l (n - 1) = m + 1) := ⟨by rw [hp.out, hup.out, if_neg hc]⟩
          clear hp hup
          replace hc := Aside0.mk hc
          go_wp2_with (go_quiet (fail))
          generalize hw1 : wr.drewN _ = w1
          have hQ1 : Aside0 (Q w lb l w1) := ⟨by rw [← hw1]; exact hQd.out _⟩
          clear hw1 hQd
          go_loopg [4] (n - 1) (fun kq v4 wr => v4 = .int .i64 kq ∧ kq < n ∧ m < kq ∧ Aside0 (kth l x (n - 1) = kth l x kq) ∧ Aside0 (Q w lb l wr))
          case atStart => exact ⟨by congr 1; omega, by omega, by omega, ⟨rfl⟩, hQ1⟩
          case round =>
            clear hQ hQ1 c0 c1 hcd w1 w2
            obtain ⟨rfl, hk, hmk, hkth, hQ⟩ := hrel
            cases gk with
            | zero => omega
            | succ k =>
              have hup : Aside0 (kth l x (k + 1) = if l.getD (k + 1) 0 < x then kth l x k else k + 1) := ⟨rfl⟩
              have c0 := hQ.out.1.at (j := m) (by rw [hn.out]; omega)
              have c1 := hQ.out.1.at (j := k + 1) (by rw [hn.out]; omega)
              rw [hx.out] at c0
              have w1 := wm1 (k + 1) (by omega)
              have hQd := Aside0.mk hQ.out.drewN
              generalize hz : l.getD (k + 1) 0 = z at c1 hup
              replace hz := Aside0.mk hz
              by_cases hcz : z < x
              · have hcd := decide_eq_true hcz
                have hp2 : Aside0 (kth l x (n - 1) = kth l x k) := ⟨by rw [hkth.out, hup.out, if_pos hcz]⟩
                have hmk2 : m < k := by
                  rcases Nat.lt_or_ge m k with h | h
                  · exact h
                  · exfalso
                    have e : m = k := by omega
                    subst e
                    have := hc.out
                    rw [← hy.out, hz.out] at this
                    omega
                clear hkth hup hcz
                go_wp2_with (go_quiet (fail))
                go_roundg k
                case measure => omega
                case rel => exact ⟨by congr 1 <;> omega, by omega, hmk2, hp2, ⟨hQd.out _⟩⟩
              · have hcd := decide_eq_false hcz
                have hp2 : Aside0 (kth l x (n - 1) = k + 1) := ⟨by rw [hkth.out, hup.out, if_neg hcz]⟩
                clear hkth hup hcz
                have f0 := hQ.out.1.free m
                have f1 := hQ.out.1.free (k + 1)
                have hsw : Aside0 (∀ q, Q w lb ((l.set m z).set (k + 1) x) (((wr.drewN q).setCell ⟨lb, m, none⟩ (.int .i64 z)).setCell ⟨lb, k + 1, none⟩ (.int .i64 x))) := ⟨fun q => ((hQ.out.drewN q).set m z).set (k + 1) x⟩
                have hsw2 : Aside0 (∀ q, Q w lb ((l.set m z).set (k + 1) x) (((wr.drewN q).setCell ⟨lb, k + 1, none⟩ (.int .i64 x)).setCell ⟨lb, m, none⟩ (.int .i64 z))) := ⟨fun q => by rw [List.set_comm _ _ (by omega)]; exact ((hQ.out.drewN q).set (k + 1) x).set m z⟩
                go_upto_region 9 with (go_quiet (fail))
                go_cut [0, 3, 4] from 40 to 59 (fun a b c wx => a = .slice (some ⟨lb, 0, none⟩) n n ∧ b = .int .i64 m ∧ c = .int .i64 (k + 1 : Nat) ∧ Aside0 (Q w lb ((l.set m z).set (k + 1) x) wx))
                case first =>
                  go_region
                  all_goals (go_wp2_with fail; go_meet)
                  all_goals exact ⟨rfl, rfl, rfl, by first | exact ⟨hsw.out _⟩ | exact ⟨hsw2.out _⟩⟩
                case rest =>
                  obtain ⟨rfl, rfl, rfl, hQ9⟩ := hcut
                  clear hsw hsw2 c0 c1 f0 f1 hQ hQd w1 hcd
                  have w1 := wr1 m (by omega)
                  go_upto_region 10 with fail
                  have hlen : ((l.set m z).set (k + 1) x).length = n := by simp [hn.out]
                  have hnx : Aside0 (nextL l = some (((l.set m z).set (k + 1) x).take (m + 1) ++ (((l.set m z).set (k + 1) x).drop (m + 1)).reverse)) := ⟨by
                    unfold nextL
                    rw [hn.out, hp'.out]
                    dsimp only
                    rw [hx.out, hp2.out, hz.out]⟩
                  generalize (l.set m z).set (k + 1) x = s at hQ9 hlen hnx
                  have hRev := Aside0.mk (Try.slices_Reverse_int_cells lb (m + 1) (n - (m + 1)) (n - (m + 1)) (s.drop (m + 1)) wc (by simp; omega) (by omega) (fun j hj => by
                    have := hQ9.out.1.at (j := m + 1 + j) (by simp at hj; omega)
                    rw [this]
                    simp [List.getD]) (fun j _ => hQ9.out.1.free _))
                  have hRes := Aside0.mk (fun q => hQ9.out.reverse (m + 1) (by omega) q)
                  rw [hlen] at hRes
                  replace hlen := Aside0.mk hlen
                  clear hQ9
                  go_wp2_with (go_at_call 106; refine hRev.out.mono ?_; rintro e w2 ⟨rfl, q, rfl⟩)
                  go_ret
                  exact ⟨by rw [hnx.out]; rfl, by
                    have h := hRes.out q
                    rw [List.map_reverse, List.map_take, List.map_drop] at h
                    rw [hnx.out]
                    exact h⟩
end Go.Proofs.Ytnncomhgclffaaa.O
