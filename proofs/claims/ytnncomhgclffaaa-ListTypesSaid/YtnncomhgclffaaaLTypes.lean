/- The walk of the law ListTypes. -/
import Derived.Test.YtnncomhgclffaaaLTy
import Derived.Outline
import Derived.LoopTactic
namespace Go.Proofs.Ytnncomhgclffaaa.LT
open Go.RowKit Go.Proofs.YtnncomhgclffaaaW.PrintWords Go.Proofs.YtnncomhgclffaaaL

theorem row1_cells {α : Type} {enc : α → Value} {w : World} {A : Option Addr} {len : Nat} {xs : List α} (hr : ReadsRow (fun x cs => cs = [enc x]) 1 w A len xs) {k : Nat} (hk : k < len) :
    ∃ (b off : Nat) (h : k < xs.length), A = some ⟨b, off, none⟩ ∧ b < w.heap.size ∧ w.cell? ⟨b, off + k, none⟩ = some (enc xs[k]) := by
  obtain ⟨hl, _, hread⟩ := hr
  obtain ⟨ad, rfl, hc⟩ := hread (by omega)
  obtain ⟨c0, _, rfl, h0⟩ := hc 0 xs[0] (List.getElem?_eq_getElem (by omega))
  obtain ⟨c, _, rfl, h⟩ := hc k xs[k] (List.getElem?_eq_getElem (by omega))
  have hs : ad.spot = none := by
    have := h0 0 _ rfl
    simp only [Nat.zero_mul, Nat.add_zero, Addr.add, if_true, World.cell?] at this
    split at this
    · split at this
      · cases this
      · rename_i hn
        simpa using hn
    · cases this
  obtain ⟨b, off, sp⟩ := ad
  dsimp only at hs
  subst hs
  have ha : ∀ n, (⟨b, off, none⟩ : Addr).add n = ⟨b, off + n, none⟩ := fun n => by
    unfold Addr.add
    split
    · rename_i e; subst e; rfl
    · rfl
  have e0 := h 0 _ rfl
  rw [ha, Nat.mul_one, Nat.add_zero] at e0
  exact ⟨b, off, by omega, rfl, World.block_lt_of_cell? w _ e0, e0⟩

abbrev opI (x : Int) (cs : List Value) : Prop := cs = [.int .i64 x]
abbrev opS (x : ByteArray) (cs : List Value) : Prop := cs = [.string x]
/-- What is put into the list of pairs. -/
def pairs (ys : List ByteArray) : List LP.P2 := ys.map (fun y => (y, ⟨#[120]⟩))

attribute [local go_sem high] eq46 build46

set_option maxHeartbeats 8000000 in
set_option maxRecDepth 100000 in
theorem types_walk (A B : Option Addr) (la ca lb cb : Nat) (xs : List Int) (ys : List ByteArray) (w : World) (hrx : ReadsRow opI 1 w A la xs) (hry : ReadsRow opS 1 w B lb ys) :
    Calls Try.prog 7 #[.slice A la ca, .slice B lb cb] w fun e w' => e = .returned (.bool true) ∧ Below w.heap.size w w' := by
  have hla : la ≤ 9223372036854775807 := hrx.2.1
  have hlb : lb ≤ 9223372036854775807 := hry.2.1
  have HX := Aside0.mk hrx
  have HY := Aside0.mk hry
  clear hrx hry
  by_cases hbig : 40 < la
  · go_enter Try.func7, Try.ntmps7
    go_wp2_with (go_at_call 27; refine (LS.awake_walk _).mono ?_; rintro e w2 ⟨rfl, b2⟩; replace b2 := Aside0.mk b2)
    go_ret
    exact ⟨rfl, b2.out⟩
  · by_cases hbig2 : 40 < lb
    · go_enter Try.func7, Try.ntmps7
      go_wp2_with (go_at_call 27; refine (LS.awake_walk _).mono ?_; rintro e w2 ⟨rfl, b2⟩; replace b2 := Aside0.mk b2)
      go_ret
      exact ⟨rfl, b2.out⟩
    · go_enter Try.func7, Try.ntmps7
      go_wp2_with (first | (go_at_call 28; refine (LI.new_lst _).mono ?_; rintro e w1 ⟨rfl, h1, b1⟩; replace h1 := Aside0.mk h1; replace b1 := Aside0.mk b1) | (go_at_call 29; refine (LP.new_lst _).mono ?_; rintro e w2 ⟨rfl, h2, b2⟩; replace h2 := Aside0.mk h2; replace b2 := Aside0.mk b2))
      have hT0 := Aside0.mk (made (w := w) _ _ h1.out b1.out h2.out b2.out)
      clear h1 h2 b1 b2
      generalize w.heap.size + 2 = pa at hT0 ⊢
      generalize w1.heap.size + 2 = pb at hT0 ⊢
      go_loopw [38] (fun i wr => ∃ k : Nat, i = .int .i64 k ∧ k ≤ la ∧ Two w wr pa pb (rowF 0 k) (xs.take k) [] []) (fun i _ => la - (intOf i).toNat)
      case atStart => exact ⟨0, rfl, Nat.zero_le _, hT0.out⟩
      case round =>
        obtain ⟨k, rfl, hk, hT⟩ := hrel
        by_cases hlt : k < la
        · obtain ⟨b, off, hkx, rfl, hbl, hc⟩ := row1_cells HX.out hlt
          have f0 : wr.cell? ⟨b, off + k, none⟩ = some (.int .i64 xs[k]) := (hT.below.cell (p := ⟨b, off + k, none⟩) hbl).trans hc
          have hl : (xs.take k).length = k := by rw [List.length_take]; omega
          have e1 : xs.take (k + 1) = xs.take k ++ [xs[k]] := by rw [List.take_succ_eq_append_getElem hkx]
          obtain ⟨x, hx⟩ : ∃ x, xs[k] = x := ⟨_, rfl⟩
          rw [hx] at f0 e1
          clear hx hc
          replace hl := Aside0.mk hl
          replace e1 := Aside0.mk e1
          replace hT := Aside0.mk hT
          go_wp2_with (go_at_call 30; refine (push1 x hT.out (by rw [hl.out]; omega)).mono ?_; rintro e W2 ⟨rfl, hT2⟩; rw [hl.out] at hT2 ⊢; rw [← e1.out, ← rowF_snoc] at hT2; replace hT2 := Aside0.mk hT2)
          go_roundw
          case rel => exact ⟨k + 1, by go_num, by omega, hT2.out⟩
          case measure => simp [intOf]; omega
        · obtain rfl : k = la := by omega
          have hx1 : xs.take k = xs := List.take_of_length_le (by have := HX.out.1; omega)
          rw [hx1] at hT
          clear hx1
          replace hT := Aside0.mk hT
          go_wp2_with fail
          go_loopw [52] (fun i wq => ∃ j : Nat, i = .int .i64 j ∧ j ≤ lb ∧ Two w wq pa pb (rowF 0 k) xs (rowF 0 j) (pairs (ys.take j))) (fun i _ => lb - (intOf i).toNat)
          case atStart => exact ⟨0, rfl, Nat.zero_le _, hT.out⟩
          case round =>
            obtain ⟨j, rfl, hj, hT2⟩ := hrel
            by_cases hlt2 : j < lb
            · obtain ⟨b, off, hky, rfl, hbl, hc⟩ := row1_cells HY.out hlt2
              have f0 : wr.cell? ⟨b, off + j, none⟩ = some (.string ys[j]) := (hT2.below.cell (p := ⟨b, off + j, none⟩) hbl).trans hc
              have hl : (pairs (ys.take j)).length = j := by rw [pairs, List.length_map, List.length_take]; omega
              have e1 : pairs (ys.take (j + 1)) = pairs (ys.take j) ++ [(ys[j], ⟨#[120]⟩)] := by rw [pairs, List.take_succ_eq_append_getElem hky, List.map_append]; rfl
              obtain ⟨y, hy⟩ : ∃ y, ys[j] = y := ⟨_, rfl⟩
              rw [hy] at f0 e1
              clear hy hc
              replace hl := Aside0.mk hl
              replace e1 := Aside0.mk e1
              replace hT2 := Aside0.mk hT2
              go_wp2_with (go_at_call 31; refine (push2 y ⟨#[120]⟩ hT2.out (by rw [hl.out]; omega)).mono ?_; rintro e W2 ⟨rfl, hT3⟩; rw [hl.out] at hT3 ⊢; rw [← e1.out, ← rowF_snoc] at hT3; replace hT3 := Aside0.mk hT3)
              go_roundw
              case rel => exact ⟨j + 1, by go_num, by omega, hT3.out⟩
              case measure => simp [intOf]; omega
            · obtain rfl : j = lb := by omega
              have hx1 : ys.take j = ys := List.take_of_length_le (by have := HY.out.1; omega)
              rw [hx1] at hT2
              clear hx1 hT
              replace hT2 := Aside0.mk hT2
              go_wp2_with fail
              go_loopw [67] (fun i wq => ∃ m : Nat, i = .int .i64 m ∧ m ≤ k ∧ Two w wq pa pb (rowF 0 k) xs (rowF 0 j) (pairs ys)) (fun i _ => k - (intOf i).toNat)
              case atStart => exact ⟨0, rfl, Nat.zero_le _, hT2.out⟩
              case round =>
                obtain ⟨m, rfl, hm, hT3⟩ := hrel
                by_cases hlt3 : m < k
                · obtain ⟨b, off, hkx, rfl, hbl, hc⟩ := row1_cells HX.out hlt3
                  have f0 : wr.cell? ⟨b, off + m, none⟩ = some (.int .i64 xs[m]) := (hT3.below.cell (p := ⟨b, off + m, none⟩) hbl).trans hc
                  have hmem := mem_rowF hlt3
                  have hg : LI.getV (rowF 0 k) xs ((m : Int) + 1) = xs[m] := by
                    have e : ((m : Int) + 1 - 1).toNat = m := by omega
                    simp only [LI.getV, if_pos hmem, e, List.getElem?_eq_getElem hkx, Option.getD_some]
                  have hd : decide (((m : Int) + 1) ∈ rowF 0 k) = true := decide_eq_true hmem
                  have hwx : (Lit.int .i64 ((m : Int) + 1)).wf = true := LI.wf_small (by omega) (by omega)
                  obtain ⟨x, hx⟩ : ∃ x, xs[m] = x := ⟨_, rfl⟩
                  rw [hx] at f0 hg
                  clear hx hc hmem
                  replace hg := Aside0.mk hg
                  replace hd := Aside0.mk hd
                  replace hwx := Aside0.mk hwx
                  replace hT3 := Aside0.mk hT3
                  go_wp2_with (go_at_call 32; refine (get1 ((m : Int) + 1) hwx.out hT3.out).mono ?_; rintro e W2 ⟨rfl, rfl⟩; rw [hg.out, hd.out])
                  go_roundw
                  case rel => exact ⟨m + 1, by go_num, by omega, hT3.out⟩
                  case measure => simp [intOf]; omega
                · replace hT3 := Aside0.mk hT3
                  clear hT2
                  go_wp2_with fail
                  go_loopw [89] (fun i wq => ∃ q : Nat, i = .int .i64 q ∧ q ≤ j ∧ Two w wq pa pb (rowF 0 k) xs (rowF q (j - q)) (pairs ys)) (fun i _ => j - (intOf i).toNat)
                  case atStart => exact ⟨0, rfl, Nat.zero_le _, hT3.out⟩
                  case round =>
                    obtain ⟨q, rfl, hq, hT4⟩ := hrel
                    by_cases hlt4 : q < j
                    · obtain ⟨b, off, hky, rfl, hbl, hc⟩ := row1_cells HY.out hlt4
                      have f0 : wr.cell? ⟨b, off + q, none⟩ = some (.string ys[q]) := (hT4.below.cell (p := ⟨b, off + q, none⟩) hbl).trans hc
                      have e1 : rowF q (j - q) = ((q : Int) + 1) :: rowF (q + 1) (j - (q + 1)) := by rw [← rowF_succ]; congr 1; omega
                      rw [e1] at hT4
                      have hl : (pairs ys).length < 100000 := by rw [pairs, List.length_map]; have := HY.out.1; omega
                      have hv : ((pairs ys)[((q : Int) + 1 - 1).toNat]?).getD LP.z2 = (ys[q], ⟨#[120]⟩) := by
                        have e : ((q : Int) + 1 - 1).toNat = q := by omega
                        rw [e, pairs, List.getElem?_map, List.getElem?_eq_getElem hky]; rfl
                      obtain ⟨y, hy⟩ : ∃ y, ys[q] = y := ⟨_, rfl⟩
                      rw [hy] at f0 hv
                      clear hy hc e1
                      replace hl := Aside0.mk hl
                      replace hv := Aside0.mk hv
                      replace hT4 := Aside0.mk hT4
                      go_wp2_with (go_at_call 33; refine (remove2 hT4.out hl.out).mono ?_; rintro e W2 ⟨rfl, hT5⟩; rw [hv.out]; replace hT5 := Aside0.mk hT5)
                      go_roundw
                      case rel => exact ⟨q + 1, by go_num, by omega, hT5.out.alloc _⟩
                      case measure => simp [intOf]; omega
                    · obtain rfl : q = j := by omega
                      rw [Nat.sub_self] at hT4
                      have hr0 : rowF q 0 = [] := rfl
                      rw [hr0] at hT4
                      clear hr0 hT3
                      have hl1 := Aside0.mk (show (rowF 0 k).length < 100000 by rw [rowF_len]; omega)
                      have hl2 := Aside0.mk (rowF_len 0 k)
                      have hn0 := Aside0.mk (show LP.nextR [] 0 = 0 from rfl)
                      replace hT4 := Aside0.mk hT4
                      go_wp2_with (first | (go_at_call 34; refine (len1 hT4.out hl1.out).mono ?_; rintro e W2 ⟨rfl, rfl⟩; rw [hl2.out]) | (go_at_call 35; refine (len2 hT4.out (by decide)).mono ?_; rintro e W2 ⟨rfl, rfl⟩) | (go_at_call 36; refine (next2 0 (by decide) hT4.out).mono ?_; rintro e W2 ⟨rfl, rfl⟩; rw [hn0.out]) | (go_at_call 27; refine (LS.awake_walk _).mono ?_; rintro e w9 ⟨rfl, hb9⟩; replace hb9 := Aside0.mk hb9))
                      go_ret
                      exact ⟨rfl, hT4.out.below.trans (hb9.out.mono hT4.out.below.size)⟩
end Go.Proofs.Ytnncomhgclffaaa.LT
