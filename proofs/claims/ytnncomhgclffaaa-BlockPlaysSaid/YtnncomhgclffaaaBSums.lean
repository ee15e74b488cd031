/- The walk of the law BlockSums. -/
import Derived.Test.YtnncomhgclffaaaBAwake
import Derived.Deep.CutBlock
import Derived.Laws.OwnMore
namespace Go.Proofs.Ytnncomhgclffaaa.BI
open Go.RowKit Go.Shelf Go.Proofs.YtnncomhgclffaaaW.PrintWords Go.Proofs.YtnncomhgclffaaaL Go.Proofs.Ytnncomhgclffaaa.LL Go.Proofs.Ytnncomhgclffaaa.LS

/-- The blocks behind a call of the list, with the variable o in block q. -/
def Mid (w : World) (bb q : Nat) (o : Obj) (N : Nat) (W : World) : Prop :=
  ∃ F ks vs, Blk W bb F ks vs N ∧ (∀ b, F b → w.heap.size ≤ b) ∧ ¬ F q ∧ W.heap[q]? = some o ∧ Below w.heap.size w W

theorem Mid.of_did {w W1 W : World} {bb q N : Nat} {o : Obj} {F : Nat → Prop} {ks : List ByteArray} {vs : ByteArray → List Int} {r : Value} {e : Ending} (h : Did W1 bb F r ks vs N e W) (hF : ∀ b, F b → w.heap.size ≤ b) (hq : ¬ F q)
    (hO : W1.heap[q]? = some o) (hB : Below w.heap.size w W1) : Mid w bb q o N W := by
  have hql := blk_lt hO
  have hs := hB.size
  refine ⟨_, ks, vs, h.2.1, fun b x => ?_, fun x => ?_, (h.2.2.block q hql hq).trans hO, h.2.2.below hB hs hF⟩
  · rcases x with x | x
    · exact hF b x
    · omega
  · rcases x with x | x
    · exact hq x
    · omega

/-- A row of texts that a call has made. -/
theorem strs_read {W : World} {B : Nat} {r : Value} {ks : List ByteArray} (h : W.ownsRow B 9 1 r ks.length (ks.map Value.string)) :
    ∃ A cap, r = .slice A ks.length cap ∧ ∀ j (hj : j < ks.length), ∃ g, A = some ⟨g, 0, none⟩ ∧ g < W.heap.size ∧ W.cell? ⟨g, j, none⟩ = some (.string ks[j]) := by
  by_cases h0 : 0 < ks.length
  · obtain ⟨g, cap, rfl, _, hl⟩ := owns_form1 h h0
    refine ⟨_, cap, rfl, fun j hj => ⟨g, rfl, hl, ?_⟩⟩
    rw [h.cellAt j (by omega), List.getElem?_map, List.getElem?_eq_getElem hj]
    rfl
  · obtain ⟨a, cap, rfl⟩ := owns_form h
    exact ⟨a, cap, rfl, fun j hj => absurd hj (by omega)⟩

theorem sumOf_take (ks : List ByteArray) (vs : ByteArray → List Int) {j : Nat} (hj : j < ks.length) : sumOf (ks.take (j + 1)) vs = sumOf (ks.take j) vs + (vs ks[j]).length := by
  rw [List.take_succ_eq_append_getElem hj, sumOf_append, sumOf_cons]
  simp [sumOf]

set_option maxHeartbeats 4000000 in
set_option maxRecDepth 100000 in
theorem sums_walk (A : Option Addr) (len cap : Nat) (xs : List (Int × ByteArray × Int)) (w : World) (hr : ReadsRow opB 3 w A len xs) :
    Calls Try.prog 15 #[.slice A len cap] w fun e w' => e = .returned (.bool true) ∧ Below w.heap.size w w' := by
  have HR := Aside0.mk hr
  have hlen : len ≤ 9223372036854775807 := hr.2.1
  clear hr
  by_cases hbig : 100 < len
  · go_enter Try.func15, Try.ntmps15
    go_wp2_with (first | (go_at_call 70; refine (new_did _).mono ?_; rintro e w1 ⟨bb, rfl, h1, b1⟩; replace b1 := Aside0.mk b1; clear h1) | (go_at_call 64; refine (awake_walk _).mono ?_; rintro e w2 ⟨rfl, b2⟩; replace b2 := Aside0.mk b2))
    go_ret
    exact ⟨rfl, b1.out.trans (b2.out.mono b1.out.size)⟩
  · go_enter Try.func15, Try.ntmps15
    go_wp2_with (go_at_call 70; refine (new_did _).mono ?_; rintro e w1 ⟨bb, rfl, h1, b1⟩; replace h1 := Aside0.mk h1; replace b1 := Aside0.mk b1)
    go_loopw [26] (fun i wr => ∃ (k : Nat) (ks : List ByteArray) (vs : ByteArray → List Int), i = .int .i64 k ∧ k ≤ len ∧ Blk wr bb (fun b => w.heap.size ≤ b) ks vs k ∧ Below w.heap.size w wr) (fun i _ => len - (intOf i).toNat)
    case atStart => exact ⟨0, [], _, rfl, Nat.zero_le _, h1.out, b1.out⟩
    case round =>
      obtain ⟨k, ks, vs, rfl, hk, hL, hBel⟩ := hrel
      clear h1 b1
      by_cases hlt : k < len
      · obtain ⟨b, off, kd, s, v, rfl, hbl, hss, hwv, q0, q1, q2⟩ := opB_cells HR.out hlt
        have f0 : wr.cell? ⟨b, off + k * 3, none⟩ = some (.int .i64 kd) := (hBel.cell (p := ⟨b, off + k * 3, none⟩) hbl).trans q0
        have f1 : wr.cell? ⟨b, off + k * 3 + 1, none⟩ = some (.string s) := (hBel.cell (p := ⟨b, off + k * 3 + 1, none⟩) hbl).trans q1
        have f2 : wr.cell? ⟨b, off + k * 3 + 2, none⟩ = some (.int .i64 v) := (hBel.cell (p := ⟨b, off + k * 3 + 2, none⟩) hbl).trans q2
        clear q0 q1 q2
        have hk6 : k < 1000 := by omega
        have hA := Aside0.mk ((hL.mono (F' := fun b => w.heap.size ≤ b ∧ b < wr.heap.size) (fun b x y => ⟨x, y⟩)).below ((Below.refl _ _).alloc (Nat.le_refl _) (.cells #[.int .i64 kd, .string s, .int .i64 v] 118)))
        have hAB := Aside0.mk (hBel.alloc hBel.size (.cells #[.int .i64 kd, .string s, .int .i64 v] 118))
        have hO : Aside0 ((wr.alloc (.cells #[.int .i64 kd, .string s, .int .i64 v] 118)).heap[wr.heap.size]? = some (.cells #[.int .i64 kd, .string s, .int .i64 v] 118 (0, 0))) := ⟨blk_new _ _⟩
        have hF := Aside0.mk (show ∀ b, (fun b => w.heap.size ≤ b ∧ b < wr.heap.size) b → w.heap.size ≤ b from fun b x => x.1)
        have hq := Aside0.mk (show ¬ (fun b => w.heap.size ≤ b ∧ b < wr.heap.size) wr.heap.size from fun x => Nat.lt_irrefl _ x.2)
        clear hL hBel
        go_upto_block 2 with fail
        go_cut [26] from 26 to 105 (fun v0 wx => v0 = .int .i64 k ∧ Mid w bb wr.heap.size (.cells #[.int .i64 kd, .string s, .int .i64 v] 118 (0, 0)) (k + 1) wx)
        case first =>
          go_wp2_with (first | (go_at_call 73; refine (open_did hA.out s hss (by omega)).mono ?_; intro e w2 hd; have hM := Aside0.mk (Mid.of_did hd hF.out hq.out hO.out hAB.out); obtain ⟨rfl, _, _⟩ := hd) | (go_at_call 74; refine (close_did hA.out s hss (by omega)).mono ?_; intro e w2 hd; have hM := Aside0.mk (Mid.of_did hd hF.out hq.out hO.out hAB.out); obtain ⟨rfl, _, _⟩ := hd) | (go_at_call 76; refine (block_did hA.out s v hss hwv (by omega)).mono ?_; intro e w2 hd; have hM := Aside0.mk (Mid.of_did hd hF.out hq.out hO.out hAB.out); obtain ⟨rfl, _, _⟩ := hd) | (go_at_call 78; refine (free_did hA.out s v hss hwv (by omega)).mono ?_; intro e w2 hd; have hM := Aside0.mk (Mid.of_did hd hF.out hq.out hO.out hAB.out); obtain ⟨rfl, _, _⟩ := hd))
          all_goals go_meet
          case rel => exact ⟨rfl, hM.out⟩
          case rel => exact ⟨rfl, hM.out⟩
          case rel => exact ⟨rfl, hM.out⟩
          case rel => exact ⟨rfl, hM.out⟩
          case rel => exact ⟨rfl, _, _, _, hA.out.more (Nat.le_succ _), hF.out, hq.out, hO.out, hAB.out⟩
        case rest =>
          obtain ⟨rfl, F, ks2, vs2, h2, hF2, hq2, hO2, hB2⟩ := hcut
          clear hA hAB hO hF hq f0 f1 f2
          generalize wr.heap.size = q at hq2 hO2 ⊢
          obtain ⟨hnd, hkl, hsm, hvn, hemp, hgood⟩ := h2.facts
          replace hgood := Aside0.mk hgood
          clear hnd hvn hemp
          replace h2 := Aside0.mk h2
          replace hO2 := Aside0.mk hO2
          replace hB2 := Aside0.mk hB2
          replace hF2 := Aside0.mk hF2
          go_wp2_with (go_at_call 87; refine (owners_did h2.out (by omega)).mono ?_; rintro e W2 ⟨r, rfl, hown, hb2⟩; obtain ⟨A2, c2, rfl, hread⟩ := strs_read hown; clear hown; replace hread := Aside0.mk hread; have h3 := Aside0.mk (h2.out.below hb2); replace hb2 := Aside0.mk hb2)
          go_loopw [63, 6] (fun i t wj => ∃ j : Nat, i = .int .i64 j ∧ j ≤ ks2.length ∧ t = .int .i64 (sumOf (ks2.take j) vs2) ∧ W2 = wj) (fun i _ _ => ks2.length - (intOf i).toNat)
          case atStart => exact ⟨0, rfl, Nat.zero_le _, rfl, rfl⟩
          case round =>
            obtain ⟨j, rfl, hj, rfl, rfl⟩ := hrel
            by_cases hjl : j < ks2.length
            · obtain ⟨g, rfl, hgl, hcell⟩ := hread.out j hjl
              have hC := Aside0.mk (count_did h3.out ks2[j] (hgood.out _ (List.getElem_mem hjl)))
              have hst := sumOf_take ks2 vs2 hjl
              have hlt2 : (sumOf (ks2.take j) vs2 : Int) + ((vs2 ks2[j]).length : Nat) = (sumOf (ks2.take (j + 1)) vs2 : Nat) := by omega
              have hle : sumOf (ks2.take (j + 1)) vs2 ≤ sumOf ks2 vs2 := by
                have := sumOf_append (ks2.take (j + 1)) (ks2.drop (j + 1)) vs2
                rw [List.take_append_drop] at this
                omega
              have hub : (sumOf (ks2.take j) vs2 : Int) + ((vs2 ks2[j]).length : Nat) ≤ 100000 := by omega
              replace hst := Aside0.mk hst
              replace hle := Aside0.mk hle
              replace hlt2 := Aside0.mk hlt2
              go_wp2_with (go_at_call 83; refine hC.out.mono ?_; rintro e w3 ⟨rfl, rfl⟩)
              go_roundw
              case rel => exact ⟨j + 1, by go_num, by omega, by rw [← hlt2.out], trivial⟩
              case measure => simp [intOf]; omega
            · obtain rfl : j = ks2.length := by omega
              rw [List.take_length]
              clear hread
              have hql := blk_lt hO2.out
              go_wp2_with (first | (go_at_call 81; refine (pairs_did h3.out).mono ?_; rintro e w3 ⟨rfl, rfl⟩) | (go_at_call 87; refine (owners_did h3.out (by omega)).mono ?_; rintro e W3 ⟨r3, rfl, hown3, hb3⟩; obtain ⟨A3, c3, rfl, _⟩ := strs_read hown3; clear hown3; have h4 := Aside0.mk (h3.out.below hb3); have p2 : W3.cell? ⟨q, 2, none⟩ = some (.int .i64 v) := (blk_cell ((hb3.block q (Nat.lt_of_lt_of_le hql hb2.out.size)).trans ((hb2.out.block q hql).trans hO2.out)) 2).trans rfl; replace hb3 := Aside0.mk hb3) | (go_at_call 80; refine (len_did h4.out).mono ?_; rintro e w3 ⟨rfl, rfl⟩) | (go_at_call 85; refine (by_did h4.out v hwv (by omega)).mono ?_; rintro e W4 ⟨r4, rfl, hown4, hb4⟩; obtain ⟨A4, c4, rfl, hread4⟩ := strs_read hown4; clear hown4; have h5 := Aside0.mk (h4.out.below hb4); have hb5 := Aside0.mk (hB2.out.trans ((hb2.out.trans ((hb3.out.mono hb2.out.size).trans (hb4.mono (Nat.le_trans hb2.out.size hb3.out.size)))).mono hB2.out.size)); replace hread4 := Aside0.mk hread4))
              have hRm : ∀ x ∈ ks2.filter (fun k => decide (v ∈ vs2 k)), x ∈ ks2 ∧ 1 ≤ (vs2 x).length := fun x hx => by
                obtain ⟨h1, h2⟩ := List.mem_filter.1 hx
                exact ⟨h1, List.length_pos_of_mem (of_decide_eq_true h2)⟩
              have hRl := List.length_filter_le (fun k => decide (v ∈ vs2 k)) ks2
              generalize ks2.filter (fun k => decide (v ∈ vs2 k)) = R at hread4 hRm hRl ⊢
              replace hRm := Aside0.mk hRm
              clear p2 hO2 hB2 hb2 hb3 h3 h4 h2
              go_loopw [90] (fun i wj => ∃ j : Nat, i = .int .i64 j ∧ j ≤ R.length ∧ Below W4.heap.size W4 wj) (fun i _ => R.length - (intOf i).toNat)
              case atStart => exact ⟨0, rfl, Nat.zero_le _, Below.refl _ _⟩
              case round =>
                obtain ⟨j, rfl, hj, hbj⟩ := hrel
                by_cases hjl : j < R.length
                · obtain ⟨g, rfl, hgl, hcell⟩ := hread4.out j hjl
                  have hcj := (hbj.cell (p := ⟨g, j, none⟩) hgl).trans hcell
                  obtain ⟨hm, hc1⟩ := hRm.out _ (List.getElem_mem hjl)
                  have hsz := hgood.out _ hm
                  have hC := Aside0.mk (is_did (h5.out.below hbj) R[j] hsz)
                  rw [decide_eq_true hm] at hC
                  have hD := Aside0.mk (fun W hb => count_did (w := W) ((h5.out.below hbj).below hb) R[j] hsz)
                  replace hbj := Aside0.mk hbj
                  clear hm
                  go_wp2_with (first | (go_at_call 82; refine hC.out.mono ?_; rintro e w6 ⟨rfl, hb6⟩; replace hb6 := Aside0.mk hb6) | (go_at_call 83; refine (hD.out _ hb6.out).mono ?_; rintro e w7 ⟨rfl, rfl⟩))
                  go_roundw
                  case rel => exact ⟨j + 1, by go_num, by omega, hbj.out.trans (hb6.out.mono hbj.out.size)⟩
                  case measure => simp [intOf]; omega
                · obtain rfl : j = R.length := by omega
                  replace hbj := Aside0.mk hbj
                  go_wp2
                  go_roundw
                  case rel => exact ⟨k + 1, _, _, by go_num, by omega, (h5.out.below hbj.out).mono (fun b x _ => hF2.out b x), hb5.out.trans (hbj.out.mono hb5.out.size)⟩
                  case measure => simp [intOf]; omega
      · obtain rfl : k = len := by omega
        replace hBel := Aside0.mk hBel
        clear hL
        go_wp2_with (go_at_call 64; refine (awake_walk _).mono ?_; rintro e w2 ⟨rfl, b2⟩; replace b2 := Aside0.mk b2)
        go_ret
        exact ⟨rfl, hBel.out.trans (b2.out.mono hBel.out.size)⟩
end Go.Proofs.Ytnncomhgclffaaa.BI
