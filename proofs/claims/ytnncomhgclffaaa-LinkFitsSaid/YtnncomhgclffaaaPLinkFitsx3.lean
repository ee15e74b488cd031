-- PRINTED BY print.sh 35421559b90ae4d0a3588c463048766b98c2df88dd9212a6774a882060cdf62d: not written by this session
import Derived.Test.YtnncomhgclffaaaPLinkFitsx0
import Derived.Test.YtnncomhgclffaaaPLinkFitsx2
namespace Go.Proofs.Ytnncomhgclffaaa.PLinkFits
open Go.RowKit Go.Proofs.YtnncomhgclffaaaW.PrintWords Go.Proofs.YtnncomhgclffaaaW.PrintLast Go.Proofs.YtnncomhgclffaaaW.PrintMore
attribute [local go_sem] max2_int min2_int max_two min_two max_three min_three max_four min_four   -- for this text's walks alone
set_option linter.unusedVariables false
set_option linter.unusedSimpArgs false

/-! ### retiarylaw18_LinkFits: function 3 -/
mutual
def retiarylaw18_LinkFits.l0 : Nat → Int → Int → List Int → Int → Int → Bool → Bool → Option (Bool)
  | 0, _, _, _, _, _, _, _ => none
  | k + 1, x7, x8, x32, x33, x34, x126000, x126001 => if x34 < x33 then (if 0 ≤ x34 then (if x34 < (x32.length : Int) then (if (Int.tmod (rd x32 x34) 2) = 0 then ((link_Items.f k x126000 x126001 x7 (Int.tmod (wrap64 (Int.tdiv (wrap64 (rd x32 x34)) 2)) 5) x8).bind fun bt131 => (retiarylaw18_LinkFits.j1 k (Int.tmod (wrap64 (Int.tdiv (wrap64 (rd x32 x34)) 2)) 5) x8 x32 x33 x34 bt131.1 bt131.2)) else ((link_Above.f k x126000 x126001 x8 (Int.tmod (wrap64 (Int.tdiv (wrap64 (rd x32 x34)) 2)) 5) x7).bind fun bt133 => (retiarylaw18_LinkFits.j1 k x7 (Int.tmod (wrap64 (Int.tdiv (wrap64 (rd x32 x34)) 2)) 5) x32 x33 x34 bt133.1 bt133.2))) else (none)) else (none)) else ((retiarylaw18_awake.f k).bind fun t129 => (some t129))
def retiarylaw18_LinkFits.j1 : Nat → Int → Int → List Int → Int → Int → Bool → Bool → Option (Bool)
  | 0, _, _, _, _, _, _, _ => none
  | k + 1, x7, x8, x32, x33, x34, x126000, x126001 => (retiarylaw18_ref.f x126000 x126001).bind fun bt135 => ((retiaryref18_Fits.f bt135.1 bt135.2 x7 x8).bind fun t137 => (if t137 = true then (retiarylaw18_LinkFits.l0 k x7 x8 x32 x33 (wrap64 (x34 + 1)) x126000 x126001) else (some false)))
end
def retiarylaw18_LinkFits.f (k : Nat) (a0 : Int) (a1 : Int) (l2 : List Int) : Option (Bool) := if (l2.length : Int) > 100 then ((retiarylaw18_awake.f k).bind fun t122 => (some t122)) else ((link_Start.f (Int.tmod (wrap64 (a0)) 5) (Int.tmod (wrap64 (a1)) 5)).bind fun bt123 => ((retiarylaw18_ref.f bt123.1 bt123.2).bind fun bt126 => ((retiaryref18_Fits.f bt126.1 bt126.2 (Int.tmod (wrap64 (a0)) 5) (Int.tmod (wrap64 (a1)) 5)).bind fun t128 => (if t128 = true then (retiarylaw18_LinkFits.l0 k (Int.tmod (wrap64 (a0)) 5) (Int.tmod (wrap64 (a1)) 5) l2 (l2.length : Int) 0 bt123.1 bt123.2) else (some false)))))
theorem retiarylaw18_LinkFits.mono_l : ∀ k, (∀ y0 y1 y2 y3 y4 y5 y6, LeO (retiarylaw18_LinkFits.l0 k y0 y1 y2 y3 y4 y5 y6) (retiarylaw18_LinkFits.l0 (k + 1) y0 y1 y2 y3 y4 y5 y6)) ∧ (∀ y0 y1 y2 y3 y4 y5 y6, LeO (retiarylaw18_LinkFits.j1 k y0 y1 y2 y3 y4 y5 y6) (retiarylaw18_LinkFits.j1 (k + 1) y0 y1 y2 y3 y4 y5 y6))
  | 0 => ⟨fun _ _ _ _ _ _ _ r h => by simp [retiarylaw18_LinkFits.l0] at h, fun _ _ _ _ _ _ _ r h => by simp [retiarylaw18_LinkFits.j1] at h⟩
  | k + 1 => by
    obtain ⟨ih0, ih1⟩ := retiarylaw18_LinkFits.mono_l k
    refine ⟨?_, ?_⟩
    · intro y0 y1 y2 y3 y4 y5 y6
      unfold retiarylaw18_LinkFits.l0
      repeat' first
      | (with_reducible exact ih0 _ _ _ _ _ _ _)
      | (with_reducible exact ih1 _ _ _ _ _ _ _)
      | (with_reducible exact link_Above.mono _ _ _ _ _ _)
      | (with_reducible exact link_Items.mono _ _ _ _ _ _)
      | (with_reducible exact retiarylaw18_awake.mono _)
      | (with_reducible exact LeO.refl _)
      | (with_reducible exact LeO.none _)
      | (with_reducible refine LeO.ite ?_ ?_)
      | (with_reducible refine LeO.bind ?_ (fun _ => ?_))
      | exact ih0 _ _ _ _ _ _ _
      | exact ih1 _ _ _ _ _ _ _
      | exact link_Above.mono _ _ _ _ _ _
      | exact link_Items.mono _ _ _ _ _ _
      | exact retiarylaw18_awake.mono _
      | exact LeO.none _
      | refine LeO.ite ?_ ?_
      | refine LeO.bind ?_ (fun _ => ?_)
    · intro y0 y1 y2 y3 y4 y5 y6
      unfold retiarylaw18_LinkFits.j1
      repeat' first
      | (with_reducible exact ih0 _ _ _ _ _ _ _)
      | (with_reducible exact ih1 _ _ _ _ _ _ _)
      | (with_reducible exact link_Above.mono _ _ _ _ _ _)
      | (with_reducible exact link_Items.mono _ _ _ _ _ _)
      | (with_reducible exact retiarylaw18_awake.mono _)
      | (with_reducible exact LeO.refl _)
      | (with_reducible exact LeO.none _)
      | (with_reducible refine LeO.ite ?_ ?_)
      | (with_reducible refine LeO.bind ?_ (fun _ => ?_))
      | exact ih0 _ _ _ _ _ _ _
      | exact ih1 _ _ _ _ _ _ _
      | exact link_Above.mono _ _ _ _ _ _
      | exact link_Items.mono _ _ _ _ _ _
      | exact retiarylaw18_awake.mono _
      | exact LeO.none _
      | refine LeO.ite ?_ ?_
      | refine LeO.bind ?_ (fun _ => ?_)
theorem retiarylaw18_LinkFits.mono : ∀ a0 a1 a2 k, LeO (retiarylaw18_LinkFits.f k a0 a1 a2) (retiarylaw18_LinkFits.f (k + 1) a0 a1 a2) := by
  intro a0 a1 a2 k
  obtain ⟨ih0, ih1⟩ := retiarylaw18_LinkFits.mono_l k
  unfold retiarylaw18_LinkFits.f
  repeat' first
      | (with_reducible exact ih0 _ _ _ _ _ _ _)
      | (with_reducible exact ih1 _ _ _ _ _ _ _)
      | (with_reducible exact link_Above.mono _ _ _ _ _ _)
      | (with_reducible exact link_Items.mono _ _ _ _ _ _)
      | (with_reducible exact retiarylaw18_awake.mono _)
      | (with_reducible exact LeO.refl _)
      | (with_reducible exact LeO.none _)
      | (with_reducible refine LeO.ite ?_ ?_)
      | (with_reducible refine LeO.bind ?_ (fun _ => ?_))
      | exact ih0 _ _ _ _ _ _ _
      | exact ih1 _ _ _ _ _ _ _
      | exact link_Above.mono _ _ _ _ _ _
      | exact link_Items.mono _ _ _ _ _ _
      | exact retiarylaw18_awake.mono _
      | exact LeO.none _
      | refine LeO.ite ?_ ?_
      | refine LeO.bind ?_ (fun _ => ?_)
set_option maxHeartbeats 8000000 in
set_option maxRecDepth 100000 in
theorem retiarylaw18_LinkFits.calls (k : Nat) (a0 : Int) (a1 : Int) (A2 : Option Addr) (c2 : Nat) (l2 : List Int) (r : Bool) (w : World) (hr2 : Kd.C (Kd.int .u8) w A2 l2.length l2) (hc2 : l2.length ≤ c2) (h : retiarylaw18_LinkFits.f k a0 a1 l2 = some r) :
    Calls Try.prog 3 #[.int .u8 a0, .int .u8 a1, .slice A2 l2.length c2] w fun e w' => e = .returned (.bool r) ∧ Below w.heap.size w w' := by
  have hu25 := Try.underlying25
  have HR2 := Aside0.mk hr2
  have HC2 := Aside0.mk hc2
  clear hr2 hc2
  have HB := Aside0.mk (Below.refl w.heap.size w)
  have H : (if (l2.length : Int) > 100 then ((retiarylaw18_awake.f k).bind fun t122 => (some t122)) else ((link_Start.f (Int.tmod (wrap64 (a0)) 5) (Int.tmod (wrap64 (a1)) 5)).bind fun bt123 => ((retiarylaw18_ref.f bt123.1 bt123.2).bind fun bt126 => ((retiaryref18_Fits.f bt126.1 bt126.2 (Int.tmod (wrap64 (a0)) 5) (Int.tmod (wrap64 (a1)) 5)).bind fun t128 => (if t128 = true then (retiarylaw18_LinkFits.l0 k (Int.tmod (wrap64 (a0)) 5) (Int.tmod (wrap64 (a1)) 5) l2 (l2.length : Int) 0 bt123.1 bt123.2) else (some false)))))) = some r := h
  clear h
  by_cases c4 : (l2.length : Int) > 100
  · rw [if_pos c4] at H
    have c4b0 : decide (100 < (l2.length : Int)) = true := decide_eq_true c4
    have c4b1 : decide (100 < l2.length) = true := decide_eq_true (by omega)
    clear c4
    replace H := Option.bind_eq_some_iff.mp H
    obtain ⟨t122, A50, H⟩ := H
    replace H : (some t122) = some r := H
    have A5 := Aside0.mk A50
    clear A50
    obtain rfl := Option.some.inj H
    go_enter Try.func3, Try.ntmps3
    go_wp2_with (first | ((with_reducible refine gate_callee (f := 16) rfl ?_); refine goesL_ (some 16) rfl rfl Try.func16 (by kernel_rfl) rfl #[] rfl (by (try simp only [List.map_toArray, List.map_cons, List.map_nil]); first | done | rfl | (simp only [List.length_drop, List.length_take]; rfl)) ?_; (with_reducible refine (retiarylaw18_awake.calls k  t122 _ A5.out).mono ?_); rintro e w6 ⟨rfl, hb⟩; refine ⟨_, rfl, ?_⟩; have n0_ := Aside0.mk (below_step (by repeat (first | (with_reducible first | exact HB.out | apply below_alloc | apply pw_below_drewN | apply below_drew1) | exact HB.out)) hb); clear HB; have HB := n0_; clear n0_; (try clear hb); (try clear hb2); (try clear hk); (try clear hi)))
    go_ret
    exact ⟨by first | rfl | (simp [errW_none, errW_some] <;> rfl) | (simp [*, errW_none, errW_some] <;> rfl), by repeat (first | (with_reducible first | exact HB.out | apply below_alloc | apply pw_below_drewN | apply below_drew1) | exact HB.out)⟩
  · rw [if_neg c4] at H
    have c4b0 : decide (100 < (l2.length : Int)) = false := decide_eq_false c4
    have c4b1 : decide (100 < l2.length) = false := decide_eq_false (by omega)
    clear c4
    replace H := Option.bind_eq_some_iff.mp H
    obtain ⟨⟨t123, t124⟩, A70, H⟩ := H
    replace H : ((retiarylaw18_ref.f t123 t124).bind fun bt126 => ((retiaryref18_Fits.f bt126.1 bt126.2 (Int.tmod (wrap64 (a0)) 5) (Int.tmod (wrap64 (a1)) 5)).bind fun t128 => (if t128 = true then (retiarylaw18_LinkFits.l0 k (Int.tmod (wrap64 (a0)) 5) (Int.tmod (wrap64 (a1)) 5) l2 (l2.length : Int) 0 t123 t124) else (some false)))) = some r := H
    have A7 := Aside0.mk A70
    clear A70
    replace H := Option.bind_eq_some_iff.mp H
    obtain ⟨⟨t126, t127⟩, A80, H⟩ := H
    replace H : ((retiaryref18_Fits.f t126 t127 (Int.tmod (wrap64 (a0)) 5) (Int.tmod (wrap64 (a1)) 5)).bind fun t128 => (if t128 = true then (retiarylaw18_LinkFits.l0 k (Int.tmod (wrap64 (a0)) 5) (Int.tmod (wrap64 (a1)) 5) l2 (l2.length : Int) 0 t123 t124) else (some false))) = some r := H
    have A8 := Aside0.mk A80
    clear A80
    replace H := Option.bind_eq_some_iff.mp H
    obtain ⟨t128, A90, H⟩ := H
    replace H : (if t128 = true then (retiarylaw18_LinkFits.l0 k (Int.tmod (wrap64 (a0)) 5) (Int.tmod (wrap64 (a1)) 5) l2 (l2.length : Int) 0 t123 t124) else (some false)) = some r := H
    have A9 := Aside0.mk A90
    clear A90
    by_cases c10 : t128 = true
    · subst c10
      have H1 : (retiarylaw18_LinkFits.l0 k (Int.tmod (wrap64 (a0)) 5) (Int.tmod (wrap64 (a1)) 5) l2 (l2.length : Int) 0 t123 t124) = some r := by rw [if_pos rfl] at H; exact H
      clear H
      have H := H1
      clear H1
      have H' := Aside0.mk H
      clear H
      go_enter Try.func3, Try.ntmps3
      go_wp2_with (first | ((with_reducible refine gate_callee (f := 17) rfl ?_); refine goesL_ (some 25) rfl rfl Try.func17 (by kernel_rfl) rfl #[.int .i64 (Int.tmod (wrap64 (a0)) 5), .int .i64 (Int.tmod (wrap64 (a1)) 5)] rfl (by (try simp only [List.map_toArray, List.map_cons, List.map_nil]); first | done | rfl | (simp only [List.length_drop, List.length_take]; rfl)) ?_; (with_reducible refine (link_Start.calls (Int.tmod (wrap64 (a0)) 5) (Int.tmod (wrap64 (a1)) 5) t123 t124 _ A7.out).mono ?_); rintro e w11 ⟨rfl, hb⟩; refine ⟨_, rfl, ?_⟩; have n0_ := Aside0.mk (below_step (by repeat (first | (with_reducible first | exact HB.out | apply below_alloc | apply pw_below_drewN | apply below_drew1) | exact HB.out)) hb); clear HB; have HB := n0_; clear n0_; (try clear hb); (try clear hb2); (try clear hk); (try clear hi)) | ((with_reducible refine gate_dst (N := 9) rfl ?_); refine box_event ?hg (N := 9) ?hd (cs := #[.bool false, .bool false]) (t := 25) ?hr ?_; (case hd => rfl); (case hg => rfl); (case hr => first | (go_simp; done) | (go_simp; rfl)); intro gb125 hg w12 hbox hb; have n0_ := Aside0.mk (below_step (by repeat (first | (with_reducible first | exact HB.out | apply below_alloc | apply pw_below_drewN | apply below_drew1) | exact HB.out)) hb); have n1_ := Aside0.mk (hbox); have n2_ := Aside0.mk ((by rw [hg]; exact (below_size (by repeat (first | (with_reducible first | exact HB.out | apply below_alloc | apply pw_below_drewN | apply below_drew1) | exact HB.out))) : w.heap.size ≤ gb125)); have n3_ := Aside0.mk ((by rw [hg]; exact (below_size (by repeat (first | (with_reducible first | exact HB.out | apply below_alloc | apply pw_below_drewN | apply below_drew1) | exact HB.out))) : w.heap.size ≤ gb125)); clear HB; have HB := n0_; have BK125 := n1_; have GW125 := n2_; have GE125 := n3_; clear n0_ n1_ n2_ n3_; clear hb hbox hg; have hcz13_0 : w12.cell? ⟨gb125, 0, none⟩ = some (.bool false) := (blk_cell BK125.out 0).trans rfl; have hcz13_1 : w12.cell? ⟨gb125, 1, none⟩ = some (.bool false) := (blk_cell BK125.out 1).trans rfl; have hfz13_0 := blk_frozen BK125.out 0; have hfz13_1 := blk_frozen BK125.out 1) | ((with_reducible refine gate_callee (f := 19) rfl ?_); refine goesL_ (some 27) rfl rfl Try.func19 (by kernel_rfl) rfl #[.agg #[.bool t123, .bool t124]] rfl (by (try simp only [List.map_toArray, List.map_cons, List.map_nil]); first | done | rfl | (simp only [List.length_drop, List.length_take]; rfl)) ?_; (with_reducible refine (retiarylaw18_ref.calls t123 t124 t126 t127 _ A8.out).mono ?_); rintro e w14 ⟨rfl, hb⟩; refine ⟨_, rfl, ?_⟩; have n0_ := Aside0.mk (blk_below (g := gb125) (o := .cells #[.bool t123, .bool t124] 25 (0, 0)) (by (with_reducible repeat (first | refine blk_drewN ?_ _ | refine blk_drew ?_ | refine blk_alloc ?_ _)); refine blk_put (cs := #[.bool t123, .bool false]) ?_ 1 _ rfl; (with_reducible repeat (first | refine blk_drewN ?_ _ | refine blk_drew ?_ | refine blk_alloc ?_ _)); refine blk_put (cs := #[.bool false, .bool false]) ?_ 0 _ rfl; (with_reducible repeat (first | refine blk_drewN ?_ _ | refine blk_drew ?_ | refine blk_alloc ?_ _)); exact BK125.out) hb); have n1_ := Aside0.mk (below_step (by repeat (first | (with_reducible first | exact HB.out | apply below_alloc | apply pw_below_drewN | apply below_drew1 | refine below_set ?_ GE125.out) | exact HB.out)) hb); clear BK125; clear HB; have BK125 := n0_; have HB := n1_; clear n0_ n1_; (try clear hb); (try clear hb2); (try clear hk); (try clear hi)) | ((with_reducible refine gate_callee (f := 18) rfl ?_); refine goesL_ (some 30) rfl rfl Try.func18 (by kernel_rfl) rfl #[.agg #[.int .i64 t126, .int .i64 t127], .int .i64 (Int.tmod (wrap64 (a0)) 5), .int .i64 (Int.tmod (wrap64 (a1)) 5)] rfl (by (try simp only [List.map_toArray, List.map_cons, List.map_nil]); first | done | rfl | (simp only [List.length_drop, List.length_take]; rfl)) ?_; (with_reducible refine (retiaryref18_Fits.calls t126 t127 (Int.tmod (wrap64 (a0)) 5) (Int.tmod (wrap64 (a1)) 5) true _ A9.out).mono ?_); rintro e w15 ⟨rfl, hb⟩; refine ⟨_, rfl, ?_⟩; have n0_ := Aside0.mk (blk_below (g := gb125) (o := .cells #[.bool t123, .bool t124] 25 (0, 0)) (by (with_reducible repeat (first | refine blk_drewN ?_ _ | refine blk_drew ?_ | refine blk_alloc ?_ _)); exact BK125.out) hb); have n1_ := Aside0.mk (below_step (by repeat (first | (with_reducible first | exact HB.out | apply below_alloc | apply pw_below_drewN | apply below_drew1 | refine below_set ?_ GE125.out) | exact HB.out)) hb); clear BK125; clear HB; have BK125 := n0_; have HB := n1_; clear n0_ n1_; (try clear hb); (try clear hb2); (try clear hk); (try clear hi)))
      go_loopg [7, 8, 34] k (fun kq v7 v8 v34 w' => ∃ (x7_1 : Int) (x8_1 : Int) (x34_1 : Int) (x126000_1 : Bool) (x126001_1 : Bool), v7 = .int .i64 x7_1 ∧ v8 = .int .i64 x8_1 ∧ v34 = .int .i64 x34_1 ∧ Aside0 (retiarylaw18_LinkFits.l0 kq x7_1 x8_1 l2 (l2.length : Int) x34_1 x126000_1 x126001_1 = some r) ∧ Aside0 (kq ≤ k) ∧ Aside0 (w'.heap[gb125]? = some (.cells #[.bool x126000_1, .bool x126001_1] 25 (0, 0))) ∧ Aside0 (Below w.heap.size w w'))
      case atStart => exact ⟨(Int.tmod (wrap64 (a0)) 5), (Int.tmod (wrap64 (a1)) 5), (0), (t123), (t124), (by first | rfl | (simp; done) | (simp [*]; done)), (by first | rfl | (simp; done) | (simp [*]; done)), (by first | rfl | (simp; done) | (simp [*]; done)), H', ⟨Nat.le_refl _⟩, ⟨by (with_reducible repeat (first | refine blk_drewN ?_ _ | refine blk_drew ?_ | refine blk_alloc ?_ _)); exact BK125.out⟩, ⟨by repeat (first | (with_reducible first | exact HB.out | apply below_alloc | apply pw_below_drewN | apply below_drew1 | refine below_set ?_ GE125.out) | exact HB.out)⟩⟩
      case round =>
        clear H'
        try clear c1
        try clear c2
        try clear p2
        try clear c3
        try clear c4
        try clear c4b0
        try clear c4b1
        try clear p6
        try clear c10
        try clear hcz13_0
        try clear hcz13_1
        try clear hfz13_0
        try clear hfz13_1
        obtain ⟨x7_1, x8_1, x34_1, x126000_1, x126001_1, rfl, rfl, rfl, HA, HK1, BK125, HB⟩ := hrel
        cases gk with
        | zero => exact absurd HA.out (by simp [retiarylaw18_LinkFits.l0])
        | succ k1 =>
          have H := HA.out
          clear HA
          simp only [retiarylaw18_LinkFits.l0] at H
          by_cases c16 : x34_1 < (l2.length : Int)
          · rw [if_pos c16] at H
            have c16b0 : decide (x34_1 < (l2.length : Int)) = true := decide_eq_true c16
            clear c16
            by_cases c17 : 0 ≤ x34_1
            · rw [if_pos c17] at H
              have c17b0 : decide (0 ≤ x34_1) = true := decide_eq_true c17
              clear c17
              by_cases c18 : x34_1 < (l2.length : Int)
              · rw [if_pos c18] at H
                have c18b0 : decide (x34_1 < (l2.length : Int)) = true := decide_eq_true c18
                clear c18
                have HC19 := Aside0.mk H
                clear H
                have p130 : 0 ≤ (x34_1 : Int) := of_decide_eq_true (by first | (with_reducible assumption) | assumption)
                have q130 : x34_1 < (l2.length : Int) := of_decide_eq_true (by first | (with_reducible assumption) | assumption)
                obtain ⟨ad130, e130, hx130_0⟩ := Kd.at_int HR2.out x34_1 p130 q130
                cases e130
                replace hx130_0 := (HB.out.cell (World.block_lt_of_cell? w _ hx130_0)).trans hx130_0
                replace p130 := eq_true p130
                replace q130 := eq_true q130
                go_upto_if 44 with (fail)
                go_cut [7, 8] (fun v7 v8 wc => ∃ (kq : Nat) (x7_18 : Int) (x8_18 : Int) (x126000_18 : Bool) (x126001_18 : Bool), v7 = .int .i64 x7_18 ∧ v8 = .int .i64 x8_18 ∧ Aside0 (retiarylaw18_LinkFits.j1 kq x7_18 x8_18 l2 (l2.length : Int) x34_1 x126000_18 x126001_18 = some r) ∧ Aside0 (kq ≤ k1) ∧ Aside0 (wc.heap[gb125]? = some (.cells #[.bool x126000_18, .bool x126001_18] 25 (0, 0))) ∧ Aside0 (Below w.heap.size w wc))
                case first =>
                  have H := HC19.out
                  clear HC19
                  by_cases c20 : (Int.tmod (rd l2 x34_1) 2) = 0
                  · rw [if_pos c20] at H
                    have c20b0 : ((Int.tmod (rd l2 x34_1) 2) == 0) = true := beq_iff_eq.mpr c20
                    have c20b1 : ((Int.tmod (rd l2 x34_1) 2) != 0) = false := bne_eq_false_iff_eq.mpr c20
                    clear c20
                    (first | rw [c20b0] | (simp only [i64_w, i32_w]; rw [c20b0]) | skip)
                    replace H := Option.bind_eq_some_iff.mp H
                    obtain ⟨⟨t131, t132⟩, A210, H⟩ := H
                    replace H : (retiarylaw18_LinkFits.j1 k1 (Int.tmod (wrap64 (Int.tdiv (wrap64 (rd l2 x34_1)) 2)) 5) x8_1 l2 (l2.length : Int) x34_1 t131 t132) = some r := H
                    have A21 := Aside0.mk A210
                    clear A210
                    have H' := Aside0.mk H
                    clear H
                    have hcz22_0 : wr.cell? ⟨gb125, 0, none⟩ = some (.bool x126000_1) := (blk_cell BK125.out 0).trans rfl
                    have hcz22_1 : wr.cell? ⟨gb125, 1, none⟩ = some (.bool x126001_1) := (blk_cell BK125.out 1).trans rfl
                    have hfz22_0 := blk_frozen BK125.out 0
                    have hfz22_1 := blk_frozen BK125.out 1
                    go_wp2_with (first | ((with_reducible refine gate_callee (f := 20) rfl ?_); refine goesL_ (some 49) rfl rfl Try.func20 (by kernel_rfl) rfl #[.agg #[.bool x126000_1, .bool x126001_1], .int .i64 x7_1, .int .i64 (Int.tmod (wrap64 (Int.tdiv (wrap64 (rd l2 x34_1)) 2)) 5), .int .i64 x8_1] rfl (by (try simp only [List.map_toArray, List.map_cons, List.map_nil]); first | done | rfl | (simp only [List.length_drop, List.length_take]; rfl)) ?_; (with_reducible refine (link_Items.calls k1 x126000_1 x126001_1 x7_1 (Int.tmod (wrap64 (Int.tdiv (wrap64 (rd l2 x34_1)) 2)) 5) x8_1 t131 t132 _ A21.out).mono ?_); rintro e w23 ⟨rfl, hb⟩; refine ⟨_, rfl, ?_⟩; have n0_ := Aside0.mk (blk_below (g := gb125) (o := .cells #[.bool x126000_1, .bool x126001_1] 25 (0, 0)) (by (with_reducible repeat (first | refine blk_drewN ?_ _ | refine blk_drew ?_ | refine blk_alloc ?_ _)); exact BK125.out) hb); have n1_ := Aside0.mk (below_step (by repeat (first | (with_reducible first | exact HB.out | apply below_alloc | apply pw_below_drewN | apply below_drew1 | refine below_set ?_ GE125.out) | exact HB.out)) hb); clear BK125; clear HB; have BK125 := n0_; have HB := n1_; clear n0_ n1_; (try clear hb); (try clear hb2); (try clear hk); (try clear hi); have hcz24_0 : w23.cell? ⟨gb125, 0, none⟩ = some (.bool x126000_1) := (blk_cell BK125.out 0).trans rfl; have hcz24_1 : w23.cell? ⟨gb125, 1, none⟩ = some (.bool x126001_1) := (blk_cell BK125.out 1).trans rfl; have hfz24_0 := blk_frozen BK125.out 0; have hfz24_1 := blk_frozen BK125.out 1))
                    go_meet
                    case rel => exact ⟨_, (Int.tmod (wrap64 (Int.tdiv (wrap64 (rd l2 x34_1)) 2)) 5), (x8_1), (t131), (t132), (by first | rfl | (simp; done) | (simp [*]; done)), (by first | rfl | (simp; done) | (simp [*]; done)), H', ⟨by have := HK1.out; first | omega | exact Nat.le_refl _⟩, ⟨by (with_reducible repeat (first | refine blk_drewN ?_ _ | refine blk_drew ?_ | refine blk_alloc ?_ _)); refine blk_put (cs := #[.bool t131, .bool x126001_1]) ?_ 1 _ rfl; (with_reducible repeat (first | refine blk_drewN ?_ _ | refine blk_drew ?_ | refine blk_alloc ?_ _)); refine blk_put (cs := #[.bool x126000_1, .bool x126001_1]) ?_ 0 _ rfl; (with_reducible repeat (first | refine blk_drewN ?_ _ | refine blk_drew ?_ | refine blk_alloc ?_ _)); exact BK125.out⟩, ⟨by repeat (first | (with_reducible first | exact HB.out | apply below_alloc | apply pw_below_drewN | apply below_drew1 | refine below_set ?_ GE125.out) | exact HB.out)⟩⟩
                  · rw [if_neg c20] at H
                    have c20b0 : ((Int.tmod (rd l2 x34_1) 2) == 0) = false := beq_eq_false_iff_ne.mpr c20
                    have c20b1 : ((Int.tmod (rd l2 x34_1) 2) != 0) = true := bne_iff_ne.mpr c20
                    (first | rw [c20b0] | (simp only [i64_w, i32_w]; rw [c20b0]) | skip)
                    replace H := Option.bind_eq_some_iff.mp H
                    obtain ⟨⟨t133, t134⟩, A250, H⟩ := H
                    replace H : (retiarylaw18_LinkFits.j1 k1 x7_1 (Int.tmod (wrap64 (Int.tdiv (wrap64 (rd l2 x34_1)) 2)) 5) l2 (l2.length : Int) x34_1 t133 t134) = some r := H
                    have A25 := Aside0.mk A250
                    clear A250
                    have H' := Aside0.mk H
                    clear H
                    have hcz26_0 : wr.cell? ⟨gb125, 0, none⟩ = some (.bool x126000_1) := (blk_cell BK125.out 0).trans rfl
                    have hcz26_1 : wr.cell? ⟨gb125, 1, none⟩ = some (.bool x126001_1) := (blk_cell BK125.out 1).trans rfl
                    have hfz26_0 := blk_frozen BK125.out 0
                    have hfz26_1 := blk_frozen BK125.out 1
                    go_wp2_with (first | ((with_reducible refine gate_callee (f := 21) rfl ?_); refine goesL_ (some 55) rfl rfl Try.func21 (by kernel_rfl) rfl #[.agg #[.bool x126000_1, .bool x126001_1], .int .i64 x8_1, .int .i64 (Int.tmod (wrap64 (Int.tdiv (wrap64 (rd l2 x34_1)) 2)) 5), .int .i64 x7_1] rfl (by (try simp only [List.map_toArray, List.map_cons, List.map_nil]); first | done | rfl | (simp only [List.length_drop, List.length_take]; rfl)) ?_; (with_reducible refine (link_Above.calls k1 x126000_1 x126001_1 x8_1 (Int.tmod (wrap64 (Int.tdiv (wrap64 (rd l2 x34_1)) 2)) 5) x7_1 t133 t134 _ A25.out).mono ?_); rintro e w27 ⟨rfl, hb⟩; refine ⟨_, rfl, ?_⟩; have n0_ := Aside0.mk (blk_below (g := gb125) (o := .cells #[.bool x126000_1, .bool x126001_1] 25 (0, 0)) (by (with_reducible repeat (first | refine blk_drewN ?_ _ | refine blk_drew ?_ | refine blk_alloc ?_ _)); exact BK125.out) hb); have n1_ := Aside0.mk (below_step (by repeat (first | (with_reducible first | exact HB.out | apply below_alloc | apply pw_below_drewN | apply below_drew1 | refine below_set ?_ GE125.out) | exact HB.out)) hb); clear BK125; clear HB; have BK125 := n0_; have HB := n1_; clear n0_ n1_; (try clear hb); (try clear hb2); (try clear hk); (try clear hi); have hcz28_0 : w27.cell? ⟨gb125, 0, none⟩ = some (.bool x126000_1) := (blk_cell BK125.out 0).trans rfl; have hcz28_1 : w27.cell? ⟨gb125, 1, none⟩ = some (.bool x126001_1) := (blk_cell BK125.out 1).trans rfl; have hfz28_0 := blk_frozen BK125.out 0; have hfz28_1 := blk_frozen BK125.out 1))
                    go_meet
                    case rel => exact ⟨_, (x7_1), (Int.tmod (wrap64 (Int.tdiv (wrap64 (rd l2 x34_1)) 2)) 5), (t133), (t134), (by first | rfl | (simp; done) | (simp [*]; done)), (by first | rfl | (simp; done) | (simp [*]; done)), H', ⟨by have := HK1.out; first | omega | exact Nat.le_refl _⟩, ⟨by (with_reducible repeat (first | refine blk_drewN ?_ _ | refine blk_drew ?_ | refine blk_alloc ?_ _)); refine blk_put (cs := #[.bool t133, .bool x126001_1]) ?_ 1 _ rfl; (with_reducible repeat (first | refine blk_drewN ?_ _ | refine blk_drew ?_ | refine blk_alloc ?_ _)); refine blk_put (cs := #[.bool x126000_1, .bool x126001_1]) ?_ 0 _ rfl; (with_reducible repeat (first | refine blk_drewN ?_ _ | refine blk_drew ?_ | refine blk_alloc ?_ _)); exact BK125.out⟩, ⟨by repeat (first | (with_reducible first | exact HB.out | apply below_alloc | apply pw_below_drewN | apply below_drew1 | refine below_set ?_ GE125.out) | exact HB.out)⟩⟩
                case rest =>
                  clear HC19
                  try clear c1
                  try clear p1
                  try clear q1
                  try clear hx1
                  try clear c2
                  try clear p2
                  try clear c3
                  try clear c4
                  try clear c4b0
                  try clear c4b1
                  try clear p6
                  try clear c10
                  try clear p13
                  try clear q13
                  try clear hx13
                  try clear c16
                  try clear c16b0
                  try clear c17
                  try clear c17b0
                  try clear c18
                  try clear c18b0
                  try clear c19
                  try clear c20
                  try clear c20b0
                  try clear c20b1
                  try clear c21
                  try clear hcz13_0
                  try clear hcz13_1
                  try clear hcz22_0
                  try clear hcz22_1
                  try clear hcz24_0
                  try clear hcz24_1
                  try clear hcz26_0
                  try clear hcz26_1
                  try clear hcz28_0
                  try clear hcz28_1
                  try clear hfz13_0
                  try clear hfz13_1
                  try clear hfz22_0
                  try clear hfz22_1
                  try clear hfz24_0
                  try clear hfz24_1
                  try clear hfz26_0
                  try clear hfz26_1
                  try clear hfz28_0
                  try clear hfz28_1
                  try clear hx130_0
                  try clear p130
                  try clear p2
                  try clear p6
                  try clear q130
                  obtain ⟨kq, x7_18, x8_18, x126000_18, x126001_18, rfl, rfl, HA, HJ18, BK125, HB⟩ := hcut
                  cases kq with
                  | zero => exact absurd HA.out (by simp [retiarylaw18_LinkFits.j1])
                  | succ kj18 =>
                    have H := HA.out
                    clear HA
                    simp only [retiarylaw18_LinkFits.j1] at H
                    replace H := Option.bind_eq_some_iff.mp H
                    obtain ⟨⟨t135, t136⟩, A290, H⟩ := H
                    replace H : ((retiaryref18_Fits.f t135 t136 x7_18 x8_18).bind fun t137 => (if t137 = true then (retiarylaw18_LinkFits.l0 kj18 x7_18 x8_18 l2 (l2.length : Int) (wrap64 (x34_1 + 1)) x126000_18 x126001_18) else (some false))) = some r := H
                    have A29 := Aside0.mk A290
                    clear A290
                    replace H := Option.bind_eq_some_iff.mp H
                    obtain ⟨t137, A300, H⟩ := H
                    replace H : (if t137 = true then (retiarylaw18_LinkFits.l0 kj18 x7_18 x8_18 l2 (l2.length : Int) (wrap64 (x34_1 + 1)) x126000_18 x126001_18) else (some false)) = some r := H
                    have A30 := Aside0.mk A300
                    clear A300
                    by_cases c31 : t137 = true
                    · subst c31
                      have H1 : (retiarylaw18_LinkFits.l0 kj18 x7_18 x8_18 l2 (l2.length : Int) (wrap64 (x34_1 + 1)) x126000_18 x126001_18) = some r := by rw [if_pos rfl] at H; exact H
                      clear H
                      have H := H1
                      clear H1
                      have H' := Aside0.mk H
                      clear H
                      have hcz32_0 : wc.cell? ⟨gb125, 0, none⟩ = some (.bool x126000_18) := (blk_cell BK125.out 0).trans rfl
                      have hcz32_1 : wc.cell? ⟨gb125, 1, none⟩ = some (.bool x126001_18) := (blk_cell BK125.out 1).trans rfl
                      have hfz32_0 := blk_frozen BK125.out 0
                      have hfz32_1 := blk_frozen BK125.out 1
                      go_wp2_with (first | ((with_reducible refine gate_callee (f := 19) rfl ?_); refine goesL_ (some 58) rfl rfl Try.func19 (by kernel_rfl) rfl #[.agg #[.bool x126000_18, .bool x126001_18]] rfl (by (try simp only [List.map_toArray, List.map_cons, List.map_nil]); first | done | rfl | (simp only [List.length_drop, List.length_take]; rfl)) ?_; (with_reducible refine (retiarylaw18_ref.calls x126000_18 x126001_18 t135 t136 _ A29.out).mono ?_); rintro e w33 ⟨rfl, hb⟩; refine ⟨_, rfl, ?_⟩; have n0_ := Aside0.mk (blk_below (g := gb125) (o := .cells #[.bool x126000_18, .bool x126001_18] 25 (0, 0)) (by (with_reducible repeat (first | refine blk_drewN ?_ _ | refine blk_drew ?_ | refine blk_alloc ?_ _)); exact BK125.out) hb); have n1_ := Aside0.mk (below_step (by repeat (first | (with_reducible first | exact HB.out | apply below_alloc | apply pw_below_drewN | apply below_drew1 | refine below_set ?_ GE125.out) | exact HB.out)) hb); clear BK125; clear HB; have BK125 := n0_; have HB := n1_; clear n0_ n1_; (try clear hb); (try clear hb2); (try clear hk); (try clear hi)) | ((with_reducible refine gate_callee (f := 18) rfl ?_); refine goesL_ (some 61) rfl rfl Try.func18 (by kernel_rfl) rfl #[.agg #[.int .i64 t135, .int .i64 t136], .int .i64 x7_18, .int .i64 x8_18] rfl (by (try simp only [List.map_toArray, List.map_cons, List.map_nil]); first | done | rfl | (simp only [List.length_drop, List.length_take]; rfl)) ?_; (with_reducible refine (retiaryref18_Fits.calls t135 t136 x7_18 x8_18 true _ A30.out).mono ?_); rintro e w34 ⟨rfl, hb⟩; refine ⟨_, rfl, ?_⟩; have n0_ := Aside0.mk (blk_below (g := gb125) (o := .cells #[.bool x126000_18, .bool x126001_18] 25 (0, 0)) (by (with_reducible repeat (first | refine blk_drewN ?_ _ | refine blk_drew ?_ | refine blk_alloc ?_ _)); exact BK125.out) hb); have n1_ := Aside0.mk (below_step (by repeat (first | (with_reducible first | exact HB.out | apply below_alloc | apply pw_below_drewN | apply below_drew1 | refine below_set ?_ GE125.out) | exact HB.out)) hb); clear BK125; clear HB; have BK125 := n0_; have HB := n1_; clear n0_ n1_; (try clear hb); (try clear hb2); (try clear hk); (try clear hi)))
                      go_roundg kj18
                      case measure => have := HK1.out; have := HJ18.out; omega
                      case rel => exact ⟨(x7_18), (x8_18), (wrap64 (x34_1 + 1)), (x126000_18), (x126001_18), (by first | rfl | (simp; done) | (simp [*]; done)), (by first | rfl | (simp; done) | (simp [*]; done)), (by first | rfl | (simp; done) | (simp [*]; done)), H', ⟨by have := HK1.out; have := HJ18.out; omega⟩, ⟨by (with_reducible repeat (first | refine blk_drewN ?_ _ | refine blk_drew ?_ | refine blk_alloc ?_ _)); exact BK125.out⟩, ⟨by repeat (first | (with_reducible first | exact HB.out | apply below_alloc | apply pw_below_drewN | apply below_drew1 | refine below_set ?_ GE125.out) | exact HB.out)⟩⟩
                    · replace c31 := Bool.eq_false_iff.mpr c31
                      subst c31
                      have H1 : (some false) = some r := by rw [if_neg (show ¬ (false = true) by decide)] at H; exact H
                      clear H
                      have H := H1
                      clear H1
                      obtain rfl := Option.some.inj H
                      have hcz35_0 : wc.cell? ⟨gb125, 0, none⟩ = some (.bool x126000_18) := (blk_cell BK125.out 0).trans rfl
                      have hcz35_1 : wc.cell? ⟨gb125, 1, none⟩ = some (.bool x126001_18) := (blk_cell BK125.out 1).trans rfl
                      have hfz35_0 := blk_frozen BK125.out 0
                      have hfz35_1 := blk_frozen BK125.out 1
                      go_wp2_with (first | ((with_reducible refine gate_callee (f := 19) rfl ?_); refine goesL_ (some 58) rfl rfl Try.func19 (by kernel_rfl) rfl #[.agg #[.bool x126000_18, .bool x126001_18]] rfl (by (try simp only [List.map_toArray, List.map_cons, List.map_nil]); first | done | rfl | (simp only [List.length_drop, List.length_take]; rfl)) ?_; (with_reducible refine (retiarylaw18_ref.calls x126000_18 x126001_18 t135 t136 _ A29.out).mono ?_); rintro e w36 ⟨rfl, hb⟩; refine ⟨_, rfl, ?_⟩; have n0_ := Aside0.mk (blk_below (g := gb125) (o := .cells #[.bool x126000_18, .bool x126001_18] 25 (0, 0)) (by (with_reducible repeat (first | refine blk_drewN ?_ _ | refine blk_drew ?_ | refine blk_alloc ?_ _)); exact BK125.out) hb); have n1_ := Aside0.mk (below_step (by repeat (first | (with_reducible first | exact HB.out | apply below_alloc | apply pw_below_drewN | apply below_drew1 | refine below_set ?_ GE125.out) | exact HB.out)) hb); clear BK125; clear HB; have BK125 := n0_; have HB := n1_; clear n0_ n1_; (try clear hb); (try clear hb2); (try clear hk); (try clear hi)) | ((with_reducible refine gate_callee (f := 18) rfl ?_); refine goesL_ (some 61) rfl rfl Try.func18 (by kernel_rfl) rfl #[.agg #[.int .i64 t135, .int .i64 t136], .int .i64 x7_18, .int .i64 x8_18] rfl (by (try simp only [List.map_toArray, List.map_cons, List.map_nil]); first | done | rfl | (simp only [List.length_drop, List.length_take]; rfl)) ?_; (with_reducible refine (retiaryref18_Fits.calls t135 t136 x7_18 x8_18 false _ A30.out).mono ?_); rintro e w37 ⟨rfl, hb⟩; refine ⟨_, rfl, ?_⟩; have n0_ := Aside0.mk (blk_below (g := gb125) (o := .cells #[.bool x126000_18, .bool x126001_18] 25 (0, 0)) (by (with_reducible repeat (first | refine blk_drewN ?_ _ | refine blk_drew ?_ | refine blk_alloc ?_ _)); exact BK125.out) hb); have n1_ := Aside0.mk (below_step (by repeat (first | (with_reducible first | exact HB.out | apply below_alloc | apply pw_below_drewN | apply below_drew1 | refine below_set ?_ GE125.out) | exact HB.out)) hb); clear BK125; clear HB; have BK125 := n0_; have HB := n1_; clear n0_ n1_; (try clear hb); (try clear hb2); (try clear hk); (try clear hi)))
                      go_ret
                      exact ⟨by first | rfl | (simp [errW_none, errW_some] <;> rfl) | (simp [*, errW_none, errW_some] <;> rfl), by repeat (first | (with_reducible first | exact HB.out | apply below_alloc | apply pw_below_drewN | apply below_drew1 | refine below_set ?_ GE125.out) | exact HB.out)⟩
              · rw [if_neg c18] at H
                exact absurd H (by simp)
            · rw [if_neg c17] at H
              exact absurd H (by simp)
          · rw [if_neg c16] at H
            have c16b0 : decide (x34_1 < (l2.length : Int)) = false := decide_eq_false c16
            clear c16
            replace H := Option.bind_eq_some_iff.mp H
            obtain ⟨t129, A380, H⟩ := H
            replace H : (some t129) = some r := H
            have A38 := Aside0.mk A380
            clear A380
            obtain rfl := Option.some.inj H
            go_wp2_with (first | ((with_reducible refine gate_callee (f := 16) rfl ?_); refine goesL_ (some 64) rfl rfl Try.func16 (by kernel_rfl) rfl #[] rfl (by (try simp only [List.map_toArray, List.map_cons, List.map_nil]); first | done | rfl | (simp only [List.length_drop, List.length_take]; rfl)) ?_; (with_reducible refine (retiarylaw18_awake.calls k1  t129 _ A38.out).mono ?_); rintro e w39 ⟨rfl, hb⟩; refine ⟨_, rfl, ?_⟩; have n0_ := Aside0.mk (blk_below (g := gb125) (o := .cells #[.bool x126000_1, .bool x126001_1] 25 (0, 0)) (by (with_reducible repeat (first | refine blk_drewN ?_ _ | refine blk_drew ?_ | refine blk_alloc ?_ _)); exact BK125.out) hb); have n1_ := Aside0.mk (below_step (by repeat (first | (with_reducible first | exact HB.out | apply below_alloc | apply pw_below_drewN | apply below_drew1 | refine below_set ?_ GE125.out) | exact HB.out)) hb); clear BK125; clear HB; have BK125 := n0_; have HB := n1_; clear n0_ n1_; (try clear hb); (try clear hb2); (try clear hk); (try clear hi)))
            go_ret
            exact ⟨by first | rfl | (simp [errW_none, errW_some] <;> rfl) | (simp [*, errW_none, errW_some] <;> rfl), by repeat (first | (with_reducible first | exact HB.out | apply below_alloc | apply pw_below_drewN | apply below_drew1 | refine below_set ?_ GE125.out) | exact HB.out)⟩
    · replace c10 := Bool.eq_false_iff.mpr c10
      subst c10
      have H1 : (some false) = some r := by rw [if_neg (show ¬ (false = true) by decide)] at H; exact H
      clear H
      have H := H1
      clear H1
      obtain rfl := Option.some.inj H
      go_enter Try.func3, Try.ntmps3
      go_wp2_with (first | ((with_reducible refine gate_callee (f := 17) rfl ?_); refine goesL_ (some 25) rfl rfl Try.func17 (by kernel_rfl) rfl #[.int .i64 (Int.tmod (wrap64 (a0)) 5), .int .i64 (Int.tmod (wrap64 (a1)) 5)] rfl (by (try simp only [List.map_toArray, List.map_cons, List.map_nil]); first | done | rfl | (simp only [List.length_drop, List.length_take]; rfl)) ?_; (with_reducible refine (link_Start.calls (Int.tmod (wrap64 (a0)) 5) (Int.tmod (wrap64 (a1)) 5) t123 t124 _ A7.out).mono ?_); rintro e w40 ⟨rfl, hb⟩; refine ⟨_, rfl, ?_⟩; have n0_ := Aside0.mk (below_step (by repeat (first | (with_reducible first | exact HB.out | apply below_alloc | apply pw_below_drewN | apply below_drew1) | exact HB.out)) hb); clear HB; have HB := n0_; clear n0_; (try clear hb); (try clear hb2); (try clear hk); (try clear hi)) | ((with_reducible refine gate_dst (N := 9) rfl ?_); refine box_event ?hg (N := 9) ?hd (cs := #[.bool false, .bool false]) (t := 25) ?hr ?_; (case hd => rfl); (case hg => rfl); (case hr => first | (go_simp; done) | (go_simp; rfl)); intro gb125 hg w41 hbox hb; have n0_ := Aside0.mk (below_step (by repeat (first | (with_reducible first | exact HB.out | apply below_alloc | apply pw_below_drewN | apply below_drew1) | exact HB.out)) hb); have n1_ := Aside0.mk (hbox); have n2_ := Aside0.mk ((by rw [hg]; exact (below_size (by repeat (first | (with_reducible first | exact HB.out | apply below_alloc | apply pw_below_drewN | apply below_drew1) | exact HB.out))) : w.heap.size ≤ gb125)); have n3_ := Aside0.mk ((by rw [hg]; exact (below_size (by repeat (first | (with_reducible first | exact HB.out | apply below_alloc | apply pw_below_drewN | apply below_drew1) | exact HB.out))) : w.heap.size ≤ gb125)); clear HB; have HB := n0_; have BK125 := n1_; have GW125 := n2_; have GE125 := n3_; clear n0_ n1_ n2_ n3_; clear hb hbox hg; have hcz42_0 : w41.cell? ⟨gb125, 0, none⟩ = some (.bool false) := (blk_cell BK125.out 0).trans rfl; have hcz42_1 : w41.cell? ⟨gb125, 1, none⟩ = some (.bool false) := (blk_cell BK125.out 1).trans rfl; have hfz42_0 := blk_frozen BK125.out 0; have hfz42_1 := blk_frozen BK125.out 1) | ((with_reducible refine gate_callee (f := 19) rfl ?_); refine goesL_ (some 27) rfl rfl Try.func19 (by kernel_rfl) rfl #[.agg #[.bool t123, .bool t124]] rfl (by (try simp only [List.map_toArray, List.map_cons, List.map_nil]); first | done | rfl | (simp only [List.length_drop, List.length_take]; rfl)) ?_; (with_reducible refine (retiarylaw18_ref.calls t123 t124 t126 t127 _ A8.out).mono ?_); rintro e w43 ⟨rfl, hb⟩; refine ⟨_, rfl, ?_⟩; have n0_ := Aside0.mk (blk_below (g := gb125) (o := .cells #[.bool t123, .bool t124] 25 (0, 0)) (by (with_reducible repeat (first | refine blk_drewN ?_ _ | refine blk_drew ?_ | refine blk_alloc ?_ _)); refine blk_put (cs := #[.bool t123, .bool false]) ?_ 1 _ rfl; (with_reducible repeat (first | refine blk_drewN ?_ _ | refine blk_drew ?_ | refine blk_alloc ?_ _)); refine blk_put (cs := #[.bool false, .bool false]) ?_ 0 _ rfl; (with_reducible repeat (first | refine blk_drewN ?_ _ | refine blk_drew ?_ | refine blk_alloc ?_ _)); exact BK125.out) hb); have n1_ := Aside0.mk (below_step (by repeat (first | (with_reducible first | exact HB.out | apply below_alloc | apply pw_below_drewN | apply below_drew1 | refine below_set ?_ GE125.out) | exact HB.out)) hb); clear BK125; clear HB; have BK125 := n0_; have HB := n1_; clear n0_ n1_; (try clear hb); (try clear hb2); (try clear hk); (try clear hi)) | ((with_reducible refine gate_callee (f := 18) rfl ?_); refine goesL_ (some 30) rfl rfl Try.func18 (by kernel_rfl) rfl #[.agg #[.int .i64 t126, .int .i64 t127], .int .i64 (Int.tmod (wrap64 (a0)) 5), .int .i64 (Int.tmod (wrap64 (a1)) 5)] rfl (by (try simp only [List.map_toArray, List.map_cons, List.map_nil]); first | done | rfl | (simp only [List.length_drop, List.length_take]; rfl)) ?_; (with_reducible refine (retiaryref18_Fits.calls t126 t127 (Int.tmod (wrap64 (a0)) 5) (Int.tmod (wrap64 (a1)) 5) false _ A9.out).mono ?_); rintro e w44 ⟨rfl, hb⟩; refine ⟨_, rfl, ?_⟩; have n0_ := Aside0.mk (blk_below (g := gb125) (o := .cells #[.bool t123, .bool t124] 25 (0, 0)) (by (with_reducible repeat (first | refine blk_drewN ?_ _ | refine blk_drew ?_ | refine blk_alloc ?_ _)); exact BK125.out) hb); have n1_ := Aside0.mk (below_step (by repeat (first | (with_reducible first | exact HB.out | apply below_alloc | apply pw_below_drewN | apply below_drew1 | refine below_set ?_ GE125.out) | exact HB.out)) hb); clear BK125; clear HB; have BK125 := n0_; have HB := n1_; clear n0_ n1_; (try clear hb); (try clear hb2); (try clear hk); (try clear hi)))
      go_ret
      exact ⟨by first | rfl | (simp [errW_none, errW_some] <;> rfl) | (simp [*, errW_none, errW_some] <;> rfl), by repeat (first | (with_reducible first | exact HB.out | apply below_alloc | apply pw_below_drewN | apply below_drew1 | refine below_set ?_ GE125.out) | exact HB.out)⟩

/-- THE ONE PURE STATEMENT of retiarylaw18_LinkFits: yours. -/
def retiarylaw18_LinkFits.Pure : Prop := ∀ (a0 : Int) (a1 : Int) (l2 : List Int), (Lit.int .u8 a0).wf = true → (Lit.int .u8 a1).wf = true → l2.length ≤ maxLen → l2.length * 1 ≤ 140737488351232 → (∀ x ∈ l2, (Lit.int .u8 x).wf = true) → ∃ k, retiarylaw18_LinkFits.f k a0 a1 l2 = some true
theorem retiarylaw18_LinkFits.walk (P : retiarylaw18_LinkFits.Pure) (a0 : Int) (a1 : Int) (a2 : Option Addr) (len2 cap2 : Nat) (z2 : List Int) (w : World) (w0 : (Lit.int .u8 a0).wf = true) (w1 : (Lit.int .u8 a1).wf = true) (w2 : (a2 = none ∧ len2 = 0 ∧ cap2 = 0 ∧ z2 = []) ∨ ∃ x, a2 = some x ∧ len2 ≤ cap2 ∧ cap2 ≤ maxLen ∧ z2.length = cap2 ∧ (∀ i, i < z2.length → w.cell? (x.add i) = some (.int .u8 (z2.getD i 0))) ∧ ∀ n ∈ z2, (Lit.int .u8 n).wf = true) (y2 : len2 * 1 ≤ 140737488351232) :
    Calls Try.prog 3 #[.int .u8 a0, .int .u8 a1, .slice a2 len2 cap2] w fun e w' => e = .returned (.bool true) ∧ Below w.heap.size w w' := by
  obtain ⟨l2, rfl, hr2, hm2, hw2, hc2⟩ := ReadsInt.ofRowC w2
  obtain ⟨k, h⟩ := P a0 a1 l2 w0 w1 hm2 y2 hw2
  refine (retiarylaw18_LinkFits.calls k a0 a1 _ _ l2 true w (Kd.C_of_reads (d := (0 : Int)) (h1 := fun _ => rfl) hr2) hc2 h).mono ?_
  rintro e w' ⟨rfl, hd⟩
  exact ⟨rfl, hd⟩

end Go.Proofs.Ytnncomhgclffaaa.PLinkFits
