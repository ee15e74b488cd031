/- A copy of a way. Rows of ways that a call makes. slices.Contains at a triple's terms (printed) -/
import Derived.Test.YtkbkkceeolclmaaGreatDoorQ10
import Derived.Test.YtkbkkceeolclmaaGreatDoorQ23
import Derived.Test.YtkbkkceeolclmaaGreatDoorQ24
import Derived.Test.YtkbkkceeolclmaaGreatDoorQprx0
import Derived.Test.YtkbkkceeolclmaaGreatDoorQprx1
set_option linter.unusedVariables false
set_option linter.unusedSimpArgs false
namespace Go.Proofs.YtkbkkceeolclmaaGreatDoor.X
open Go.RowKit Go.Shelf Go.Lib Go.TX Go.Proofs.YtkbkkceeolclmaaGreatDoorW.PrintWords Go.Proofs.YtkbkkceeolclmaaGreatDoorL
theorem info3 : (Tryz.prog.info? 3).map (fun i => (i.zero, i.size, i.bytes)) = some (some (.int .i64 0), 1, 8) := by kernel_rfl
abbrev ints (l : List Nat) : List Value := l.map fun n => .int .i64 ((n : Nat) : Int)
/-- A way that can be read: nil, or a row. -/
def WayAt (w : World) (v : Value) (l : List Nat) : Prop := v = .slice none 0 0 ∧ l = [] ∨ ∃ b c, v = .slice (some ⟨b, 0, none⟩) l.length c ∧ b < w.heap.size ∧ Nums w b l
theorem clone_way {w : World} {v : Value} {l : List Nat} (h : WayAt w v l) (hl : l.length ≤ 1000000) : Calls Tryz.prog 88 #[v] w fun e W => ∃ u, e = .returned u ∧ W.ownsRow w.heap.size 3 1 u l.length (ints l) ∧ Below w.heap.size w W := by
  obtain ⟨i0, hi, hz0, hz1, hz2⟩ := info_parts info3
  rcases h with ⟨rfl, rfl⟩ | ⟨b, c, rfl, hb, hn⟩
  · refine (Tryz.slices_Clone_nil _ _ w).mono ?_
    rintro e W ⟨rfl, rfl⟩
    exact ⟨_, rfl, World.ownsRow_nil _ _ _ _, Below.refl _ _⟩
  · by_cases h0 : 0 < l.length
    · have hmax : 1000000 ≤ maxLen := by decide
      refine (Tryz.slices_Clone i0 (.int .i64 0) 1 8 hi hz0 hz1 hz2 rfl (by decide) (fun w => by kernel_rfl) b 0 l.length c (ints l) w (by simp) (by omega) (by omega) (fun j u hj => ?_) (fun u hu => ?_)).mono ?_
      · have hj' : j < l.length := by have := (List.getElem?_eq_some_iff.1 hj).1; simpa using this
        rw [Nat.zero_add, hn j hj']
        rw [List.getElem?_map, List.getElem?_eq_getElem hj'] at hj
        exact hj
      · obtain ⟨x, _, rfl⟩ := List.mem_map.1 hu
        rfl
      · rintro e W ⟨u, rfl, h1, _, h2⟩
        exact ⟨u, rfl, h1, h2⟩
    · have hn0 : l = [] := List.eq_nil_of_length_eq_zero (by omega)
      subst hn0
      refine (Tryz.slices_Clone_int_zero _ c w).mono ?_
      rintro e W ⟨u, rfl, h1, _, h2⟩
      exact ⟨u, rfl, h1, h2⟩
end Go.Proofs.YtkbkkceeolclmaaGreatDoor.X
namespace Go.Proofs.YtkbkkceeolclmaaGreatDoor.X
open Go.RowKit Go.TX Go.Proofs.YtkbkkceeolclmaaGreatDoorW.PrintWords Go.Proofs.YtkbkkceeolclmaaGreatDoorL
/-- Ways in a row, all of the call's own. -/
def OW (n : Nat) (W : World) (V : Value) (ws : List (List Nat)) : Prop :=
  ∃ vs : List Value, vs.length = ws.length ∧ W.ownsRow n 137 1 V ws.length vs ∧ ∀ i (h : i < ws.length), ∃ v, vs[i]? = some v ∧ 0 < ws[i].length ∧ W.ownsRow n 3 1 v ws[i].length (ints ws[i])
theorem OW.nil (n : Nat) (W : World) : OW n W (.slice none 0 0) [] := ⟨[], rfl, World.ownsRow_nil _ _ _ _, fun _ h => absurd h (Nat.not_lt_zero _)⟩
theorem OW.form {n : Nat} {W : World} {V : Value} {ws : List (List Nat)} (h : OW n W V ws) : ∃ A c, V = .slice A ws.length c := by
  obtain ⟨vs, _, ho, _⟩ := h
  exact owns_form ho
theorem OW.move {n : Nat} {W W' : World} {V : Value} {ws : List (List Nat)} (h : OW n W V ws) (hb : ∀ b, n ≤ b → b < W.heap.size → (∀ cs t, W.heap[b]? = some (.cells cs t (0, 0)) → t = 137 ∨ t = 3 → W'.heap[b]? = W.heap[b]?)) : OW n W' V ws := by
  have mv : ∀ {e : TypeId} {v : Value} {k : Nat} {xs : List Value}, e = 137 ∨ e = 3 → W.ownsRow n e 1 v k xs → W'.ownsRow n e 1 v k xs := fun he ho => by
    refine ⟨ho.1, ?_⟩
    rcases ho.2 with h2 | ⟨g, cap, cur, rfl, hg, hh, q⟩
    · exact .inl h2
    · exact .inr ⟨g, cap, cur, rfl, hg, (hb g hg (Array.getElem?_eq_some_iff.1 hh).1 _ _ hh he).trans hh, q⟩
  obtain ⟨vs, hl, ho, hr⟩ := h
  refine ⟨vs, hl, mv (.inl rfl) ho, fun i hi => ?_⟩
  obtain ⟨v, h1, h2, h3⟩ := hr i hi
  exact ⟨v, h1, h2, mv (.inr rfl) h3⟩
theorem OW.below {n : Nat} {W W' : World} {V : Value} {ws : List (List Nat)} (h : OW n W V ws) (hb : Below W.heap.size W W') : OW n W' V ws := h.move fun b _ hl _ _ _ _ => hb.block b hl
/-- A row of numbers is not a row of ways. -/
theorem apart3 {W : World} {n m k j : Nat} {V v : Value} {xs ys : List Value} (h : W.ownsRow n 137 1 V k xs) (h' : W.ownsRow m 3 1 v j ys) {b : Nat} (hb : v.ownBlock = some b) : some b ≠ V.ownBlock := by
  intro e
  rcases h'.2 with ⟨rfl, rfl⟩ | ⟨g, cap, cur, rfl, _, hh, _⟩
  · simp [Value.ownBlock] at hb
  · simp [Value.ownBlock] at hb
    subst hb
    rcases h.2 with ⟨rfl, rfl⟩ | ⟨g2, cap2, cur2, rfl, _, hh2, _⟩
    · simp [Value.ownBlock] at e
    · simp [Value.ownBlock] at e
      subst e
      rw [hh] at hh2
      cases hh2
/-- A row of numbers, behind an append to a row of ways. -/
theorem own3_grown {W W' : World} {n m k j : Nat} {V v : Value} {xs ys : List Value} (h : W.ownsRow n 137 1 V k xs) (h' : W.ownsRow m 3 1 v j ys) (hg : W.grownBy W' V.ownBlock) : W'.ownsRow m 3 1 v j ys :=
  owns_move h' fun b _ hl hb => hg.block b hl (apart3 h h' hb)
/-- One more. -/
theorem OW.snoc {n : Nat} {W W' : World} {V V' : Value} {ws : List (List Nat)} {vs : List Value} (hl : vs.length = ws.length) (ho : W.ownsRow n 137 1 V ws.length vs)
    (hr : ∀ i (h : i < ws.length), ∃ v, vs[i]? = some v ∧ 0 < ws[i].length ∧ W.ownsRow n 3 1 v ws[i].length (ints ws[i])) {x : List Nat} {v : Value} (hx : W.ownsRow n 3 1 v x.length (ints x)) (h0 : 0 < x.length)
    (ho' : W'.ownsRow n 137 1 V' (ws.length + 1) (vs ++ [v])) (hg : W.grownBy W' V.ownBlock) : OW n W' V' (ws ++ [x]) := by
  refine ⟨vs ++ [v], by simp [hl], by simpa using ho', fun i hi => ?_⟩
  by_cases hil : i < ws.length
  · obtain ⟨u, h1, h2, h3⟩ := hr i hil
    refine ⟨u, by rw [List.getElem?_append_left (by omega)]; exact h1, ?_⟩
    rw [List.getElem_append_left hil]
    exact ⟨h2, own3_grown ho h3 hg⟩
  · have e : i = ws.length := by simp at hi; omega
    subst e
    refine ⟨v, by rw [List.getElem?_append_right (by omega), hl]; simp, ?_⟩
    rw [List.getElem_append_right (by omega)]
    simp only [Nat.sub_self, List.getElem_cons_zero]
    exact ⟨h0, own3_grown ho hx hg⟩
end Go.Proofs.YtkbkkceeolclmaaGreatDoor.X
namespace Go.Proofs.YtkbkkceeolclmaaGreatDoor.PT
open Go.RowKit Go.Proofs.YtkbkkceeolclmaaGreatDoorW.PrintWords Go.Proofs.YtkbkkceeolclmaaGreatDoorW.PrintLast Go.Proofs.YtkbkkceeolclmaaGreatDoorW.PrintMore
attribute [local go_sem] max2_int min2_int max_two min_two max_three min_three max_four min_four
open Go.Proofs.YtkbkkceeolclmaaGreatDoor.PTextRules
attribute [local go_sem high] eqA69
def api_Term_100.l0 : Nat → List (S69) → Int → Int → Bool → Int → Option (Int)
  | 0, _, _, _, _, _ => none
  | k + 1, x0, x7, x8, x112000, x112001 => if x8 < x7 then (if 0 ≤ x8 then (if x8 < (x0.length : Int) then (if (x112000 == ((rd_T69 x0 x8).f0) && (x112001 == ((rd_T69 x0 x8).f1))) = true then (some x8) else (api_Term_100.l0 k x0 x7 (wrap64 (x8 + 1)) x112000 x112001)) else (none)) else (none)) else (some (-1))
def api_Term_100.f (k : Nat) (l0 : List (S69)) (a1_0 : Bool) (a1_1 : Int) : Option (Int) := api_Term_100.l0 k l0 (l0.length : Int) 0 a1_0 a1_1
theorem api_Term_100.mono_l : ∀ k, (∀ y0 y1 y2 y3 y4, LeO (api_Term_100.l0 k y0 y1 y2 y3 y4) (api_Term_100.l0 (k + 1) y0 y1 y2 y3 y4))
  | 0 => fun _ _ _ _ _ r h => by simp [api_Term_100.l0] at h
  | k + 1 => by
    have ih0 := api_Term_100.mono_l k
    · intro y0 y1 y2 y3 y4
      unfold api_Term_100.l0
      repeat' first
      | (with_reducible exact ih0 _ _ _ _ _)
      | (with_reducible exact LeO.refl _)
      | (with_reducible exact LeO.none _)
      | (with_reducible refine LeO.ite ?_ ?_)
      | (with_reducible refine LeO.bind ?_ (fun _ => ?_))
      | exact ih0 _ _ _ _ _
      | exact LeO.none _
      | refine LeO.ite ?_ ?_
      | refine LeO.bind ?_ (fun _ => ?_)
theorem api_Term_100.mono : ∀ a0 a1 a2 k, LeO (api_Term_100.f k a0 a1 a2) (api_Term_100.f (k + 1) a0 a1 a2) := by
  intro a0 a1 a2 k
  have ih0 := api_Term_100.mono_l k
  unfold api_Term_100.f
  repeat' first
      | (with_reducible exact ih0 _ _ _ _ _)
      | (with_reducible exact LeO.refl _)
      | (with_reducible exact LeO.none _)
      | (with_reducible refine LeO.ite ?_ ?_)
      | (with_reducible refine LeO.bind ?_ (fun _ => ?_))
      | exact ih0 _ _ _ _ _
      | exact LeO.none _
      | refine LeO.ite ?_ ?_
      | refine LeO.bind ?_ (fun _ => ?_)
set_option maxHeartbeats 8000000 in
set_option maxRecDepth 100000 in
theorem api_Term_100.calls (k : Nat) (A0 : Option Addr) (c0 : Nat) (l0 : List (S69)) (a1_0 : Bool) (a1_1 : Int) (r : Int) (w : World) (hr0 : Kd.C k69 w A0 l0.length l0) (hc0 : l0.length ≤ c0) (h : api_Term_100.f k l0 a1_0 a1_1 = some r) :
    Calls Tryz.prog 100 #[.slice A0 l0.length c0, .agg #[.bool a1_0, .int .i64 a1_1]] w fun e w' => e = .returned (.int .i64 r) ∧ Below w.heap.size w w' := by
  have hu69 := Tryz.underlying69
  have HR0 := Aside0.mk hr0
  have HC0 := Aside0.mk hc0
  clear hr0 hc0
  have HB := Aside0.mk (Below.refl w.heap.size w)
  have H : (api_Term_100.l0 k l0 (l0.length : Int) 0 a1_0 a1_1) = some r := h
  clear h
  have H' := Aside0.mk H
  clear H
  go_enter Tryz.func100, Tryz.ntmps100
  go_wp2_with (first | ((with_reducible refine gate_dst (N := 3) rfl ?_); refine box_event ?hg (N := 3) ?hd (cs := #[.bool a1_0, .int .i64 a1_1]) (t := 69) ?hr ?_; (case hd => rfl); (case hg => rfl); (case hr => first | (go_simp; done) | (go_simp; rfl)); intro gb111 hg w3 hbox hb; have n0_ := Aside0.mk (below_step (by repeat (first | (with_reducible first | exact HB.out | apply below_alloc | apply pw_below_drewN | apply below_drew1) | exact HB.out)) hb); have n1_ := Aside0.mk (hbox); have n2_ := Aside0.mk ((by rw [hg]; exact (below_size (by repeat (first | (with_reducible first | exact HB.out | apply below_alloc | apply pw_below_drewN | apply below_drew1) | exact HB.out))) : w.heap.size ≤ gb111)); have n3_ := Aside0.mk ((by rw [hg]; exact (below_size (by repeat (first | (with_reducible first | exact HB.out | apply below_alloc | apply pw_below_drewN | apply below_drew1) | exact HB.out))) : w.heap.size ≤ gb111)); clear HB; have HB := n0_; have BK111 := n1_; have GW111 := n2_; have GE111 := n3_; clear n0_ n1_ n2_ n3_; clear hb hbox hg))
  repeat (go_quiet (first | ((with_reducible refine gate_dst (N := 3) rfl ?_); refine box_event ?hg (N := 3) ?hd (cs := #[.bool a1_0, .int .i64 a1_1]) (t := 69) ?hr ?_; (case hd => rfl); (case hg => rfl); (case hr => first | (go_simp; done) | (go_simp; rfl)); intro gb111 hg w3 hbox hb; have n0_ := Aside0.mk (below_step (by repeat (first | (with_reducible first | exact HB.out | apply below_alloc | apply pw_below_drewN | apply below_drew1) | exact HB.out)) hb); have n1_ := Aside0.mk (hbox); have n2_ := Aside0.mk ((by rw [hg]; exact (below_size (by repeat (first | (with_reducible first | exact HB.out | apply below_alloc | apply pw_below_drewN | apply below_drew1) | exact HB.out))) : w.heap.size ≤ gb111)); have n3_ := Aside0.mk ((by rw [hg]; exact (below_size (by repeat (first | (with_reducible first | exact HB.out | apply below_alloc | apply pw_below_drewN | apply below_drew1) | exact HB.out))) : w.heap.size ≤ gb111)); clear HB; have HB := n0_; have BK111 := n1_; have GW111 := n2_; have GE111 := n3_; clear n0_ n1_ n2_ n3_; clear hb hbox hg)); try go_wp2_with (first | ((with_reducible refine gate_dst (N := 3) rfl ?_); refine box_event ?hg (N := 3) ?hd (cs := #[.bool a1_0, .int .i64 a1_1]) (t := 69) ?hr ?_; (case hd => rfl); (case hg => rfl); (case hr => first | (go_simp; done) | (go_simp; rfl)); intro gb111 hg w3 hbox hb; have n0_ := Aside0.mk (below_step (by repeat (first | (with_reducible first | exact HB.out | apply below_alloc | apply pw_below_drewN | apply below_drew1) | exact HB.out)) hb); have n1_ := Aside0.mk (hbox); have n2_ := Aside0.mk ((by rw [hg]; exact (below_size (by repeat (first | (with_reducible first | exact HB.out | apply below_alloc | apply pw_below_drewN | apply below_drew1) | exact HB.out))) : w.heap.size ≤ gb111)); have n3_ := Aside0.mk ((by rw [hg]; exact (below_size (by repeat (first | (with_reducible first | exact HB.out | apply below_alloc | apply pw_below_drewN | apply below_drew1) | exact HB.out))) : w.heap.size ≤ gb111)); clear HB; have HB := n0_; have BK111 := n1_; have GW111 := n2_; have GE111 := n3_; clear n0_ n1_ n2_ n3_; clear hb hbox hg)))
  go_loopg [8] k (fun kq v8 w' => ∃ (x8_1 : Int), v8 = .int .i64 x8_1 ∧ Aside0 (api_Term_100.l0 kq l0 (l0.length : Int) x8_1 a1_0 a1_1 = some r) ∧ Aside0 (kq ≤ k) ∧ Aside0 (w'.heap[gb111]? = some (.cells #[.bool a1_0, .int .i64 a1_1] 69 (0, 0))) ∧ Aside0 (Below w.heap.size w w'))
  case atStart => exact ⟨(0), (by first | rfl | (simp; done) | (simp [*]; done)), H', ⟨Nat.le_refl _⟩, ⟨by (with_reducible repeat (first | refine blk_drewN ?_ _ | refine blk_drew ?_ | refine blk_alloc ?_ _)); exact BK111.out⟩, ⟨by repeat (first | (with_reducible first | exact HB.out | apply below_alloc | apply pw_below_drewN | apply below_drew1 | refine below_set ?_ GE111.out) | exact HB.out)⟩⟩
  case round =>
    clear H'
    try clear c1
    try clear p2
    obtain ⟨x8_1, rfl, HA, HK1, BK111, HB⟩ := hrel
    cases gk with
    | zero => exact absurd HA.out (by simp [api_Term_100.l0])
    | succ k1 =>
      have H := HA.out
      clear HA
      simp only [api_Term_100.l0] at H
      by_cases c4 : x8_1 < (l0.length : Int)
      · rw [if_pos c4] at H
        have c4b0 : decide (x8_1 < (l0.length : Int)) = true := decide_eq_true c4
        clear c4
        by_cases c5 : 0 ≤ x8_1
        · rw [if_pos c5] at H
          have c5b0 : decide (0 ≤ x8_1) = true := decide_eq_true c5
          clear c5
          by_cases c6 : x8_1 < (l0.length : Int)
          · rw [if_pos c6] at H
            have c6b0 : decide (x8_1 < (l0.length : Int)) = true := decide_eq_true c6
            clear c6
            by_cases c7 : (a1_0 == ((rd_T69 l0 x8_1).f0) && (a1_1 == ((rd_T69 l0 x8_1).f1))) = true
            · rw [if_pos c7] at H
              have c7b0 : (a1_0 == ((rd_T69 l0 x8_1).f0) && (a1_1 == ((rd_T69 l0 x8_1).f1))) = true := c7
              (try (have c7b1 : decide (a1_0 = ((rd_T69 l0 x8_1).f0) && (a1_1 == ((rd_T69 l0 x8_1).f1))) = true := by simpa using c7))
              (try (have c7b2 : (a1_0 == ((rd_T69 l0 x8_1).f0) && (a1_1 == ((rd_T69 l0 x8_1).f1))) = true := by simpa using c7))
              clear c7
              obtain rfl := Option.some.inj H
              have hcz8_0 : wr.cell? ⟨gb111, 0, none⟩ = some (.bool a1_0) := (blk_cell BK111.out 0).trans rfl
              have hcz8_1 : wr.cell? ⟨gb111, 1, none⟩ = some (.int .i64 a1_1) := (blk_cell BK111.out 1).trans rfl
              have hfz8_0 := blk_frozen BK111.out 0
              have hfz8_1 := blk_frozen BK111.out 1
              have p112 : 0 ≤ (x8_1 : Int) := of_decide_eq_true (by first | (with_reducible assumption) | assumption)
              have q112 : x8_1 < (l0.length : Int) := of_decide_eq_true (by first | (with_reducible assumption) | assumption)
              obtain ⟨ad112, e112, hx112_0, hx112_1⟩ := at_T69 HR0.out x8_1 p112 q112
              cases e112
              replace hx112_0 := (HB.out.cell (World.block_lt_of_cell? w _ hx112_0)).trans hx112_0
              replace hx112_1 := (HB.out.cell (World.block_lt_of_cell? w _ hx112_1)).trans hx112_1
              replace p112 := eq_true p112
              replace q112 := eq_true q112
              go_wp2
              repeat (go_quiet (fail); try go_wp2)
              go_ret
              exact ⟨by first | rfl | (simp [errW_none, errW_some] <;> rfl) | (simp [*, errW_none, errW_some] <;> rfl), by repeat (first | (with_reducible first | exact HB.out | apply below_alloc | apply pw_below_drewN | apply below_drew1 | refine below_set ?_ GE111.out) | exact HB.out)⟩
            · rw [if_neg c7] at H
              have c7b0 : (a1_0 == ((rd_T69 l0 x8_1).f0) && (a1_1 == ((rd_T69 l0 x8_1).f1))) = false := by simpa using c7
              (try (have c7b1 : decide (a1_0 = ((rd_T69 l0 x8_1).f0) && (a1_1 == ((rd_T69 l0 x8_1).f1))) = false := by simpa using c7))
              (try (have c7b2 : (a1_0 == ((rd_T69 l0 x8_1).f0) && (a1_1 == ((rd_T69 l0 x8_1).f1))) = false := by simpa using c7))
              (try (have c7b3 : ¬ (a1_0 = ((rd_T69 l0 x8_1).f0) && (a1_1 == ((rd_T69 l0 x8_1).f1))) := by simpa using c7))
              clear c7
              have H' := Aside0.mk H
              clear H
              have hcz9_0 : wr.cell? ⟨gb111, 0, none⟩ = some (.bool a1_0) := (blk_cell BK111.out 0).trans rfl
              have hcz9_1 : wr.cell? ⟨gb111, 1, none⟩ = some (.int .i64 a1_1) := (blk_cell BK111.out 1).trans rfl
              have hfz9_0 := blk_frozen BK111.out 0
              have hfz9_1 := blk_frozen BK111.out 1
              have p112 : 0 ≤ (x8_1 : Int) := of_decide_eq_true (by first | (with_reducible assumption) | assumption)
              have q112 : x8_1 < (l0.length : Int) := of_decide_eq_true (by first | (with_reducible assumption) | assumption)
              obtain ⟨ad112, e112, hx112_0, hx112_1⟩ := at_T69 HR0.out x8_1 p112 q112
              cases e112
              replace hx112_0 := (HB.out.cell (World.block_lt_of_cell? w _ hx112_0)).trans hx112_0
              replace hx112_1 := (HB.out.cell (World.block_lt_of_cell? w _ hx112_1)).trans hx112_1
              replace p112 := eq_true p112
              replace q112 := eq_true q112
              go_wp2
              repeat (go_quiet (fail); try go_wp2)
              go_roundg k1
              case measure => have := HK1.out; omega
              case rel => exact ⟨(wrap64 (x8_1 + 1)), (by first | rfl | (simp; done) | (simp [*]; done)), H', ⟨by have := HK1.out; omega⟩, ⟨by (with_reducible repeat (first | refine blk_drewN ?_ _ | refine blk_drew ?_ | refine blk_alloc ?_ _)); exact BK111.out⟩, ⟨by repeat (first | (with_reducible first | exact HB.out | apply below_alloc | apply pw_below_drewN | apply below_drew1 | refine below_set ?_ GE111.out) | exact HB.out)⟩⟩
          · rw [if_neg c6] at H
            exact absurd H (by simp)
        · rw [if_neg c5] at H
          exact absurd H (by simp)
      · rw [if_neg c4] at H
        have c4b0 : decide (x8_1 < (l0.length : Int)) = false := decide_eq_false c4
        clear c4
        obtain rfl := Option.some.inj H
        go_wp2
        repeat (go_quiet (fail); try go_wp2)
        go_ret
        exact ⟨by first | rfl | (simp [errW_none, errW_some] <;> rfl) | (simp [*, errW_none, errW_some] <;> rfl), by repeat (first | (with_reducible first | exact HB.out | apply below_alloc | apply pw_below_drewN | apply below_drew1 | refine below_set ?_ GE111.out) | exact HB.out)⟩
def api_Term_89.f (k : Nat) (l0 : List (S69)) (a1_0 : Bool) (a1_1 : Int) : Option (Bool) := (api_Term_100.f k l0 a1_0 a1_1).bind fun t114 => (some (decide (t114 ≥ 0)))
theorem api_Term_89.mono : ∀ a0 a1 a2 k, LeO (api_Term_89.f k a0 a1 a2) (api_Term_89.f (k + 1) a0 a1 a2) := by
  intro a0 a1 a2 k
  unfold api_Term_89.f
  repeat' first
      | (with_reducible exact api_Term_100.mono _ _ _ _)
      | (with_reducible exact LeO.refl _)
      | (with_reducible exact LeO.none _)
      | (with_reducible refine LeO.ite ?_ ?_)
      | (with_reducible refine LeO.bind ?_ (fun _ => ?_))
      | exact api_Term_100.mono _ _ _ _
      | exact LeO.none _
      | refine LeO.ite ?_ ?_
      | refine LeO.bind ?_ (fun _ => ?_)
set_option maxHeartbeats 8000000 in
set_option maxRecDepth 100000 in
theorem api_Term_89.calls (k : Nat) (A0 : Option Addr) (c0 : Nat) (l0 : List (S69)) (a1_0 : Bool) (a1_1 : Int) (r : Bool) (w : World) (hr0 : Kd.C k69 w A0 l0.length l0) (hc0 : l0.length ≤ c0) (h : api_Term_89.f k l0 a1_0 a1_1 = some r) :
    Calls Tryz.prog 89 #[.slice A0 l0.length c0, .agg #[.bool a1_0, .int .i64 a1_1]] w fun e w' => e = .returned (.bool r) ∧ Below w.heap.size w w' := by
  have hu69 := Tryz.underlying69
  have HR0 := Aside0.mk hr0
  have HC0 := Aside0.mk hc0
  clear hr0 hc0
  have HB := Aside0.mk (Below.refl w.heap.size w)
  have H : ((api_Term_100.f k l0 a1_0 a1_1).bind fun t114 => (some (decide (t114 ≥ 0)))) = some r := h
  clear h
  replace H := Option.bind_eq_some_iff.mp H
  obtain ⟨t114, A30, H⟩ := H
  replace H : (some (decide (t114 ≥ 0))) = some r := H
  have A3 := Aside0.mk A30
  clear A30
  obtain rfl := Option.some.inj H
  go_enter Tryz.func89, Tryz.ntmps89
  go_wp2_with (first | ((with_reducible refine gate_dst (N := 3) rfl ?_); refine box_event ?hg (N := 3) ?hd (cs := #[.bool a1_0, .int .i64 a1_1]) (t := 69) ?hr ?_; (case hd => rfl); (case hg => rfl); (case hr => first | (go_simp; done) | (go_simp; rfl)); intro gb113 hg w4 hbox hb; have n0_ := Aside0.mk (below_step (by repeat (first | (with_reducible first | exact HB.out | apply below_alloc | apply pw_below_drewN | apply below_drew1) | exact HB.out)) hb); have n1_ := Aside0.mk (hbox); have n2_ := Aside0.mk ((by rw [hg]; exact (below_size (by repeat (first | (with_reducible first | exact HB.out | apply below_alloc | apply pw_below_drewN | apply below_drew1) | exact HB.out))) : w.heap.size ≤ gb113)); have n3_ := Aside0.mk ((by rw [hg]; exact (below_size (by repeat (first | (with_reducible first | exact HB.out | apply below_alloc | apply pw_below_drewN | apply below_drew1) | exact HB.out))) : w.heap.size ≤ gb113)); clear HB; have HB := n0_; have BK113 := n1_; have GW113 := n2_; have GE113 := n3_; clear n0_ n1_ n2_ n3_; clear hb hbox hg; have hcz5_0 : w4.cell? ⟨gb113, 0, none⟩ = some (.bool a1_0) := (blk_cell BK113.out 0).trans rfl; have hcz5_1 : w4.cell? ⟨gb113, 1, none⟩ = some (.int .i64 a1_1) := (blk_cell BK113.out 1).trans rfl; have hfz5_0 := blk_frozen BK113.out 0; have hfz5_1 := blk_frozen BK113.out 1) | ((with_reducible refine gate_callee (f := 100) rfl ?_); refine goesL_ (some 7) rfl rfl Tryz.func100 (by kernel_rfl) rfl #[.slice A0 l0.length c0, .agg #[.bool a1_0, .int .i64 a1_1]] rfl (by (try simp only [List.map_toArray, List.map_cons, List.map_nil]); first | done | rfl | (simp only [List.length_drop, List.length_take]; rfl)) ?_; (with_reducible refine (api_Term_100.calls k _ _ l0 a1_0 a1_1 t114 _ ?side1 ?side2 A3.out).mono ?_); (case side1 => repeat (first | exact (Kd.C_below HR0.out HB.out) | (with_reducible refine Kd.C_alloc ?_ _) | (with_reducible refine Kd.C_drewN ?_ _) | (with_reducible refine Kd.C_drew ?_))); (case side2 => exact HC0.out); rintro e w6 ⟨rfl, hb⟩; refine ⟨_, rfl, ?_⟩; have n0_ := Aside0.mk (blk_below (g := gb113) (o := .cells #[.bool a1_0, .int .i64 a1_1] 69 (0, 0)) (by (with_reducible repeat (first | refine blk_drewN ?_ _ | refine blk_drew ?_ | refine blk_alloc ?_ _)); exact BK113.out) hb); have n1_ := Aside0.mk (below_step (by repeat (first | (with_reducible first | exact HB.out | apply below_alloc | apply pw_below_drewN | apply below_drew1 | refine below_set ?_ GE113.out) | exact HB.out)) hb); clear BK113; clear HB; have BK113 := n0_; have HB := n1_; clear n0_ n1_; (try clear hb); (try clear hb2); (try clear hk); (try clear hi)))
  go_ret
  exact ⟨by first | rfl | (simp [errW_none, errW_some] <;> rfl) | (simp [*, errW_none, errW_some] <;> rfl), by repeat (first | (with_reducible first | exact HB.out | apply below_alloc | apply pw_below_drewN | apply below_drew1 | refine below_set ?_ GE113.out) | exact HB.out)⟩
end Go.Proofs.YtkbkkceeolclmaaGreatDoor.PT
