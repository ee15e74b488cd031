/- Does a variable stand in a triple of terms? What the walk to a variable's places is to show. The walk to a variable's places. -/
import Derived.Test.YtkbkkceeolclmaaGreatDoorQ11
import Derived.Test.YtkbkkceeolclmaaGreatDoorQ25
set_option linter.unusedVariables false
set_option linter.unusedSimpArgs false
namespace Go.Proofs.YtkbkkceeolclmaaGreatDoor.X
open Go.RowKit Go.TX Go.Proofs.YtkbkkceeolclmaaGreatDoorW.PrintWords
open Go.Proofs.YtkbkkceeolclmaaGreatDoor.PTextRules Go.Proofs.YtkbkkceeolclmaaGreatDoor.PT
theorem contains3_value (a b c : Tm) (v : Int) : api_Term_89.f 5 [⟨a.1, a.2⟩, ⟨b.1, b.2⟩, ⟨c.1, c.2⟩] true v = some (own v a b c) := by
  obtain ⟨a1, a2⟩ := a
  obtain ⟨b1, b2⟩ := b
  obtain ⟨c1, c2⟩ := c
  have e1 : wrap64 1 = 1 := by kernel_rfl
  have e2 : wrap64 2 = 2 := by kernel_rfl
  have e3 : wrap64 3 = 3 := by kernel_rfl
  have sw : ∀ x : Int, (v == x) = decide (x = v) := fun x => by
    by_cases h : x = v
    · subst h; simp
    · have h2 : ¬ v = x := fun e => h e.symm
      simp [h, h2]
  cases a1 <;> cases b1 <;> cases c1 <;> simp [api_Term_89.f, api_Term_100.f, api_Term_100.l0, rd_T69, z69, own, e1, e2, e3, sw, Prod.ext_iff] <;>
    by_cases ha : a2 = v <;> by_cases hb : b2 = v <;> by_cases hc : c2 = v <;> simp [ha, hb, hc]
/-- slices.Contains(c.T[:], Term{Var: true, N: v}). -/
theorem contains3 (a b c : Tm) (v : Int) (g o : Nat) (w : World) (h0 : w.cell? ⟨g, o, none⟩ = some (.bool a.1)) (h1 : w.cell? ⟨g, o + 1, none⟩ = some (.int .i64 a.2)) (h2 : w.cell? ⟨g, o + 2, none⟩ = some (.bool b.1)) (h3 : w.cell? ⟨g, o + 3, none⟩ = some (.int .i64 b.2)) (h4 : w.cell? ⟨g, o + 4, none⟩ = some (.bool c.1)) (h5 : w.cell? ⟨g, o + 5, none⟩ = some (.int .i64 c.2)) :
    Calls Tryz.prog 89 #[.slice (some ⟨g, o, none⟩) 3 3, .agg #[.bool true, .int .i64 v]] w fun e W => e = .returned (.bool (own v a b c)) ∧ Below w.heap.size w W := by
  refine api_Term_89.calls 5 (some ⟨g, o, none⟩) 3 [⟨a.1, a.2⟩, ⟨b.1, b.2⟩, ⟨c.1, c.2⟩] true v (own v a b c) w ?_ (by simp) (contains3_value a b c v)
  refine ⟨rfl, by simp, fun _ => ⟨_, rfl, fun j p hj => ?_⟩⟩
  rcases (show j = 0 ∨ j = 1 ∨ j = 2 by have := (List.getElem?_eq_some_iff.1 hj).1; simp at this; omega) with rfl | rfl | rfl
  all_goals
    simp at hj
    subst hj
    refine ⟨_, rfl, k69_mk _ _, fun i u hi => ?_⟩
    rcases (show i = 0 ∨ i = 1 by have := (List.getElem?_eq_some_iff.1 hi).1; simp at this; omega) with rfl | rfl
    all_goals
      simp at hi
      subst hi
      simpa [Addr.add, k69, Kd.iso, Kd.pair, Kd.bool, Kd.int] using by assumption
end Go.Proofs.YtkbkkceeolclmaaGreatDoor.X
namespace Go.Proofs.YtkbkkceeolclmaaGreatDoor.X
open Go.RowKit Go.TX Go.Proofs.YtkbkkceeolclmaaGreatDoorW.PrintWords Go.Proofs.YtkbkkceeolclmaaGreatDoorL
theorem ways_take (v : Int) : ∀ (l : List Cd) (i : Nat) (pre : List Nat) (j : Nat) (hj : j < l.length), TX.ways v (l.take (j + 1)) i pre = TX.ways v (l.take j) i pre ++ waysC v l[j] (pre ++ [i + j])
  | x :: l, i, pre, 0, _ => by simp [TX.ways]
  | x :: l, i, pre, j + 1, hj => by
    have := ways_take v l (i + 1) pre j (by simpa using hj)
    simp only [List.take_succ_cons, TX.ways, List.getElem_cons_succ, List.append_assoc]
    rw [this, show i + (j + 1) = i + 1 + j by omega]
mutual
/-- There are no more ways than conditions. -/
theorem waysC_len (v : Int) : ∀ (x : Cd) (pre : List Nat), (waysC v x pre).length ≤ csize x
  | .mk k a b c subs, pre => by
    unfold waysC
    have := ways_len v subs 0 pre
    split
    · simp only [csize]; omega
    · split
      · simp [csize]
      · simp
theorem ways_len (v : Int) : ∀ (l : List Cd) (i : Nat) (pre : List Nat), (TX.ways v l i pre).length ≤ csizeL l
  | [], _, _ => by simp [TX.ways]
  | x :: l, i, pre => by
    have h1 := waysC_len v x (pre ++ [i])
    have h2 := ways_len v l (i + 1) pre
    simp only [TX.ways, csizeL, List.length_append]
    omega
end

/-- A row of numbers of the call's own is a way that can be read. -/
theorem wayAt_of_own {W : World} {n : Nat} {v : Value} {l : List Nat} (h : W.ownsRow n 3 1 v l.length (ints l)) : WayAt W v l := by
  rcases h.2 with ⟨rfl, e⟩ | ⟨g, cap, cur, rfl, hg, hh, _⟩
  · exact .inl ⟨rfl, List.length_eq_zero_iff.1 e⟩
  · refine .inr ⟨g, cap, rfl, (Array.getElem?_eq_some_iff.1 hh).1, fun j hj => ?_⟩
    have := h.cells (g := g) rfl j (.int .i64 ((l[j] : Nat) : Int)) (by simp [hj])
    have e : (⟨g, 0, none⟩ : Addr).add j = ⟨g, j, none⟩ := by
      unfold Addr.add
      split
      · rename_i e; subst e; rfl
      · simp
    rw [e] at this
    exact this
/-- What stays as it was: all that was there but the row's box and the row's old block. -/
def Stays (w W : World) (p : Nat) (V : Value) : Prop := ∀ b, b < w.heap.size → b ≠ p → V.ownBlock ≠ some b → W.heap[b]? = w.heap[b]?
end Go.Proofs.YtkbkkceeolclmaaGreatDoor.X
namespace Go.Proofs.YtkbkkceeolclmaaGreatDoor.X
open Go.RowKit Go.TX Go.Proofs.YtkbkkceeolclmaaGreatDoorW.PrintWords Go.Proofs.YtkbkkceeolclmaaGreatDoorL
theorem info137 : (Tryz.prog.info? 137).map (fun i => (i.zero, i.size, i.bytes)) = some (some (.slice none 0 0), 1, 24) := by kernel_rfl
/-- What is known of the row of ways at *out. -/
structure WR (base : Nat) (w0 W : World) (p : Nat) (V0 V : Value) (ws : List (List Nat)) : Prop where
  box : W.heap[p]? = some (.cells #[V] 114)
  row : OW base W V ws
  low : Below base w0 W
  stay : Stays w0 W p V0
  own : ∀ b, V.ownBlock = some b → V0.ownBlock = some b ∨ w0.heap.size ≤ b
/-- A row of numbers is not the box. -/
theorem apart_box {W : World} {m j p : Nat} {v V : Value} {ys : List Value} (hp : W.heap[p]? = some (.cells #[V] 114)) (h' : W.ownsRow m 3 1 v j ys) {b : Nat} (hb : v.ownBlock = some b) : b ≠ p := by
  rintro rfl
  rcases h'.2 with ⟨rfl, rfl⟩ | ⟨g, cap, cur, rfl, _, hh, _⟩
  · simp [Value.ownBlock] at hb
  · simp [Value.ownBlock] at hb
    subst hb
    rw [hh] at hp
    cases hp
/-- A row of ways is not its box. -/
theorem apart_box2 {W : World} {m j p : Nat} {v V : Value} {ys : List Value} (hp : W.heap[p]? = some (.cells #[V] 114)) (h' : W.ownsRow m 137 1 v j ys) {b : Nat} (hb : v.ownBlock = some b) : b ≠ p := by
  rintro rfl
  rcases h'.2 with ⟨rfl, rfl⟩ | ⟨g, cap, cur, rfl, _, hh, _⟩
  · simp [Value.ownBlock] at hb
  · simp [Value.ownBlock] at hb
    subst hb
    rw [hh] at hp
    cases hp
/-- It stays as the row of ways grows. -/
theorem own3_stays {W W' : World} {n m k j p : Nat} {V v : Value} {xs ys : List Value} (h : W.ownsRow n 137 1 V k xs) (hp : W.heap[p]? = some (.cells #[V] 114)) (h' : W.ownsRow m 3 1 v j ys) (hs : Stays W W' p V) : W'.ownsRow m 3 1 v j ys :=
  owns_move h' fun b _ hl hb => hs b hl (apart_box hp h' hb) fun e => apart3 h h' hb e.symm
set_option maxRecDepth 100000 in
set_option maxHeartbeats 4000000 in
theorem walk74 (v : Int) (base p : Nat) (n : Nat) : ∀ (subs : List Cd) (A : Option Addr) (cap : Nat) (pre : List Nat) (way V : Value) (ws : List (List Nat)) (w : World), csizeL subs < n → n + pre.length ≤ 100000 → ws.length + csizeL subs ≤ 100000 → RepL evA w (fun b => b < base) subs A 0 → base ≤ w.heap.size → base ≤ p →
    w.heap[p]? = some (.cells #[V] 114) → OW base w V ws → w.ownsRow base 3 1 way pre.length (ints pre) →
    Calls Tryz.prog 74 #[.slice A subs.length cap, .int .i64 v, way, .pointer (some ⟨p, 0, none⟩)] w fun e W => (∃ u, e = .returned u) ∧ ∃ V', WR base w W p V V' (ws ++ TX.ways v subs 0 pre) := by
  induction n with
  | zero => intro subs A cap pre way V ws w h; omega
  | succ n ih =>
    intro subs A cap pre way V ws w hn hn1 hws hR hbw hbp hp hV hway
    obtain ⟨i1, hi1, hx0, hx1, hx2⟩ := info_parts info137
    obtain ⟨i0, hi, hz0, hz1, hz2⟩ := info_parts info3
    replace hi := Aside0.mk hi
    replace hz0 := Aside0.mk hz0
    replace hz1 := Aside0.mk hz1
    replace hz2 := Aside0.mk hz2
    replace hi1 := Aside0.mk hi1
    replace hx0 := Aside0.mk hx0
    replace hx1 := Aside0.mk hx1
    replace hx2 := Aside0.mk hx2
    have hlen := csizeL_len subs
    have hmax : 1000000 ≤ maxLen := by decide
    have hW0 := Aside0.mk (WR.mk (base := base) (w0 := w) hp (by simpa [TX.ways] using hV) (Below.refl _ _) (fun _ _ _ _ => rfl) (fun _ h => .inl h) : WR base w w p V V (ws ++ TX.ways v (subs.take 0) 0 pre))
    replace hR := Aside0.mk hR
    replace hway := Aside0.mk hway
    clear hp hV
    go_enter Tryz.func74, Tryz.ntmps74
    go_upto_region 1 with fail
    go_loopw [13] (fun i wr => ∃ (j : Nat) (V' : Value), i = .int .i64 j ∧ j ≤ subs.length ∧ WR base w wr p V V' (ws ++ TX.ways v (subs.take j) 0 pre) ∧ w.heap.size ≤ wr.heap.size ∧ wr.ownsRow base 3 1 way pre.length (ints pre)) (fun i _ => subs.length - (intOf i).toNat)
    case atStart => exact ⟨0, V, rfl, Nat.zero_le _, hW0.out, Nat.le_refl _, hway.out⟩
    case round =>
      obtain ⟨j, V', rfl, hj, hWR, hsz, hwr⟩ := hrel
      clear hW0 hway
      by_cases hlt : j < subs.length
      · obtain ⟨b', o, k', x, y, z, subs', B, cap', rfl, hbl, hx, hlen', hR', htk, hle, c0, c1, c2, c3, c4, c5, c6, c7⟩ := sub_at (RepL.move (W := wr) _ _ _ hR.out (fun b hb _ => hWR.low.block b hb)) hlt
        have hAB : Below wr.heap.size wr (wr.alloc (oC evA 72 k' x y z (.slice B subs'.length cap'))) := (Below.refl _ _).alloc (Nat.le_refl _) _
        have hxW := Aside0.mk (blk_new wr (oC evA 72 k' x y z (.slice B subs'.length cap')))
        have hRW := Aside0.mk (hR'.below hAB)
        have hwW := Aside0.mk (owns_below hwr hAB)
        have hrW := Aside0.mk (hWR.row.below hAB)
        have hpW := Aside0.mk ((hAB.block p (blk_lt hWR.box)).trans hWR.box)
        have hlW := Aside0.mk (hWR.low.trans (hAB.mono (Nat.le_trans hbw hsz)))
        have hsW := Aside0.mk (show Stays w (wr.alloc (oC evA 72 k' x y z (.slice B subs'.length cap'))) p V from fun b h1 h2 h3 => (hAB.block b (Nat.lt_of_lt_of_le h1 hsz)).trans (hWR.stay b h1 h2 h3))
        have hoW := Aside0.mk hWR.own
        have hzW := Aside0.mk (Nat.le_trans hsz hAB.size)
        clear hwr hWR hAB hR'
        go_upto_region 3 with fail
        generalize wr.alloc (oC evA 72 k' x y z (.slice B subs'.length cap')) = W at hxW hRW hwW hrW hpW hlW hsW hzW ⊢
        clear c0 c1 c2 c3 c4 c5 c6 c7 hbl
        generalize wr.heap.size = g at hxW hsz ⊢
        clear wr
        have hjm : j ≤ 1000000 := by omega
        have hpl : pre.length ≤ 1000000 := by omega
        have hp1 : pre.length + 1 ≤ maxLen := by omega
        have hp2 : (pre.length + 1) * 8 ≤ 140737488355328 := by omega
        go_upto_region 4 with (first | (go_at_call 88; refine (clone_way (wayAt_of_own hwW.out) hpl).mono ?_; rintro e w1 ⟨u1, rfl, ho1, hb1⟩; obtain ⟨ua, uc, rfl⟩ := owns_form ho1; have ho2 := owns_below ho1 ((Below.refl _ _).alloc (Nat.le_refl _) (.cells #[.int .i64 (j : Int)] 3)); have hn2 := blk_new w1 (.cells #[.int .i64 (j : Int)] 3); have hz2' : W.heap.size ≤ (w1.alloc (.cells #[.int .i64 (j : Int)] 3)).heap.size := Nat.le_trans hb1.size (by simp); replace hb1 := Aside0.mk (hb1.alloc hb1.size (.cells #[.int .i64 (j : Int)] 3)); replace ho2 := Aside0.mk ho2; replace hn2 := Aside0.mk hn2; replace hz2' := Aside0.mk hz2'; clear ho1) | (at_builtin; refine wpList_append_own _ rfl _ _ 137 rfl W.heap.size 3 i0 (.int .i64 0) 1 8 Tryz.underlying137 hi.out hz0.out hz1.out hz2.out rfl (by decide) _ pre.length (ints pre) rfl ho2.out ⟨w1.heap.size, 0, none⟩ 1 1 [.int .i64 (j : Int)] rfl rfl (cells_at hn2.out) (by simp [Value.oneCell']) hp1 hp2 hz2'.out ?_; intro v3 w3 hown3 hgr3 _; replace hown3 := Aside0.mk hown3; replace hgr3 := Aside0.mk hgr3))
        obtain ⟨va, vc, rfl⟩ := owns_form hown3.out
        have hB3 := Aside0.mk (hb1.out.grown hgr3.out hz2'.out (fun b hb => (owner_lt ho2.out hb).1))
        have hWz : base ≤ W.heap.size := Nat.le_trans hbw hzW.out
        have h3 : Aside0 (w3.ownsRow base 3 1 (.slice va (pre.length + 1) vc) (pre ++ [j]).length (ints (pre ++ [j]))) := ⟨by
          have h := hown3.out
          simp only [ints, List.map_append, List.map_cons, List.map_nil, List.length_append, List.length_cons, List.length_nil, Nat.zero_add]
          exact ⟨h.1, h.2.imp id (fun ⟨g, cap, cur, e, hb, q⟩ => ⟨g, cap, cur, e, Nat.le_trans hWz hb, q⟩)⟩⟩
        have hx3 := Aside0.mk ((hB3.out.block g (blk_lt hxW.out)).trans hxW.out)
        have hp3 := Aside0.mk ((hB3.out.block p (blk_lt hpW.out)).trans hpW.out)
        have hR3 := Aside0.mk (hRW.out.below hB3.out)
        have hr3 := Aside0.mk (hrW.out.below hB3.out)
        have hw3 := Aside0.mk (owns_below hwW.out hB3.out)
        have hl3 := Aside0.mk (hlW.out.trans (hB3.out.mono hWz))
        have hs3 := Aside0.mk (show Stays w w3 p V from fun b h1 h2 h3 => (hB3.out.block b (Nat.lt_of_lt_of_le h1 hzW.out)).trans (hsW.out b h1 h2 h3))
        have hz3 := Aside0.mk (Nat.le_trans hzW.out hB3.out.size)
        have hto := Aside0.mk (ways_take v subs 0 pre j hlt)
        clear hB3 hb1 hgr3 hz2' ho2 hn2 hown3 hxW hRW hwW hrW hpW hlW hsW hzW
        obtain ⟨d0, d1, d2, d3, d4, d5, d6, d7⟩ := box8 hx3.out
        by_cases hk : k' = 3
        · subst hk
          have hcs : csize subs[j] = 1 + csizeL subs' := by rw [hx]; simp [csize]
          have hwc : TX.waysC v subs[j] (pre ++ [0 + j]) = TX.ways v subs' 0 (pre ++ [j]) := by rw [hx, Nat.zero_add]; simp [TX.waysC]
          have hlw := ways_len v (subs.take j) 0 pre
          have hcall := Aside0.mk (ih subs' B cap' (pre ++ [j]) (.slice va (pre.length + 1) vc) V' (ws ++ TX.ways v (subs.take j) 0 pre) w3 (by omega) (by simp; omega) (by rw [List.length_append]; omega) hR3.out (Nat.le_trans hbw hz3.out) hbp hp3.out hr3.out h3.out)
          replace hwc := Aside0.mk hwc
          replace hx := Aside0.mk hx
          clear hcs hlw htk hle
          go_wp2_with (go_at_call 74; refine hcall.out.mono ?_; rintro e w4 ⟨⟨u4, rfl⟩, V4, hW4⟩; replace hW4 := Aside0.mk hW4)
          refine ⟨⟨j + 1, V4, by go_num, by omega, ⟨hW4.out.box, ?_, hl3.out.trans (hW4.out.low), fun b q1 q2 q3 => ?_, fun b hb => ?_⟩, Nat.le_trans hz3.out hW4.out.low.size, ?_⟩, by simp [intOf]; omega⟩
          · rw [hto.out, hwc.out, ← List.append_assoc]; exact hW4.out.row
          · refine (hW4.out.stay b (Nat.lt_of_lt_of_le q1 hz3.out) q2 (fun e => ?_)).trans (hs3.out b q1 q2 q3)
            rcases hoW.out b e with q | q
            · exact q3 q
            · omega
          · rcases hW4.out.own b hb with q | q
            · exact hoW.out b q
            · exact .inr (Nat.le_trans hz3.out q)
          · obtain ⟨vs, _, hvo, _⟩ := hr3.out
            exact own3_stays hvo hp3.out hw3.out hW4.out.stay
        · have hc3 := Aside0.mk (contains3 x y z v g 1 w3 d1 d2 d3 d4 d5 d6)
          have hwc : TX.waysC v subs[j] (pre ++ [0 + j]) = if own v x y z then [pre ++ [j]] else [] := by rw [hx, Nat.zero_add]; simp [TX.waysC, hk]
          replace hwc := Aside0.mk hwc
          replace hx := Aside0.mk hx
          clear htk hle
          have hk3 : (k' == 3) = false := by simpa using hk
          cases ho : own v x y z with
          | false =>
            rw [ho] at hc3
            go_wp2_with (go_at_call 89; refine hc3.out.mono ?_; rintro e w4 ⟨rfl, hb4⟩; replace hb4 := Aside0.mk hb4)
            refine ⟨⟨j + 1, V', by go_num, by omega, ⟨(hb4.out.block p (blk_lt hp3.out)).trans hp3.out, ?_, hl3.out.trans (hb4.out.mono (Nat.le_trans hbw hz3.out)), fun b q1 q2 q3 => (hb4.out.block b (Nat.lt_of_lt_of_le q1 hz3.out)).trans (hs3.out b q1 q2 q3), hoW.out⟩, Nat.le_trans hz3.out hb4.out.size, owns_below hw3.out hb4.out⟩, by simp [intOf]; omega⟩
            rw [hto.out, hwc.out, if_neg (by rw [ho]; simp), List.append_nil]
            exact hr3.out.below hb4.out
          | true =>
            rw [ho] at hc3
            rw [ho, if_pos rfl] at hwc
            have hlw := ways_len v (subs.take j) 0 pre
            have hct := csizeL_take_le subs j
            have hlj : (ws ++ TX.ways v (subs.take j) 0 pre).length + 1 ≤ 1000000 := by
              rw [List.length_append]
              omega
            have hkey : Aside0 (ws ++ TX.ways v (subs.take (j + 1)) 0 pre = (ws ++ TX.ways v (subs.take j) 0 pre) ++ [pre ++ [j]]) := ⟨by rw [hto.out, hwc.out, List.append_assoc]⟩
            generalize ws ++ TX.ways v (subs.take j) 0 pre = L at hr3 hlj hkey
            clear hlw hct hto hwc
            obtain ⟨vs, hvl, hvo, hvr⟩ := hr3.out
            obtain ⟨A', c', rfl⟩ := owns_form hvo
            replace hvl := Aside0.mk hvl
            replace hvo := Aside0.mk hvo
            replace hvr := Aside0.mk hvr
            clear hr3
            have hL1 : L.length + 1 ≤ maxLen := by omega
            have hL2 : (L.length + 1) * 24 ≤ 140737488355328 := by omega
            have hbz := Aside0.mk (Nat.le_trans hbw hz3.out)
            go_upto_region 7 with (go_at_call 89; refine hc3.out.mono ?_; rintro e w4 ⟨rfl, hb4⟩; replace hb4 := Aside0.mk hb4)
            have hA5 : Below base w4 (w4.alloc (.cells #[.slice va (pre.length + 1) vc] 137)) := (Below.refl _ _).alloc (Nat.le_trans hbz.out hb4.out.size) _
            have hA5' : Below w4.heap.size w4 (w4.alloc (.cells #[.slice va (pre.length + 1) vc] 137)) := (Below.refl _ _).alloc (Nat.le_refl _) _
            have hp4 := (hb4.out.block p (blk_lt hp3.out)).trans hp3.out
            have p0 := (blk_cell hp4 0).trans (show _ = some (Value.slice A' L.length c') from rfl)
            have hp5 := Aside0.mk (blk_alloc hp4 (.cells #[.slice va (pre.length + 1) vc] 137))
            have hvo5 := Aside0.mk (owns_below (owns_below hvo.out hb4.out) hA5')
            have hx5 := Aside0.mk (owns_below (owns_below h3.out hb4.out) hA5')
            have hw5 := Aside0.mk (owns_below (owns_below hw3.out hb4.out) hA5')
            have hn5 := Aside0.mk (blk_new w4 (.cells #[.slice va (pre.length + 1) vc] 137))
            have hl5 := Aside0.mk (hl3.out.trans ((hb4.out.mono hbz.out).trans hA5))
            have hs5 := Aside0.mk (show Stays w (w4.alloc (.cells #[.slice va (pre.length + 1) vc] 137)) p V from fun b h1 h2 h3 => (hA5'.block b (Nat.lt_of_lt_of_le h1 (Nat.le_trans hz3.out hb4.out.size))).trans ((hb4.out.block b (Nat.lt_of_lt_of_le h1 hz3.out)).trans (hs3.out b h1 h2 h3)))
            have hz5 := Aside0.mk (Nat.le_trans hz3.out (Nat.le_trans hb4.out.size hA5'.size))
            have hb5 : base ≤ (w4.alloc (.cells #[.slice va (pre.length + 1) vc] 137)).heap.size := Nat.le_trans hbz.out (Nat.le_trans hb4.out.size hA5'.size)
            have hr5 : Aside0 (∀ i (h : i < L.length), ∃ v, vs[i]? = some v ∧ 0 < L[i].length ∧ (w4.alloc (.cells #[.slice va (pre.length + 1) vc] 137)).ownsRow base 3 1 v L[i].length (ints L[i])) := ⟨fun i hi => by
              obtain ⟨u, q1, q2, q3⟩ := hvr.out i hi
              exact ⟨u, q1, q2, owns_below (owns_below q3 hb4.out) hA5'⟩⟩
            replace hb5 := Aside0.mk hb5
            clear hA5 hA5' hp4 hvo hvr hp3 hR3 hw3 hl3 hs3 hz3 h3 hc3 hb4 hx3 d0 d1 d2 d3 d4 d5 d6 d7
            go_wp2_with (at_builtin; refine wpList_append_own2 rfl _ _ 114 rfl base 137 i1 (.slice none 0 0) 1 24 Tryz.underlying114 hi1.out hx0.out hx1.out hx2.out rfl (by decide) _ L.length vs rfl hvo5.out ⟨w4.heap.size, 0, none⟩ 1 1 [.slice va (pre.length + 1) vc] rfl (by decide) rfl (cells_at hn5.out) (by simp [Value.oneCell']) hL1 hL2 hb5.out ?_; intro v3 w5 hown5 hgr5 hfr5; have hpw := (hgr5.block p (blk_lt hp5.out) (fun e => apart_box2 hp5.out hvo5.out e.symm rfl)).trans hp5.out; have f5 := blk_frozen hpw 0; have q5 := (blk_cell hpw 0).trans (show _ = some (Value.slice A' L.length c') from rfl); obtain ⟨A5, c5, rfl⟩ := owns_form hown5; replace hpw := Aside0.mk hpw; replace hown5 := Aside0.mk hown5; replace hgr5 := Aside0.mk hgr5; replace hfr5 := Aside0.mk hfr5)
            refine ⟨⟨j + 1, .slice A5 (L.length + 1) c5, by go_num, by omega, ⟨blk_put hpw.out 0 _ rfl, ?_, ?_, fun b q1 q2 q3 => ?_, fun b hb => ?_⟩, ?_, ?_⟩, by simp [intOf]; omega⟩
            · rw [hkey.out]
              exact (OW.snoc hvl.out hvo5.out hr5.out hx5.out (by simp) hown5.out hgr5.out).move fun b _ _ cs t ht he => Below.heap_setCell _ _ _ _ (by
                rintro rfl
                rw [hpw.out] at ht
                cases ht
                rcases he with e | e <;> exact absurd e (by decide))
            · exact (hl5.out.grown hgr5.out hb5.out (fun b hb => (owner_lt hvo5.out hb).1)).setCell (p := ⟨p, 0, none⟩) hbp _
            · refine (Below.heap_setCell _ _ _ _ q2).trans ((hgr5.out.block b (Nat.lt_of_lt_of_le q1 hz5.out) (fun e => ?_)).trans (hs5.out b q1 q2 q3))
              rcases hoW.out b e.symm with q | q
              · exact q3 q
              · omega
            · rcases hfr5.out b hb with q | q
              · exact hoW.out b q
              · exact .inr (Nat.le_trans hz5.out q)
            · exact ((hl5.out.grown hgr5.out hb5.out (fun b hb => (owner_lt hvo5.out hb).1)).setCell (p := ⟨p, 0, none⟩) hbp (.slice A5 (L.length + 1) c5)).size
            · have hw6 := own3_grown hvo5.out hw5.out hgr5.out
              exact owns_move hw6 fun b _ _ hb => Below.heap_setCell _ _ _ _ (apart_box hpw.out hw6 hb)
      · obtain rfl : j = subs.length := by omega
        rw [List.take_length] at hWR
        replace hWR := Aside0.mk hWR
        replace hwr := Aside0.mk hwr
        go_wp2
        go_end0
        exact ⟨⟨_, rfl⟩, V', hWR.out⟩
end Go.Proofs.YtkbkkceeolclmaaGreatDoor.X
