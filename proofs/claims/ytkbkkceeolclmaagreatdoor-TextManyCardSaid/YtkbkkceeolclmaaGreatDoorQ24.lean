/- slices.Equal of numbers. Is a way within a scope? Ways of which one is not within the scope. Are all places in the scope of the first one? -/
import Derived.Test.YtkbkkceeolclmaaGreatDoorQ23
set_option linter.unusedVariables false
set_option linter.unusedSimpArgs false
namespace Go.Proofs.YtkbkkceeolclmaaGreatDoor.X
open Go.RowKit Go.TX Go.Proofs.YtkbkkceeolclmaaGreatDoorW.PrintWords Go.Proofs.YtkbkkceeolclmaaGreatDoorL
attribute [local go_sem] YReg.envOf
set_option maxRecDepth 100000 in
set_option maxHeartbeats 1000000 in
theorem equal_walk (b1 b2 c1 c2 : Nat) (l1 l2 : List Nat) (w : World) (hl : l2.length = l1.length) (h1 : 0 < l1.length → b1 < w.heap.size) (h2 : 0 < l1.length → b2 < w.heap.size) (n1 : Nums w b1 l1) (n2 : Nums w b2 l2) (hm : l1.length ≤ 1000000) :
    Calls Tryz.prog 73 #[.slice (some ⟨b1, 0, none⟩) l1.length c1, .slice (some ⟨b2, 0, none⟩) l1.length c2] w fun e W => e = .returned (.bool (decide (l1 = l2))) ∧ Below w.heap.size w W := by
  replace hl := Aside0.mk hl
  replace n1 := Aside0.mk n1
  replace n2 := Aside0.mk n2
  go_enter Tryz.func73, Tryz.ntmps73
  go_wp2
  go_loopw [13] (fun i wr => ∃ q : Nat, i = .int .i64 q ∧ q ≤ l1.length ∧ Below w.heap.size w wr ∧ (∀ j, j < q → l1[j]? = l2[j]?)) (fun i _ => l1.length - (intOf i).toNat)
  case atStart => exact ⟨0, rfl, Nat.zero_le _, Below.refl _ _, fun j h => absurd h (by omega)⟩
  case round =>
    obtain ⟨q, rfl, hq, hBw, hall⟩ := hrel
    by_cases hlt : q < l1.length
    · have hlt2 : q < l2.length := by rw [hl.out]; exact hlt
      have x1 : Aside0 (∀ W', YReg.Ext wr.drew W' → W'.cell? ⟨b1, q, none⟩ = some (.int .i64 ((l1[q] : Nat) : Int))) := ⟨fun W' h => ((hBw.trans (h.of_drew.mono hBw.size)).cell (p := ⟨b1, q, none⟩) (h1 (by omega))).trans (n1.out q hlt)⟩
      have x2 : Aside0 (∀ W', YReg.Ext wr.drew W' → W'.cell? ⟨b2, q, none⟩ = some (.int .i64 ((l2[q] : Nat) : Int))) := ⟨fun W' h => ((hBw.trans (h.of_drew.mono hBw.size)).cell (p := ⟨b2, q, none⟩) (h2 (by omega))).trans (n2.out q hlt2)⟩
      have e1 := List.getElem?_eq_getElem hlt
      have e2 := List.getElem?_eq_getElem hlt2
      replace hBw := Aside0.mk hBw
      replace hall := Aside0.mk hall
      generalize hv1 : l1[q] = v1 at x1 e1
      generalize hv2 : l2[q] = v2 at x2 e2
      replace hv1 := Aside0.mk hv1
      replace hv2 := Aside0.mk hv2
      replace e1 := Aside0.mk e1
      replace e2 := Aside0.mk e2
      clear hv1 hv2
      clear hlt2
      go_upto_region 6 with fail
      have s1 := x1.out
      have s2 := x2.out
      refine YReg.wp_region_tail 8 none YReg.Ext YReg.Ext YReg.Ext.refl YReg.Ext.trans YReg.Ext.trans (fun _ _ h => h) (by kernel_rfl) (by kernel_rfl) (by kernel_rfl) [(0, .det (.slice (some ⟨b1, 0, none⟩) l1.length c1)), (1, .det (.slice (some ⟨b2, 0, none⟩) l1.length c2)), (5, .det (.int .i64 q))] (YReg.base_cons rfl (YReg.base_cons rfl (YReg.base_cons rfl YReg.base_nil))) ?_
      simp only [List.take_succ_cons, List.take_zero, List.drop_succ_cons, List.drop_zero]
      repeat (first
        | (refine YReg.walk_move (by decide) YReg.Ext.refl rfl rfl _ rfl (by kernel_rfl) (by kernel_rfl) ?_)
        | (refine YReg.run_1 (by decide) YReg.Ext.refl rfl rfl _ rfl (by kernel_rfl) (by kernel_rfl) ?_; apply Exists.intro; refine ⟨fun ρ W hE h1 => ?_, ?_⟩; (go_simp; try rfl))
        | (refine YReg.run_2 (by decide) YReg.Ext.refl rfl rfl rfl _ rfl (by kernel_rfl) (by kernel_rfl) ?_; apply Exists.intro; refine ⟨fun ρ W hE h1 h2 => ?_, ?_⟩; (go_simp; try rfl)))
      intro ρ W1 hE _
      simp only [Act.put, List.setIfInBounds_toArray, List.set_cons_zero, List.set_cons_succ]
      have hB1 := Aside0.mk (hBw.out.trans (hE.of_drew.mono hBw.out.size))
      clear s1 s2 x1 x2 hE
      by_cases hv : v1 = v2
      · subst hv
        have hne : ((v1 : Int) != (v1 : Int)) = false := by simp
        go_wp2
        go_roundw
        case rel =>
          refine ⟨q + 1, by go_num, by omega, hB1.out, fun j hj => ?_⟩
          rcases Nat.lt_succ_iff_lt_or_eq.1 hj with h | rfl
          · exact hall.out j h
          · rw [e1.out, e2.out]
        case measure => simp [intOf]; omega
      · have hne : ((v1 : Int) != (v2 : Int)) = true := by simp; omega
        go_wp2
        go_ret
        refine ⟨(congrArg (fun b => Ending.returned (.bool b)) (decide_eq_false (fun e => hv ?_))).symm, hB1.out⟩
        have := e1.out
        rw [e, e2.out] at this
        exact (Option.some.inj this).symm
    · obtain rfl : q = l1.length := by omega
      have he : l1 = l2 := List.ext_getElem? fun j => by
        by_cases hj : j < l1.length
        · exact hall j hj
        · rw [List.getElem?_eq_none (by omega), List.getElem?_eq_none (by rw [hl.out]; omega)]
      replace he := Aside0.mk he
      replace hBw := Aside0.mk hBw
      clear hall
      go_wp2
      go_ret
      exact ⟨(congrArg (fun b => Ending.returned (.bool b)) (decide_eq_true he.out)).symm, hBw.out⟩
end Go.Proofs.YtkbkkceeolclmaaGreatDoor.X
namespace Go.Proofs.YtkbkkceeolclmaaGreatDoor.X
open Go.RowKit Go.TX Go.Proofs.YtkbkkceeolclmaaGreatDoorW.PrintWords Go.Proofs.YtkbkkceeolclmaaGreatDoorL
theorem prefix_take : ∀ (s l : List Nat), s.length ≤ l.length → decide (l.take s.length = s) = s.isPrefixOf l
  | [], l, _ => by simp
  | x :: s, [], h => by simp at h
  | x :: s, y :: l, h => by
    have := prefix_take s l (by simpa using h)
    simp only [List.length_cons, List.take_succ_cons, List.isPrefixOf, List.cons.injEq]
    rw [← this]
    by_cases e : y = x
    · subst e; simp
    · have e2 : ¬ x = y := fun q => e q.symm
      simp [e, e2]
theorem prefix_len : ∀ (s l : List Nat), l.length < s.length → s.isPrefixOf l = false
  | [], l, h => by simp at h
  | x :: s, [], _ => rfl
  | x :: s, y :: l, h => by
    have := prefix_len s l (by simpa using h)
    simp [List.isPrefixOf, this]
theorem Nums.take {w : World} {b : Nat} {l : List Nat} (h : Nums w b l) (n : Nat) : Nums w b (l.take n) := fun j hj => by
  rw [h j (by simp at hj; omega), List.getElem_take]
attribute [local go_sem] YReg.envOf
set_option maxRecDepth 100000 in
set_option maxHeartbeats 1000000 in
theorem scope_walk (g b1 b2 c1 c2 : Nat) (l s : List Nat) (w : World) (hg : w.heap[g]? = some (.cells #[.slice (some ⟨b2, 0, none⟩) s.length c2] 137)) (h1 : b1 < w.heap.size) (h2 : b2 < w.heap.size) (n1 : Nums w b1 l) (n2 : Nums w b2 s) (hm : s.length ≤ 1000000) (hm1 : l.length ≤ c1) :
    Calls Tryz.prog 72 #[.slice (some ⟨b1, 0, none⟩) l.length c1, .pointer (some ⟨g, 0, none⟩)] w fun e W => e = .returned (.bool (!(s.isPrefixOf l))) ∧ Below w.heap.size w W := by
  have x1 : ∀ W', YReg.Ext w.drew W' → W'.cell? ⟨g, 0, none⟩ = some (.slice (some ⟨b2, 0, none⟩) s.length c2) := fun W' h => (h.of_drew.cell (p := ⟨g, 0, none⟩) (blk_lt hg)).trans ((blk_cell hg 0).trans rfl)
  replace n1 := Aside0.mk n1
  replace n2 := Aside0.mk n2
  replace hg := Aside0.mk hg
  go_enter Tryz.func72, Tryz.ntmps72
  go_upto_region 1 with fail
  by_cases hlt : l.length < s.length
  · have hd : decide ((l.length : Int) < (s.length : Int)) = true := by simp; omega
    refine YReg.wp_region_tail 13 none YReg.Ext YReg.Ext YReg.Ext.refl YReg.Ext.trans YReg.Ext.trans (fun _ _ h => h) (by kernel_rfl) (by kernel_rfl) (by kernel_rfl) [(0, .det (.slice (some ⟨b1, 0, none⟩) l.length c1)), (1, .det (.pointer (some ⟨g, 0, none⟩)))] (YReg.base_cons rfl (YReg.base_cons rfl YReg.base_nil)) ?_
    simp only [List.take_succ_cons, List.take_zero, List.drop_succ_cons, List.drop_zero]
    repeat (first
      | (refine YReg.walk_skip (by decide) _ rfl (by kernel_rfl) (by rfl) ?_)
      | (refine YReg.walk_move (by decide) YReg.Ext.refl rfl rfl _ rfl (by kernel_rfl) (by kernel_rfl) ?_)
      | (refine YReg.run_1 (by decide) YReg.Ext.refl rfl rfl _ rfl (by kernel_rfl) (by kernel_rfl) ?_; apply Exists.intro; refine ⟨fun ρ W hE h1 => ?_, ?_⟩; (go_simp; try rfl))
      | (refine YReg.run_2 (by decide) YReg.Ext.refl rfl rfl rfl _ rfl (by kernel_rfl) (by kernel_rfl) ?_; apply Exists.intro; refine ⟨fun ρ W hE h1 h2 => ?_, ?_⟩; (go_simp; try rfl)))
    intro ρ W1 hE _
    simp only [Act.put, List.setIfInBounds_toArray, List.set_cons_zero, List.set_cons_succ]
    have hB1 := Aside0.mk hE.of_drew
    have hp := Aside0.mk (prefix_len s l hlt)
    clear x1 hE
    go_wp2
    go_ret
    exact ⟨(congrArg (fun b => Ending.returned (.bool !b)) hp.out).symm, hB1.out⟩
  · have hd : decide ((l.length : Int) < (s.length : Int)) = false := by simp; omega
    have hle : s.length ≤ l.length := by omega
    have htl : (l.take s.length).length = s.length := List.length_take_of_le hle
    have k73 : Aside0 (∀ W', YReg.Ext w.drew W' → Calls Tryz.prog 73 #[.slice (some ⟨b1, 0, none⟩) s.length c1, .slice (some ⟨b2, 0, none⟩) s.length c2] W' fun e W2 => ∃ u, e = .returned u ∧ YReg.Ext W' W2 ∧ u = .bool (s.isPrefixOf l)) := ⟨fun W' h => by
      have hc := equal_walk b1 b2 c1 c2 (l.take s.length) s W' htl.symm (fun _ => Nat.lt_of_lt_of_le h1 h.of_drew.size) (fun _ => Nat.lt_of_lt_of_le h2 h.of_drew.size) ((n1.out.take _).below h1 h.of_drew) (n2.out.below h2 h.of_drew) (by omega)
      rw [htl] at hc
      refine hc.mono ?_
      rintro e W2 ⟨rfl, hb⟩
      exact ⟨_, rfl, hb, by rw [prefix_take s l hle]⟩⟩
    replace htl := Aside0.mk htl
    refine YReg.wp_region_tail 13 none YReg.Ext YReg.Ext YReg.Ext.refl YReg.Ext.trans YReg.Ext.trans (fun _ _ h => h) (by kernel_rfl) (by kernel_rfl) (by kernel_rfl) [(0, .det (.slice (some ⟨b1, 0, none⟩) l.length c1)), (1, .det (.pointer (some ⟨g, 0, none⟩)))] (YReg.base_cons rfl (YReg.base_cons rfl YReg.base_nil)) ?_
    simp only [List.take_succ_cons, List.take_zero, List.drop_succ_cons, List.drop_zero]
    have hl1 : s.length ≤ c1 := by omega
    repeat (first
      | (refine YReg.walk_move (by decide) YReg.Ext.refl rfl rfl _ rfl (by kernel_rfl) (by kernel_rfl) ?_)
      | (refine YReg.walk_calld (by decide) k73.out rfl (by kernel_rfl) (by kernel_rfl) _ rfl (by kernel_rfl) (by kernel_rfl) ?_)
      | (refine YReg.run_1 (by decide) YReg.Ext.refl rfl rfl _ rfl (by kernel_rfl) (by kernel_rfl) ?_; apply Exists.intro; refine ⟨fun ρ W hE h1 => ?_, ?_⟩; (go_simp; try rfl))
      | (refine YReg.run_2 (by decide) YReg.Ext.refl rfl rfl rfl _ rfl (by kernel_rfl) (by kernel_rfl) ?_; apply Exists.intro; refine ⟨fun ρ W hE h1 h2 => ?_, ?_⟩; (go_simp; try rfl)))
    intro ρ W1 hE _
    simp only [Act.put, List.setIfInBounds_toArray, List.set_cons_zero, List.set_cons_succ]
    have hB1 := Aside0.mk hE.of_drew
    clear x1 hE k73
    go_wp2
    go_ret
    exact ⟨rfl, hB1.out⟩
end Go.Proofs.YtkbkkceeolclmaaGreatDoor.X
namespace Go.Proofs.YtkbkkceeolclmaaGreatDoor.X
open Go.RowKit Go.TX Go.Proofs.YtkbkkceeolclmaaGreatDoorW.PrintWords Go.Proofs.YtkbkkceeolclmaaGreatDoorL
/-- Ways in a row. -/
def Ways (w : World) (a o : Nat) (ws : List (List Nat)) : Prop := ∀ i (h : i < ws.length), ∃ b c, w.cell? ⟨a, o + i, none⟩ = some (.slice (some ⟨b, 0, none⟩) ws[i].length c) ∧ b < w.heap.size ∧ ws[i].length ≤ c ∧ c ≤ 9223372036854775807 ∧ Nums w b ws[i]
set_option maxRecDepth 100000 in
set_option maxHeartbeats 1000000 in
theorem index_walk (g b2 c2 a o c : Nat) (ws : List (List Nat)) (s : List Nat) (w : World) (hg : w.heap[g]? = some (.cells #[.slice (some ⟨b2, 0, none⟩) s.length c2] 137)) (ha : a < w.heap.size) (h2 : b2 < w.heap.size) (hw : Ways w a o ws) (n2 : Nums w b2 s) (hm : s.length ≤ 1000000) (hwl : ws.length ≤ 1000000) :
    Calls Tryz.prog 87 #[.slice (some ⟨a, o, none⟩) ws.length c, .func (.func 72) #[] #[.pointer (some ⟨g, 0, none⟩)]] w fun e W => (∃ i : Int, e = .returned (.int .i64 i) ∧ (decide (0 ≤ i) = !(ws.all fun x => s.isPrefixOf x))) ∧ Below w.heap.size w W := by
  replace hw := Aside0.mk hw
  replace n2 := Aside0.mk n2
  replace hg := Aside0.mk hg
  go_enter Tryz.func87, Tryz.ntmps87
  go_wp2
  go_loopw [8] (fun i wr => ∃ q : Nat, i = .int .i64 q ∧ q ≤ ws.length ∧ Below w.heap.size w wr ∧ (∀ j (h : j < ws.length), j < q → s.isPrefixOf ws[j] = true)) (fun i _ => ws.length - (intOf i).toNat)
  case atStart => exact ⟨0, rfl, Nat.zero_le _, Below.refl _ _, fun j _ h => absurd h (by omega)⟩
  case round =>
    obtain ⟨q, rfl, hq, hBw, hall⟩ := hrel
    by_cases hlt : q < ws.length
    · obtain ⟨b, cx, hc, hb, hlc, _, hn⟩ := hw.out q hlt
      have hcell := (hBw.cell (p := ⟨a, o + q, none⟩) ha).trans hc
      have hcall := Aside0.mk (scope_walk g b b2 cx c2 ws[q] s wr ((hBw.block g (blk_lt hg.out)).trans hg.out) (Nat.lt_of_lt_of_le hb hBw.size) (Nat.lt_of_lt_of_le h2 hBw.size) (hn.below hb hBw) (n2.out.below h2 hBw) hm hlc)
      clear hc hb hlc hn
      have hqm : q ≤ 1000000 := by omega
      have hq0 : (0 : Int) ≤ (q : Int) := by omega
      cases hp : s.isPrefixOf ws[q] with
      | true =>
        rw [hp] at hcall
        replace hp := Aside0.mk hp
        replace hBw := Aside0.mk hBw
        replace hall := Aside0.mk hall
        generalize hwq : ws[q] = wq at hcall hcell
        clear hwq
        go_wp2_with (go_at_call 72; refine hcall.out.mono ?_; rintro e w2 ⟨rfl, hbb⟩; replace hbb := Aside0.mk hbb)
        go_roundw
        case rel =>
          refine ⟨q + 1, by go_num, by omega, hBw.out.trans (hbb.out.mono hBw.out.size), fun j h hj => ?_⟩
          rcases Nat.lt_succ_iff_lt_or_eq.1 hj with h' | rfl
          · exact hall.out j h h'
          · exact hp.out
        case measure => simp [intOf]; omega
      | false =>
        rw [hp] at hcall
        replace hBw := Aside0.mk hBw
        clear hall
        have hno : Aside0 ((ws.all fun x => s.isPrefixOf x) = false) := ⟨by
          rw [List.all_eq_false]
          exact ⟨ws[q], List.getElem_mem hlt, by rw [hp]; simp⟩⟩
        replace hp := Aside0.mk hp
        generalize hwq : ws[q] = wq at hcall hcell
        clear hwq
        go_wp2_with (go_at_call 72; refine hcall.out.mono ?_; rintro e w2 ⟨rfl, hbb⟩; replace hbb := Aside0.mk hbb)
        go_ret
        exact ⟨⟨(q : Int), rfl, by rw [hno.out]; simp⟩, hBw.out.trans (hbb.out.mono hBw.out.size)⟩
    · obtain rfl : q = ws.length := by omega
      have hyes : Aside0 ((ws.all fun x => s.isPrefixOf x) = true) := ⟨by
        rw [List.all_eq_true]
        intro x hx
        obtain ⟨i, hi, rfl⟩ := List.getElem_of_mem hx
        exact hall i hi hi⟩
      replace hBw := Aside0.mk hBw
      clear hall
      go_wp2
      go_ret
      exact ⟨⟨-1, rfl, by rw [hyes.out]; simp⟩, hBw.out⟩
end Go.Proofs.YtkbkkceeolclmaaGreatDoor.X
namespace Go.Proofs.YtkbkkceeolclmaaGreatDoor.X
open Go.RowKit Go.TX Go.Proofs.YtkbkkceeolclmaaGreatDoorW.PrintWords Go.Proofs.YtkbkkceeolclmaaGreatDoorL
set_option maxRecDepth 100000 in
set_option maxHeartbeats 1000000 in
theorem contains_walk (g b2 c2 a o c : Nat) (ws : List (List Nat)) (s : List Nat) (w : World) (hg : w.heap[g]? = some (.cells #[.slice (some ⟨b2, 0, none⟩) s.length c2] 137)) (ha : a < w.heap.size) (h2 : b2 < w.heap.size) (hw : Ways w a o ws) (n2 : Nums w b2 s) (hm : s.length ≤ 1000000) (hwl : ws.length ≤ 1000000) :
    Calls Tryz.prog 71 #[.slice (some ⟨a, o, none⟩) ws.length c, .func (.func 72) #[] #[.pointer (some ⟨g, 0, none⟩)]] w fun e W => e = .returned (.bool !(ws.all fun x => s.isPrefixOf x)) ∧ Below w.heap.size w W := by
  have hcall := Aside0.mk (index_walk g b2 c2 a o c ws s w hg ha h2 hw n2 hm hwl)
  clear hg hw n2
  go_enter Tryz.func71, Tryz.ntmps71
  go_wp2_with (go_at_call 87; refine hcall.out.mono ?_; rintro e w2 ⟨⟨i, rfl, hi⟩, hbb⟩; replace hbb := Aside0.mk hbb; replace hi := Aside0.mk hi)
  go_ret
  exact ⟨congrArg (fun b => Ending.returned (.bool b)) hi.out, hbb.out⟩
theorem fld0 (k : Int) (p q r : Bool) (x y z : Int) (S : Value) (w : World) : (Instr.field 72 (.agg #[.int .i64 k, .bool p, .int .i64 x, .bool q, .int .i64 y, .bool r, .int .i64 z, S]) 0).run Tryz.prog w = .ok (.int .i64 k) w := by kernel_rfl
attribute [local go_sem high] fld0
theorem place_nil (name : ByteArray) (S : Value) (A : Option Addr) (c : Nat) (w : World) : Calls Tryz.prog 52 #[.agg #[.string name, S], .slice A 0 c] w fun e W => e = .returned (.bool true) ∧ Below w.heap.size w W := by
  have hB0 := Aside0.mk ((Below.refl w.heap.size w).alloc (Nat.le_refl _) (.cells #[.string name, S] 25))
  go_enter Tryz.func52, Tryz.ntmps52
  go_wp2
  go_ret
  exact ⟨rfl, hB0.out⟩
set_option maxRecDepth 100000 in
set_option maxHeartbeats 1000000 in
theorem place_walk (name : ByteArray) (l : List Cd) (A : Option Addr) (cap : Nat) (w : World) (F : Nat → Prop) (hR : RepL evA w F l A 0) (a c : Nat) (w0 : List Nat) (ws : List (List Nat)) (hw : Ways w a 0 (w0 :: ws)) (ha : a < w.heap.size) (hwl : ws.length + 1 ≤ 1000000) (hm : ∀ x ∈ w0 :: ws, x.length ≤ 1000000) (y : Cd) (hat : atL l w0 = some y) :
    Calls Tryz.prog 52 #[.agg #[.string name, .slice A l.length cap], .slice (some ⟨a, 0, none⟩) (ws.length + 1) c] w fun e W => e = .returned (.bool (inPlace l (w0 :: ws))) ∧ Below w.heap.size w W := by
  have hr : inPlace l (w0 :: ws) = (w0 :: ws).all fun x => (scopeOf y.kind w0).isPrefixOf x := by
    show (w0 :: ws).all (fun x => (scopeOf (((atL l w0).map Cd.kind).getD 0) w0).isPrefixOf x) = _
    rw [hat]
    rfl
  rw [hr]
  clear hr
  obtain ⟨i0, r, rfl⟩ : ∃ i0 r, w0 = i0 :: r := by
    cases w0 with
    | nil => cases hat
    | cons i0 r => exact ⟨i0, r, rfl⟩
  have hrl : (i0 :: r).length ≤ 1000000 := hm (i0 :: r) (by simp)
  rw [List.length_cons] at hrl
  obtain ⟨b, cx, hc, hb, hlc, hcx, hn⟩ := hw 0 (by simp)
  simp only [List.getElem_cons_zero, List.length_cons, Nat.add_zero] at hc hlc hn
  have hB0 := Aside0.mk (((Below.refl w.heap.size w).alloc (Nat.le_refl _) (.cells #[.string name, .slice A l.length cap] 25)).alloc (by simp) (.cells #[.slice (some ⟨b, 0, none⟩) (r.length + 1) cx] 137))
  have hp0 := blk_alloc (blk_new w (.cells #[.string name, .slice A l.length cap] 25)) (.cells #[.slice (some ⟨b, 0, none⟩) (r.length + 1) cx] 137)
  have hg0 := blk_new (w.alloc (.cells #[.string name, .slice A l.length cap] 25)) (.cells #[.slice (some ⟨b, 0, none⟩) (r.length + 1) cx] 137)
  simp only [World.size_alloc] at hg0
  have hcall := at_walk name l A cap ((w.alloc (.cells #[.string name, .slice A l.length cap] 25)).alloc (.cells #[.slice (some ⟨b, 0, none⟩) (r.length + 1) cx] 137)) F (hR.below hB0.out) b cx i0 r (by omega) (by omega) hcx (Nat.lt_of_lt_of_le hb hB0.out.size) (hn.below hb hB0.out) y hat
  have hways : ∀ W, Below w.heap.size w W → Ways W a 0 ((i0 :: r) :: ws) := fun W hW i hi => by
    obtain ⟨b3, c3, h1, h2, h3, h4, h5⟩ := hw i hi
    exact ⟨b3, c3, (hW.cell (p := ⟨a, 0 + i, none⟩) ha).trans h1, Nat.lt_of_lt_of_le h2 hW.size, h3, h4, h5.below h2 hW⟩
  replace hways := Aside0.mk hways
  replace hcall := Aside0.mk hcall
  replace hp0 := Aside0.mk hp0
  replace hg0 := Aside0.mk hg0
  replace hn := Aside0.mk hn
  have p1 := (blk_cell hp0.out 1).trans (show _ = some (Value.slice A l.length cap) from rfl)
  have p0 := (blk_cell hp0.out 0).trans (show _ = some (Value.string name) from rfl)
  clear hR hw hat hm
  go_enter Tryz.func52, Tryz.ntmps52
  go_upto_region 4 with fail
  generalize (w.alloc (.cells #[.string name, .slice A l.length cap] 25)).alloc (.cells #[.slice (some ⟨b, 0, none⟩) (r.length + 1) cx] 137) = V at hB0 hp0 hg0 hcall p1 p0 ⊢
  have q0 := (blk_cell hg0.out 0).trans (show _ = some (Value.slice (some ⟨b, 0, none⟩) (r.length + 1) cx) from rfl)
  clear hc hp0
  replace hb := Aside0.mk hb
  replace ha := Aside0.mk ha
  by_cases hk : y.kind = 1
  · have hsc : Aside0 (scopeOf y.kind (i0 :: r) = (i0 :: r).take r.length) := ⟨by
      rw [hk]
      unfold scopeOf
      rw [if_pos rfl, List.dropLast_eq_take]
      simp⟩
    rw [hk] at hcall
    replace hk := Aside0.mk hk
    have h1 : (0 : Int) ≤ (r.length : Int) + 1 - 1 := by omega
    have h2 : ((r.length : Int) + 1 - 1) = (r.length : Int) := by omega
    have hcl := Aside0.mk (fun w2 (hbb : Below V.heap.size V w2) => contains_walk (w.heap.size + 1) b cx a 0 c ((i0 :: r) :: ws) ((i0 :: r).take r.length) (w2.setCell ⟨w.heap.size + 1, 0, none⟩ (.slice (some ⟨b, 0, none⟩) r.length cx)) (by rw [show ((i0 :: r).take r.length).length = r.length by simp]; exact blk_put ((hbb.block _ (blk_lt hg0.out)).trans hg0.out) 0 _ rfl) (by have h := Nat.lt_of_lt_of_le ha.out (Nat.le_trans hB0.out.size hbb.size); simpa [World.setCell] using h) (by have h := Nat.lt_of_lt_of_le hb.out (Nat.le_trans hB0.out.size hbb.size); simpa [World.setCell] using h) (hways.out _ ((hB0.out.trans (hbb.mono hB0.out.size)).setCell (p := ⟨w.heap.size + 1, 0, none⟩) (Nat.le_succ _) _)) ((hn.out.take _).below hb.out ((hB0.out.trans (hbb.mono hB0.out.size)).setCell (p := ⟨w.heap.size + 1, 0, none⟩) (Nat.le_succ _) _)) (by simp; omega) (by simpa using hwl))
    go_wp2_with (first | (go_at_call 70; refine hcall.out.mono ?_; rintro e w2 ⟨⟨a1, a2, a3, S, rfl⟩, hbb⟩; have hg2 := (hbb.block _ (blk_lt hg0.out)).trans hg0.out; have q2 := (blk_cell hg2 0).trans (show _ = some (Value.slice (some ⟨b, 0, none⟩) (r.length + 1) cx) from rfl); have f2 := blk_frozen hg2 0; replace hg2 := Aside0.mk hg2; replace hbb := Aside0.mk hbb) | (go_at_call 71; refine (hcl.out _ hbb.out).mono ?_; rintro e w3 ⟨rfl, hb3⟩; replace hb3 := Aside0.mk hb3))
    go_ret
    refine ⟨congrArg (fun b => Ending.returned (.bool b)) (show ((List.take r.length (i0 :: r)).isPrefixOf (i0 :: r) && ws.all fun x => (List.take r.length (i0 :: r)).isPrefixOf x) = (((i0 :: r) :: ws).all fun x => (scopeOf y.kind (i0 :: r)).isPrefixOf x) by rw [hsc.out, List.all_cons]), ((hB0.out.trans (hbb.out.mono hB0.out.size)).setCell (p := ⟨w.heap.size + 1, 0, none⟩) (Nat.le_succ _) _).trans (hb3.out.mono ?_)⟩
    have h := Nat.le_trans hB0.out.size hbb.out.size
    simpa [World.setCell] using h
  · have hsc : Aside0 (scopeOf y.kind (i0 :: r) = i0 :: r) := ⟨by unfold scopeOf; rw [if_neg hk]⟩
    have hcl := Aside0.mk (fun w2 (hbb : Below V.heap.size V w2) => contains_walk (w.heap.size + 1) b cx a 0 c ((i0 :: r) :: ws) (i0 :: r) w2 ((hbb.block _ (blk_lt hg0.out)).trans hg0.out) (Nat.lt_of_lt_of_le ha.out (Nat.le_trans hB0.out.size hbb.size)) (Nat.lt_of_lt_of_le hb.out (Nat.le_trans hB0.out.size hbb.size)) (hways.out _ (hB0.out.trans (hbb.mono hB0.out.size))) (hn.out.below hb.out (hB0.out.trans (hbb.mono hB0.out.size))) hrl (by simpa using hwl))
    have hk1 : (y.kind == 1) = false := by simpa using hk
    go_wp2_with (first | (go_at_call 70; refine hcall.out.mono ?_; rintro e w2 ⟨⟨a1, a2, a3, S, rfl⟩, hbb⟩; have hg2 := (hbb.block _ (blk_lt hg0.out)).trans hg0.out; have q2 := (blk_cell hg2 0).trans (show _ = some (Value.slice (some ⟨b, 0, none⟩) (r.length + 1) cx) from rfl); have f2 := blk_frozen hg2 0; replace hg2 := Aside0.mk hg2; replace hbb := Aside0.mk hbb) | (go_at_call 71; refine (hcl.out _ hbb.out).mono ?_; rintro e w3 ⟨rfl, hb3⟩; replace hb3 := Aside0.mk hb3))
    go_ret
    refine ⟨congrArg (fun b => Ending.returned (.bool b)) (show (r.isPrefixOf r && ws.all fun x => (i0 :: r).isPrefixOf x) = (((i0 :: r) :: ws).all fun x => (scopeOf y.kind (i0 :: r)).isPrefixOf x) by rw [hsc.out, List.all_cons]; simp [List.isPrefixOf]), (hB0.out.trans (hbb.out.mono hB0.out.size)).trans (hb3.out.mono (Nat.le_trans hB0.out.size hbb.out.size))⟩
end Go.Proofs.YtkbkkceeolclmaaGreatDoor.X
