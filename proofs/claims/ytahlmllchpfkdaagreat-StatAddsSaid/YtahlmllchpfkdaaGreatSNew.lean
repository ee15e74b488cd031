/- What an engine is made of, without facts and rules. -/
import Derived.Test.YtahlmllchpfkdaaGreatLMap
import Derived.Test.YtahlmllchpfkdaaGreatYReg
import Derived.Test.YtahlmllchpfkdaaGreatWWords
namespace Go.Proofs.YtahlmllchpfkdaaGreat.S
open Go.RowKit Go.Proofs.YtahlmllchpfkdaaGreatW.PrintWords Go.Proofs.YtahlmllchpfkdaaGreatL

def intCode : KeyCode Tryz.prog 3 Int where
  enc := fun x => .int .i64 x
  good := fun x => (Lit.int .i64 x).wf = true
  lit := fun x => .int .i64 x
  keyed := Maps.int_keyed Tryz.underlying3
  of := fun _ h => Maps.keyOf_int_mk Tryz.underlying3 h
  inj := fun x y h => by cases h; rfl

def Ptr (w : World) (e : Ending) (W : World) : Prop := ∃ b, e = .returned (.pointer (some ⟨b, 0, none⟩)) ∧ Below w.heap.size w W

theorem feed_new (w : World) : Calls Tryz.prog 28 #[] w (Ptr w) := by
  have hmm := @run_makeMap Tryz.prog
  go_enter Tryz.func28, Tryz.ntmps28
  go_wp2
  go_ret
  exact ⟨_, rfl, ((Below.refl _ _).alloc (Nat.le_refl _) _).alloc (by simp) _⟩
theorem tally_new (w : World) : Calls Tryz.prog 32 #[] w (Ptr w) := by
  have hmm := @run_makeMap Tryz.prog
  go_enter Tryz.func32, Tryz.ntmps32
  go_wp2
  go_ret
  exact ⟨_, rfl, ((Below.refl _ _).alloc (Nat.le_refl _) _).alloc (by simp) _⟩
theorem alpha_new (w : World) : Calls Tryz.prog 19 #[] w (Ptr w) := by
  have hmm := @run_makeMap Tryz.prog
  go_enter Tryz.func19, Tryz.ntmps19
  go_wp2_with (go_at_call 32; refine (tally_new _).mono ?_; rintro e w1 ⟨b, rfl, hb⟩; replace hb := Aside0.mk hb)
  go_ret
  exact ⟨_, rfl, (hb.out.alloc hb.out.size _).alloc (by have := hb.out.size; simp; omega) _⟩
theorem wm_one (w : World) : Calls Tryz.prog 27 #[.int .i64 1] w fun e W => ∃ b, e = .returned (.tuple #[.pointer (some ⟨b, 0, none⟩), .int .i64 0]) ∧ Below w.heap.size w W := by
  have hmm := @run_makeMap Tryz.prog
  go_enter Tryz.func27, Tryz.ntmps27
  go_wp2
  go_ret2
  exact ⟨_, rfl, ((Below.refl _ _).alloc (Nat.le_refl _) _).alloc (by simp) _⟩
theorem wm_zero (w : World) : Calls Tryz.prog 27 #[.int .i64 0] w fun e W => e = .returned (.tuple #[.pointer none, .int .i64 13]) ∧ w = W := by
  go_enter Tryz.func27, Tryz.ntmps27
  go_wp2
  go_ret2
  exact ⟨rfl, rfl⟩

set_option maxRecDepth 100000 in
theorem trie_new (w : World) : Calls Tryz.prog 17 #[] w (Ptr w) := by
  have hmm := @run_makeMap Tryz.prog
  obtain ⟨W, hrun, _, hg, hz⟩ := ((MapIs.made intCode w).of_heap (Below.heap_alloc (w.alloc (.map #[] 0)) (.cells #[.int .i64 0, .int .i64 0, .int .i64 0, .int .i64 0, .slice none 0 0, .slice none 0 0, .int .i64 0, .slice none 0 0, .int .i64 0, .int .i64 0, .int .i64 0, .int .i64 0, .slice none 0 0] 112) w.heap.size (by simp))).store Tryz.underlying113 (x := 1) (show (Lit.int .i64 1).wf = true by decide) (.pointer (some ⟨w.heap.size + 1, 0, none⟩))
  simp only [intCode] at hrun
  have hz : W.heap.size = w.heap.size + 2 := by simpa using hz
  have hB := Aside0.mk ((((Below.refl _ w).alloc (Nat.le_refl _) _).alloc (by simp) _).grown hg (by simp; omega) (fun k e => by cases e; exact Nat.le_refl _))
  clear hg
  go_enter Tryz.func17, Tryz.ntmps17
  go_wp2
  go_ret
  exact ⟨_, rfl, hB.out.alloc (by omega) _⟩

theorem nil_map (w : World) : (binOp .eql 166 (.map none) (.map none)).run Tryz.prog w = .ok (.bool true) w := by kernel_rfl
attribute [local go_sem] nil_map

set_option maxRecDepth 100000 in
/-- 'm[k][id] = 1' of an empty map m. -/
theorem put_walk {w : World} {m : Nat} (h : MapIs intCode w m (fun _ => none) 0) : Calls Tryz.prog 57 #[.map (some m), .int .i64 1, .int .i64 1] w fun e W => (∃ v, e = .returned v) ∧ Ch w W (fun b => b = m) := by
  have hmm := @run_makeMap Tryz.prog
  have hz : (zeroValue 166).run Tryz.prog w = .ok (.map none) w := by kernel_rfl
  have hl := h.look Tryz.underlying117 hz (x := 1) (show (Lit.int .i64 1).wf = true by decide) false
  have h1 : MapIs intCode (w.alloc (.map #[] 0)) m (fun _ => none) 0 := h.of_heap (Below.heap_alloc _ _ _ h.lt)
  obtain ⟨W1, r1, m1, g1, z1⟩ := h1.store Tryz.underlying117 (x := 1) (show (Lit.int .i64 1).wf = true by decide) (.map (some w.heap.size))
  have hz1 : (zeroValue 166).run Tryz.prog W1 = .ok (.map none) W1 := by kernel_rfl
  have hl1 := m1.look Tryz.underlying117 hz1 (x := 1) (show (Lit.int .i64 1).wf = true by decide) false
  rw [mset_same] at hl1
  have hne : w.heap.size ≠ m := by have := h.lt; omega
  have h2 : MapIs intCode W1 w.heap.size (fun _ => none) 0 := (MapIs.made intCode w).of_heap (g1.block _ (by simp) (by simpa using hne))
  obtain ⟨W2, r2, m2, g2, z2⟩ := h2.store Tryz.underlying166 (x := 1) (show (Lit.int .i64 1).wf = true by decide) (.int .i64 1)
  simp only [intCode, Option.getD_none, Option.getD_some, Bool.false_eq_true, if_false] at hl hl1 r1 r2
  have hC := Aside0.mk (((((Ch.refl w (fun b => b = m)).alloc (.map #[] 0)).grown g1 (fun k e _ => by cases e; rfl)).grown g2 (fun k e hk => by cases e; omega)))
  clear h h1 m1 g1 z1 h2 m2 g2 z2 hz hz1
  go_enter Tryz.func57, Tryz.ntmps57
  go_wp2
  go_end0
  exact ⟨⟨_, rfl⟩, hC.out⟩

attribute [local go_sem] YReg.envOf

set_option maxHeartbeats 2000000 in
set_option maxRecDepth 100000 in
/-- The first token of a tree. -/
theorem tput_walk {w : World} {tb m1 m2 m3 : Nat} (ht : w.heap[tb]? = some (.cells #[.map (some m1), .map (some m2), .map (some m3), .int .i64 0] 119 (0, 0))) (h1 : MapIs intCode w m1 (fun _ => none) 0) (h2 : MapIs intCode w m2 (fun _ => none) 0) (hne : m1 ≠ m2) :
    Calls Tryz.prog 31 #[.pointer (some ⟨tb, 0, none⟩), .int .i64 0, .int .i64 1, .int .i64 0] w fun e W => (∃ v, e = .returned v) ∧ Ch w W (fun b => b = tb ∨ b = m1 ∨ b = m2) := by
  have n1 : tb ≠ m1 := fun e => by
    obtain ⟨es, clock, h, _⟩ := h1
    rw [← e, ht] at h; cases h
  have n2 : tb ≠ m2 := fun e => by
    obtain ⟨es, clock, h, _⟩ := h2
    rw [← e, ht] at h; cases h
  have hf := blk_frozen ht 3
  have c3 := (blk_cell ht 3).trans (show _ = some (Value.int .i64 0) from rfl)
  have hC := Aside0.mk ((Ch.refl w (fun b => b = tb ∨ b = m1 ∨ b = m2)).setCell ⟨tb, 3, none⟩ (fun _ => .inl rfl) (.int .i64 1))
  have ht1 := Aside0.mk (blk_put ht 3 (.int .i64 1) rfl)
  have h1' := Aside0.mk (h1.of_heap (Below.heap_setCell w ⟨tb, 3, none⟩ (.int .i64 1) m1 (fun e => n1 e.symm)))
  have h2' := Aside0.mk (h2.of_heap (Below.heap_setCell w ⟨tb, 3, none⟩ (.int .i64 1) m2 (fun e => n2 e.symm)))
  clear h1 h2
  go_enter Tryz.func31, Tryz.ntmps31
  go_upto_region 2 with fail
  generalize w.setCell ⟨tb, 3, none⟩ (.int .i64 1) = w1 at hC ht1 h1' h2' ⊢
  clear hf c3
  have d0 : ∀ W', YReg.Ext w1.drew W' → W'.cell? ⟨tb, 0, none⟩ = some (.map (some m1)) := fun W' h => (blk_cell ((h.block tb (blk_lt ht1.out)).trans ht1.out) 0).trans rfl
  have d3 : ∀ W', YReg.Ext w1.drew W' → W'.cell? ⟨tb, 3, none⟩ = some (.int .i64 1) := fun W' h => (blk_cell ((h.block tb (blk_lt ht1.out)).trans ht1.out) 3).trans rfl
  refine YReg.wp_region_tail 13 none YReg.Ext YReg.Ext YReg.Ext.refl YReg.Ext.trans YReg.Ext.trans (fun _ _ h => h) (by kernel_rfl) (by kernel_rfl) (by kernel_rfl) [(0, .det (.pointer (some ⟨tb, 0, none⟩))), (1, .det (.int .i64 0)), (2, .det (.int .i64 1)), (3, .det (.int .i64 0))] (YReg.base_cons rfl (YReg.base_cons rfl (YReg.base_cons rfl (YReg.base_cons rfl YReg.base_nil)))) ?_
  repeat (first
    | (refine YReg.walk_move (by decide) YReg.Ext.refl rfl rfl _ rfl (by kernel_rfl) (by kernel_rfl) ?_)
    | (refine YReg.run_3 (by decide) YReg.Ext.refl rfl rfl rfl rfl _ rfl (by kernel_rfl) (by kernel_rfl) ?_; apply Exists.intro; refine ⟨fun ρ W hE h1 h2 h3 => ?_, ?_⟩; (go_simp; try rfl))
    | (refine YReg.run_1 (by decide) YReg.Ext.refl rfl rfl _ rfl (by kernel_rfl) (by kernel_rfl) ?_; apply Exists.intro; refine ⟨fun ρ W hE h1 => ?_, ?_⟩; (first | (go_simp; done) | (go_simp; rfl))))
  refine YReg.nd_1 (by decide) (fun u _ => ∃ b, u = .pointer (some ⟨b, 0, none⟩)) (fun u W W' h _ => h) rfl rfl ?_ _ rfl (by kernel_rfl) (by kernel_rfl) ?_
  · intro ρ W hE h1
    exact ⟨.pointer (some ⟨W.heap.size, 0, none⟩), W.alloc (.cells #[.int .i64 1, .int .i64 0, .int .i64 0, .slice none 0 0] 154), by go_simp, (Below.refl _ W).alloc (Nat.le_refl _) _, _, rfl⟩
  rintro ρ W' hE ⟨_, nb, hv⟩
  have ht2 := Aside0.mk ((hE.block tb (blk_lt ht1.out)).trans ht1.out)
  obtain ⟨W3, hst, _, g3, z3⟩ := (h1'.out.of_heap (hE.block m1 h1'.out.lt)).store Tryz.underlying116 (x := 1) (show (Lit.int .i64 1).wf = true by decide) (.pointer (some ⟨nb, 0, none⟩))
  simp only [intCode] at hst
  have hm1 := h1'.out.lt
  have hsz : w1.heap.size ≤ W'.heap.size := hE.size
  have ht3 := Aside0.mk ((g3.block tb (blk_lt ht2.out) (by simpa using n1)).trans ht2.out)
  have h23 := Aside0.mk (h2'.out.of_heap ((g3.block m2 (by have := h2'.out.lt; omega) (by simpa using fun e => hne e.symm)).trans (hE.block m2 h2'.out.lt)))
  have hC3 := Aside0.mk ((hC.out.then (S2 := fun _ => False) ⟨hE.os, hE.tape, hE.output, hE.size, fun k hk _ => hE.block k hk⟩ (fun _ _ h => h.elim)).grown g3 (fun k e _ => by cases e; exact .inr (.inl rfl)))
  simp only [Act.put, List.setIfInBounds_toArray, List.set_cons_zero, List.set_cons_succ, hv]
  clear hv hE g3 z3 d0 d3 ht2 ht1 h1' h2' hC hsz hm1
  go_wp2_with fail
  have e1 : ∀ W', YReg.Ext W3.drew W' → W'.cell? ⟨tb, 1, none⟩ = some (.map (some m2)) := fun W' h => (blk_cell ((h.block tb (blk_lt ht3.out)).trans ht3.out) 1).trans rfl
  have e3 : ∀ W', YReg.Ext W3.drew W' → W'.cell? ⟨tb, 3, none⟩ = some (.int .i64 1) := fun W' h => (blk_cell ((h.block tb (blk_lt ht3.out)).trans ht3.out) 3).trans rfl
  refine YReg.wp_region_tail 9 none YReg.Ext YReg.Ext YReg.Ext.refl YReg.Ext.trans YReg.Ext.trans (fun _ _ h => h) (by kernel_rfl) (by kernel_rfl) (by kernel_rfl) [(0, .det (.pointer (some ⟨tb, 0, none⟩))), (2, .det (.int .i64 1))] (YReg.base_cons rfl (YReg.base_cons rfl YReg.base_nil)) ?_
  repeat (first
    | (refine YReg.walk_move (by decide) YReg.Ext.refl rfl rfl _ rfl (by kernel_rfl) (by kernel_rfl) ?_)
    | (refine YReg.run_1 (by decide) YReg.Ext.refl rfl rfl _ rfl (by kernel_rfl) (by kernel_rfl) ?_; apply Exists.intro; refine ⟨fun ρ W hE h1 => ?_, ?_⟩; (first | (go_simp; done) | (go_simp; rfl))))
  intro ρ W4 hE _
  have ht4 := Aside0.mk ((hE.block tb (blk_lt ht3.out)).trans ht3.out)
  have hp := Aside0.mk (put_walk (h23.out.of_heap (hE.block m2 h23.out.lt)))
  have hC4 := Aside0.mk (hC3.out.then (S2 := fun _ => False) ⟨hE.os, hE.tape, hE.output, hE.size, fun k hk _ => hE.block k hk⟩ (fun _ _ h => h.elim))
  simp only [Act.put, List.setIfInBounds_toArray, List.set_cons_zero, List.set_cons_succ]
  clear hE e1 e3 ht3 h23 hC3
  go_wp2_with (go_at_call 57; refine hp.out.mono ?_; rintro e W5 ⟨⟨v5, rfl⟩, hc5⟩; have ht5 := (hc5.block tb (blk_lt ht4.out) n2).trans ht4.out; have f3 := (blk_cell ht5 3).trans (show _ = some (Value.int .i64 1) from rfl); have hC5 := Aside0.mk (hC4.out.then (S2 := fun b => b = m2) hc5 (fun b _ e => .inr (.inr e))); clear hc5)
  go_ret
  exact ⟨⟨_, rfl⟩, hC5.out⟩
end Go.Proofs.YtahlmllchpfkdaaGreat.S
