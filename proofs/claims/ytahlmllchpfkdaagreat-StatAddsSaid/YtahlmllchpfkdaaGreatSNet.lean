/- A new tree, net, engine. -/
import Derived.Test.YtahlmllchpfkdaaGreatSNew
namespace Go.Proofs.YtahlmllchpfkdaaGreat.S
open Go.RowKit Go.Proofs.YtahlmllchpfkdaaGreatW.PrintWords Go.Proofs.YtahlmllchpfkdaaGreatL

theorem tree_new (w : World) : Calls Tryz.prog 18 #[.int .i64 1] w (Ptr w) := by
  have hmm := @run_makeMap Tryz.prog
  have a1 := Below.heap_alloc (w.alloc (.map #[] 0)) (.map #[] 0)
  have a2 := Below.heap_alloc ((w.alloc (.map #[] 0)).alloc (.map #[] 0)) (.map #[] 0)
  have a3 := Below.heap_alloc (((w.alloc (.map #[] 0)).alloc (.map #[] 0)).alloc (.map #[] 0)) (.cells #[.map (some w.heap.size), .map (some (w.heap.size + 1)), .map (some (w.heap.size + 2)), .int .i64 0] 119)
  have h1 := (((MapIs.made intCode w).of_heap (a1 _ (by simp))).of_heap (a2 _ (by simp; omega))).of_heap (a3 _ (by simp; omega))
  have h2 := ((MapIs.made intCode (w.alloc (.map #[] 0))).of_heap (a2 _ (by simp))).of_heap (a3 _ (by simp))
  have ht := blk_new (((w.alloc (.map #[] 0)).alloc (.map #[] 0)).alloc (.map #[] 0)) (.cells #[.map (some w.heap.size), .map (some (w.heap.size + 1)), .map (some (w.heap.size + 2)), .int .i64 0] 119)
  simp only [World.size_alloc] at h1 h2 ht
  have hp := Aside0.mk (tput_walk ht h1 h2 (by omega))
  have hB := Aside0.mk (((((Below.refl w.heap.size w).alloc (Nat.le_refl _) (.map #[] 0)).alloc (by simp) (.map #[] 0)).alloc (by simp; omega) (.map #[] 0)).alloc (by simp; omega) (.cells #[.map (some w.heap.size), .map (some (w.heap.size + 1)), .map (some (w.heap.size + 2)), .int .i64 0] 119))
  clear a1 a2 a3 h1 h2 ht
  go_enter Tryz.func18, Tryz.ntmps18
  go_wp2_with (go_at_call 31; refine hp.out.mono ?_; rintro e W5 ⟨⟨v5, rfl⟩, hc5⟩; replace hc5 := Aside0.mk hc5)
  go_ret
  exact ⟨_, rfl, hc5.out.below hB.out (by simp; omega) (fun b hb => by omega)⟩

/-- A net nobody has asked yet. -/
def NetPost (w : World) (e : Ending) (W : World) : Prop := ∃ b cs, e = .returned (.pointer (some ⟨b, 0, none⟩)) ∧ Below w.heap.size w W ∧ w.heap.size ≤ b ∧ W.heap[b]? = some (.cells cs 76 (0, 0)) ∧ cs[7]? = some (.int .i64 0) ∧ cs[8]? = some (.int .i64 0)

set_option maxRecDepth 100000 in
theorem net_new (u : Bool) (w : World) : Calls Tryz.prog 10 #[.bool u] w (NetPost w) := by
  have hmm := @run_makeMap Tryz.prog
  have hB0 := Aside0.mk (((Below.refl w.heap.size w).alloc (Nat.le_refl _) (.map #[] 0)).alloc (by simp) (.map #[] 0))
  go_enter Tryz.func10, Tryz.ntmps10
  go_wp2_with (first
    | (go_at_call 17; refine (trie_new _).mono ?_; rintro e w1 ⟨b1, rfl, hb1⟩; have hm0 := Aside0.mk (MapIs.made intCode w1); replace hb1 := Aside0.mk (hB0.out.trans (hb1.mono hB0.out.size)))
    | (go_at_call 18; refine (tree_new _).mono ?_; rintro e w2 ⟨b2, rfl, hb2⟩; have hm1 := Aside0.mk (hm0.out.of_heap (hb2.block _ hm0.out.lt)); replace hb2 := Aside0.mk ((hb1.out.alloc hb1.out.size _).trans (hb2.mono (by have := hb1.out.size; simp; omega))))
    | (go_at_call 19; refine (alpha_new _).mono ?_; rintro e w3 ⟨b3, rfl, hb3⟩; have hm2 := Aside0.mk (hm1.out.of_heap (hb3.block _ hm1.out.lt)); replace hb3 := Aside0.mk (hb2.out.trans (hb3.mono hb2.out.size))))
  generalize ho1 : Obj.cells #[.bool u, .map (some w.heap.size), .map (some (w.heap.size + 1)), .pointer (some ⟨b1, 0, none⟩), .map (some w1.heap.size), .pointer (some ⟨b2, 0, none⟩), .pointer (some ⟨b3, 0, none⟩), .int .i64 0, .int .i64 0] 76 = o1
  generalize Obj.cells #[.int .i64 1, .int .i64 0, .int .i64 0, .int .i64 0, .int .i64 0, .slice none 0 0, .slice none 0 0, .pointer none, .slice none 0 0, .pointer none, .slice none 0 0, .bool false, .bool false, .pointer none] 87 = o2
  have hl := hm2.out.lt
  have hm3 := (hm2.out.of_heap (Below.heap_alloc w3 o1 _ hl)).of_heap (Below.heap_alloc (w3.alloc o1) o2 _ (by simp; omega))
  obtain ⟨W4, hst, _, g4, z4⟩ := hm3.store Tryz.underlying70 (x := 1) (show (Lit.int .i64 1).wf = true by decide) (.pointer (some ⟨w3.heap.size + 1, 0, none⟩))
  simp only [intCode] at hst
  have hn := (blk_alloc (blk_new w3 o1) o2)
  have hn4 := Aside0.mk ((g4.block w3.heap.size (by simp; omega) (by simp; omega)).trans hn)
  have hB4 := Aside0.mk (((hb3.out.alloc hb3.out.size o1).alloc (by have := hb3.out.size; simp; omega) o2).grown g4 (by have := hb3.out.size; simp; omega) (fun k e => by cases e; have := hb1.out.size; omega))
  have hsz := hb3.out.size
  clear hm3 g4 z4 hn
  rw [hst]
  go_wp2
  go_ret
  subst ho1
  exact ⟨_, _, rfl, hB4.out, hsz, hn4.out, rfl, rfl⟩

theorem calls_walk {w : World} {b : Nat} {cs : Array Value} (h : w.heap[b]? = some (.cells cs 76 (0, 0))) (h7 : cs[7]? = some (.int .i64 0)) (h8 : cs[8]? = some (.int .i64 0)) :
    Calls Tryz.prog 13 #[.pointer (some ⟨b, 0, none⟩)] w fun e W => e = .returned (.tuple #[.int .i64 0, .int .i64 0]) ∧ Below w.heap.size w W := by
  have c7 := (blk_cell h 7).trans h7
  have c8 := (blk_cell h 8).trans h8
  have hB := Aside0.mk ((Below.refl w.heap.size w).drew)
  go_enter Tryz.func13, Tryz.ntmps13
  go_wp2_with fail
  go_region
  go_wp2_with fail
  go_ret2
  exact ⟨rfl, hB.out⟩

theorem engine_zero (w : World) : Calls Tryz.prog 15 #[.agg #[.int .i64 0, .int .i64 0], .bool true] w fun e W => e = .returned (.tuple #[.pointer none, .int .i64 13]) ∧ Below w.heap.size w W := by
  go_enter Tryz.func15, Tryz.ntmps15
  go_wp2_with (go_at_call 27; refine (wm_zero _).mono ?_; rintro e w1 ⟨rfl, rfl⟩)
  go_ret2
  exact ⟨rfl, (Below.refl _ _).alloc (Nat.le_refl _) _⟩

attribute [local go_sem] YReg.envOf
def IsPtr (v : Value) (_ : World) : Prop := ∃ b, v = .pointer (some ⟨b, 0, none⟩)
set_option maxHeartbeats 2000000 in
set_option maxRecDepth 100000 in
theorem engine_one (w : World) : Calls Tryz.prog 15 #[.agg #[.int .i64 1, .int .i64 1], .bool true] w fun e W => ∃ v, e = .returned (.tuple #[v, .int .i64 0]) ∧ Below w.heap.size w W := by
  have hmm := @run_makeMap Tryz.prog
  have hbx := Aside0.mk (blk_new w (.cells #[.int .i64 1, .int .i64 1] 33))
  have hB := Aside0.mk ((Below.refl w.heap.size w).alloc (Nat.le_refl _) (.cells #[.int .i64 1, .int .i64 1] 33))
  go_enter Tryz.func15, Tryz.ntmps15
  go_wp2_with (go_at_call 27; refine (wm_one _).mono ?_; rintro e w1 ⟨b1, rfl, hb1⟩; have hx := (hb1.block _ (blk_lt hbx.out)).trans hbx.out; have x0 := (blk_cell hx 0).trans (show _ = some (Value.int .i64 1) from rfl); have x1 := (blk_cell hx 1).trans (show _ = some (Value.int .i64 1) from rfl); replace hx := Aside0.mk hx; replace hb1 := Aside0.mk (hB.out.trans (hb1.mono hB.out.size)))
  clear x0 x1
  have x0 : ∀ W', YReg.Ext w1.drew W' → W'.cell? ⟨w.heap.size, 0, none⟩ = some (.int .i64 1) := fun W' h => (blk_cell ((h.block _ (blk_lt hx.out)).trans hx.out) 0).trans rfl
  have x1 : ∀ W', YReg.Ext w1.drew W' → W'.cell? ⟨w.heap.size, 1, none⟩ = some (.int .i64 1) := fun W' h => (blk_cell ((h.block _ (blk_lt hx.out)).trans hx.out) 1).trans rfl
  refine YReg.wp_region_tail 6 none YReg.Ext YReg.Ext YReg.Ext.refl YReg.Ext.trans YReg.Ext.trans (fun _ _ h => h) (by kernel_rfl) (by kernel_rfl) (by kernel_rfl) [(1, .det (.bool true)), (2, .det (.pointer (some ⟨w.heap.size, 0, none⟩))), (6, .det (.pointer (some ⟨b1, 0, none⟩)))] (YReg.base_cons rfl (YReg.base_cons rfl (YReg.base_cons rfl YReg.base_nil))) ?_
  repeat (first
    | (refine YReg.walk_move (by decide) YReg.Ext.refl rfl rfl _ rfl (by kernel_rfl) (by kernel_rfl) ?_)
    | (refine YReg.run_1 (by decide) YReg.Ext.refl rfl rfl _ rfl (by kernel_rfl) (by kernel_rfl) ?_; apply Exists.intro; refine ⟨fun ρ W hE h1 => ?_, ?_⟩; (first | (go_simp; done) | (go_simp; rfl))))
  refine YReg.walk_calln (by decide) (R := IsPtr) (fun u W W' h _ => h) (fun W _ => (net_new true W).mono (fun e W' ⟨b, _, he, hb, _⟩ => ⟨_, he, hb, b, rfl⟩)) rfl (by kernel_rfl) rfl _ rfl (by kernel_rfl) (by kernel_rfl) ?_
  refine YReg.walk_calln (by decide) (R := IsPtr) (fun u W W' h _ => h) (fun W _ => (feed_new W).mono (fun e W' ⟨b, he, hb⟩ => ⟨_, he, hb, b, rfl⟩)) rfl (by kernel_rfl) rfl _ rfl (by kernel_rfl) (by kernel_rfl) ?_
  refine YReg.nd_0 (by decide) (fun u _ => ∃ g, u = .map (some g)) (fun u W W' h _ => h) (fun ρ W _ => ⟨.map (some W.heap.size), W.alloc (.map #[] 0), by go_simp, (Below.refl _ W).alloc (Nat.le_refl _) _, _, rfl⟩) _ rfl (by kernel_rfl) (by kernel_rfl) ?_
  rintro ρ W' hE ⟨⟨⟨_, b29, h29⟩, b30, h30⟩, g31, h31⟩
  have hfin := Aside0.mk (hb1.out.trans (((Below.refl w1.heap.size w1).drew.trans hE).mono hb1.out.size))
  simp only [Act.put, List.setIfInBounds_toArray, List.set_cons_zero, List.set_cons_succ, h29, h30, h31]
  clear hE h29 h30 h31 x0 x1 hx
  go_wp2_with fail
  go_ret2
  exact ⟨_, rfl, hfin.out.alloc hfin.out.size _⟩
end Go.Proofs.YtahlmllchpfkdaaGreat.S
