/- The condition to which a way leads. -/
import Derived.Test.YtkbkkceeolclmaaGreatDoorQ13
set_option linter.unusedVariables false
set_option linter.unusedSimpArgs false
namespace Go.Proofs.YtkbkkceeolclmaaGreatDoor.X
open Go.RowKit Go.TX Go.Proofs.YtkbkkceeolclmaaGreatDoorW.PrintWords Go.Proofs.YtkbkkceeolclmaaGreatDoorL
/-- Numbers that can be read at the head of a block. -/
def Nums (w : World) (b : Nat) (l : List Nat) : Prop := ∀ j (h : j < l.length), w.cell? ⟨b, j, none⟩ = some (.int .i64 ((l[j] : Nat) : Int))
theorem Nums.below {w W : World} {b : Nat} {l : List Nat} (h : Nums w b l) (hb : b < w.heap.size) (hB : Below w.heap.size w W) : Nums W b l := fun j hj => (hB.cell (p := ⟨b, j, none⟩) hb).trans (h j hj)
/-- The numbers behind the first one. -/
theorem run_tail (b n c : Nat) (hn : n ≤ 1000000) (hc : n + 1 ≤ c) (hcm : c ≤ 9223372036854775807) (W : World) : ∃ A1 : Addr, (0 < n → A1 = ⟨b, 1, none⟩) ∧ (Instr.slice 137 (.slice (some ⟨b, 0, none⟩) (n + 1) c) (some (.int .i64 1)) none none).run Tryz.prog W = .ok (.slice (some A1) n (c - 1)) W := by
  have h1 : (1 : Int) ≤ n + 1 := by omega
  have h3 : (1 : Int) ≤ c := by omega
  have h4 : (n : Int) + 1 ≤ c := by omega
  by_cases h : c = 1
  · subst h
    obtain rfl : n = 0 := by omega
    exact ⟨⟨b, 0, none⟩, fun h => absurd h (by omega), by kernel_rfl⟩
  · have h2 : ¬ (1 : Int) = c := by omega
    exact ⟨⟨b, 1, none⟩, fun _ => rfl, by go_simp⟩
abbrev z72 : Obj := .cells #[.int .i64 0, .bool false, .int .i64 0, .bool false, .int .i64 0, .bool false, .int .i64 0, .slice none 0 0] 72
/-- A new box. -/
def NewA (n : Nat) (u : Value) (W : World) : Prop := ∃ g, u = .pointer (some ⟨g, 0, none⟩) ∧ W.heap[g]? = some z72 ∧ n ≤ g ∧ g < W.heap.size
theorem NewA.up {n : Nat} : ∀ u w w', NewA n u w → YReg.Ext w w' → NewA n u w' := fun _ _ _ ⟨g, e, h, hi, hl⟩ hb => ⟨g, e, (hb.block g hl).trans h, hi, Nat.lt_of_lt_of_le hl hb.size⟩
theorem box25 {w : World} {g : Nat} {s : ByteArray} {S : Value} (h : w.heap[g]? = some (.cells #[.string s, S] 25)) : w.cell? ⟨g, 0, none⟩ = some (.string s) ∧ w.cell? ⟨g, 1, none⟩ = some S := ⟨(blk_cell h 0).trans rfl, (blk_cell h 1).trans rfl⟩
attribute [local go_sem] YReg.envOf
set_option maxRecDepth 100000 in
set_option maxHeartbeats 4000000 in
theorem at_walk (name : ByteArray) (l : List Cd) (A : Option Addr) (cap : Nat) (w : World) (F : Nat → Prop) (hR : RepL evA w F l A 0)
    (b c i0 : Nat) (r : List Nat) (hr : r.length ≤ 1000000) (hc : r.length + 1 ≤ c) (hcm : c ≤ 9223372036854775807) (hb : b < w.heap.size) (hW : Nums w b (i0 :: r)) (y : Cd) (hat : atL l (i0 :: r) = some y) :
    Calls Tryz.prog 70 #[.agg #[.string name, .slice A l.length cap], .slice (some ⟨b, 0, none⟩) (r.length + 1) c] w fun e W => (∃ a1 a2 a3 S, e = .returned (aC evA y.kind a1 a2 a3 S)) ∧ Below w.heap.size w W := by
  have hi0 : i0 < l.length := by
    replace hat : (l[i0]?).bind (fun y => atC y r) = some y := hat
    cases h : l[i0]? with
    | none => rw [h] at hat; cases hat
    | some x => exact (List.getElem?_eq_some_iff.1 h).1
  have hat' : atC l[i0] r = some y := by
    replace hat : (l[i0]?).bind (fun y => atC y r) = some y := hat
    rw [List.getElem?_eq_getElem hi0] at hat
    exact hat
  obtain ⟨b', o, k, x1, x2, x3, subs, B, cap1, rfl, hbl, hx, _, hR', _, _, c0, c1, c2, c3, c4, c5, c6, c7⟩ := sub_at (RepL.bound _ _ _ hR) hi0
  rw [hx] at hat'
  replace hat' := Aside0.mk hat'
  replace hR' := Aside0.mk (RepL.mono (fun b h => h.2) _ _ _ hR')
  have n0 := (hW 0 (by simp))
  simp only [List.getElem_cons_zero] at n0
  have hW' : Aside0 (∀ j (h : j < r.length), w.cell? ⟨b, 1 + j, none⟩ = some (.int .i64 ((r[j] : Nat) : Int))) := ⟨fun j hj => by rw [Nat.add_comm]; exact hW (j + 1) (by simpa using hj)⟩
  have hB0 := Aside0.mk (((Below.refl w.heap.size w).alloc (Nat.le_refl _) (.cells #[.string name, .slice (some ⟨b', o, none⟩) l.length cap] 25)).alloc (by simp) z72)
  have hp0 := blk_alloc (blk_new w (.cells #[.string name, .slice (some ⟨b', o, none⟩) l.length cap] 25)) z72
  have ho0 := blk_new (w.alloc (.cells #[.string name, .slice (some ⟨b', o, none⟩) l.length cap] 25)) z72
  simp only [World.size_alloc] at ho0
  replace hp0 := Aside0.mk hp0
  replace ho0 := Aside0.mk ho0
  clear hat hW hR hx
  go_enter Tryz.func70, Tryz.ntmps70
  go_upto_region 1 with fail
  generalize (w.alloc (.cells #[.string name, .slice (some ⟨b', o, none⟩) l.length cap] 25)).alloc z72 = W at hB0 hp0 ho0 ⊢
  have ext : ∀ W', YReg.Ext W.drew W' → Below w.heap.size w W' := fun W' h => hB0.out.trans (h.of_drew.mono hB0.out.size)
  have s0 : ∀ W', YReg.Ext W.drew W' → W'.cell? ⟨w.heap.size, 1, none⟩ = some (.slice (some ⟨b', o, none⟩) l.length cap) := fun W' h => (box25 ((h.of_drew.block _ (blk_lt hp0.out)).trans hp0.out)).2
  have s1 : ∀ W', YReg.Ext W.drew W' → W'.cell? ⟨b, 0, none⟩ = some (.int .i64 (i0 : Int)) := fun W' h => ((ext W' h).cell (p := ⟨b, 0, none⟩) hb).trans n0
  have t0 : ∀ W', YReg.Ext W.drew W' → W'.cell? ⟨b', o + i0 * 8, none⟩ = some (.int .i64 k) := fun W' h => ((ext W' h).cell (p := ⟨b', o + i0 * 8, none⟩) hbl).trans c0
  have t1 : ∀ W', YReg.Ext W.drew W' → W'.cell? ⟨b', o + i0 * 8 + 1, none⟩ = some (.bool x1.1) := fun W' h => ((ext W' h).cell (p := ⟨b', o + i0 * 8 + 1, none⟩) hbl).trans c1
  have t2 : ∀ W', YReg.Ext W.drew W' → W'.cell? ⟨b', o + i0 * 8 + 2, none⟩ = some (.int .i64 x1.2) := fun W' h => ((ext W' h).cell (p := ⟨b', o + i0 * 8 + 2, none⟩) hbl).trans c2
  have t3 : ∀ W', YReg.Ext W.drew W' → W'.cell? ⟨b', o + i0 * 8 + 3, none⟩ = some (.bool x2.1) := fun W' h => ((ext W' h).cell (p := ⟨b', o + i0 * 8 + 3, none⟩) hbl).trans c3
  have t4 : ∀ W', YReg.Ext W.drew W' → W'.cell? ⟨b', o + i0 * 8 + 4, none⟩ = some (.int .i64 x2.2) := fun W' h => ((ext W' h).cell (p := ⟨b', o + i0 * 8 + 4, none⟩) hbl).trans c4
  have t5 : ∀ W', YReg.Ext W.drew W' → W'.cell? ⟨b', o + i0 * 8 + 5, none⟩ = some (.bool x3.1) := fun W' h => ((ext W' h).cell (p := ⟨b', o + i0 * 8 + 5, none⟩) hbl).trans c5
  have t6 : ∀ W', YReg.Ext W.drew W' → W'.cell? ⟨b', o + i0 * 8 + 6, none⟩ = some (.int .i64 x3.2) := fun W' h => ((ext W' h).cell (p := ⟨b', o + i0 * 8 + 6, none⟩) hbl).trans c6
  have t7 : ∀ W', YReg.Ext W.drew W' → W'.cell? ⟨b', o + i0 * 8 + 7, none⟩ = some (.slice B subs.length cap1) := fun W' h => ((ext W' h).cell (p := ⟨b', o + i0 * 8 + 7, none⟩) hbl).trans c7
  replace ext := Aside0.mk ext
  clear c0 c1 c2 c3 c4 c5 c6 c7 n0
  refine YReg.wp_region_tail 8 none YReg.Ext YReg.Ext YReg.Ext.refl YReg.Ext.trans YReg.Ext.trans (fun _ _ h => h) (by kernel_rfl) (by kernel_rfl) (by kernel_rfl) [(1, .det (.slice (some ⟨b, 0, none⟩) (r.length + 1) c)), (2, .det (.pointer (some ⟨w.heap.size, 0, none⟩)))] (YReg.base_cons rfl (YReg.base_cons rfl YReg.base_nil)) ?_
  simp only [List.take_succ_cons, List.take_zero, List.drop_succ_cons, List.drop_zero]
  repeat (first
    | (refine YReg.walk_move (by decide) YReg.Ext.refl rfl rfl _ rfl (by kernel_rfl) (by kernel_rfl) ?_)
    | (refine YReg.run_1 (by decide) YReg.Ext.refl rfl rfl _ rfl (by kernel_rfl) (by kernel_rfl) ?_; apply Exists.intro; refine ⟨fun ρ W hE h1 => ?_, ?_⟩; (go_simp; try rfl))
    | (refine YReg.run_2 (by decide) YReg.Ext.refl rfl rfl rfl _ rfl (by kernel_rfl) (by kernel_rfl) ?_; apply Exists.intro; refine ⟨fun ρ W hE h1 h2 => ?_, ?_⟩; (go_simp; try rfl))
    | (refine YReg.nd_0 (by decide) (NewA W.heap.size) NewA.up (fun ρ W' hE => ⟨_, _, by (go_simp; try rfl), (Below.refl _ W').alloc (Nat.le_refl _) _, W'.heap.size, rfl, blk_new _ _, hE.of_drew.size, by simp⟩) _ rfl (by kernel_rfl) (by kernel_rfl) ?_))
  intro ρ W1 hE hn
  obtain ⟨_, g, e5, hg, hng, hgl⟩ := hn
  simp only [Act.put, List.setIfInBounds_toArray, List.set_cons_zero, List.set_cons_succ, e5]
  have hE' := hE.of_drew
  have hB1 := Aside0.mk (hB0.out.trans (hE'.mono hB0.out.size))
  have ho1 := Aside0.mk ((hE'.block _ (blk_lt ho0.out)).trans ho0.out)
  have hwg := blk_lt ho0.out
  have hgw := Aside0.mk (show w.heap.size < g by omega)
  have hgo := Aside0.mk (show w.heap.size + 1 < g by omega)
  clear hE hE' s0 s1 t0 t1 t2 t3 t4 t5 t6 t7 ext hB0 hp0 ho0 e5 hng hwg
  clear W
  have f0 := blk_frozen hg 0
  have q0 := (blk_cell hg 0).trans (show _ = some (Value.int .i64 0) from rfl)
  have f1 := blk_frozen hg 1
  have q1 := (blk_cell hg 1).trans (show _ = some (Value.bool false) from rfl)
  have f2 := blk_frozen hg 2
  have q2 := (blk_cell hg 2).trans (show _ = some (Value.int .i64 0) from rfl)
  have f3 := blk_frozen hg 3
  have q3 := (blk_cell hg 3).trans (show _ = some (Value.bool false) from rfl)
  have f4 := blk_frozen hg 4
  have q4 := (blk_cell hg 4).trans (show _ = some (Value.int .i64 0) from rfl)
  have f5 := blk_frozen hg 5
  have q5 := (blk_cell hg 5).trans (show _ = some (Value.bool false) from rfl)
  have f6 := blk_frozen hg 6
  have q6 := (blk_cell hg 6).trans (show _ = some (Value.int .i64 0) from rfl)
  have f7 := blk_frozen hg 7
  have q7 := (blk_cell hg 7).trans (show _ = some (Value.slice none 0 0) from rfl)
  replace hg := Aside0.mk hg
  obtain ⟨A1, hA1, hsl⟩ := run_tail b r.length c hr hc hcm ((((((((W1.setCell ⟨g, 0, none⟩ (.int .i64 k)).setCell ⟨g, 1, none⟩ (.bool x1.1)).setCell ⟨g, 2, none⟩ (.int .i64 x1.2)).setCell ⟨g, 3, none⟩ (.bool x2.1)).setCell ⟨g, 4, none⟩ (.int .i64 x2.2)).setCell ⟨g, 5, none⟩ (.bool x3.1)).setCell ⟨g, 6, none⟩ (.int .i64 x3.2)).setCell ⟨g, 7, none⟩ (.slice B subs.length cap1))
  replace hA1 := Aside0.mk hA1
  go_upto_region 3 with fail
  clear hsl
  have hg8 := (blk_put (blk_put (blk_put (blk_put (blk_put (blk_put (blk_put (blk_put hg.out 0 (.int .i64 k) rfl) 1 (.bool x1.1) rfl) 2 (.int .i64 x1.2) rfl) 3 (.bool x2.1) rfl) 4 (.int .i64 x2.2) rfl) 5 (.bool x3.1) rfl) 6 (.int .i64 x3.2) rfl) 7 (.slice B subs.length cap1) rfl)
  have ho8 := (blk_far (blk_far (blk_far (blk_far (blk_far (blk_far (blk_far (blk_far ho1.out (p := ⟨g, 0, none⟩) (Nat.ne_of_lt hgo.out) (.int .i64 k)) (p := ⟨g, 1, none⟩) (Nat.ne_of_lt hgo.out) (.bool x1.1)) (p := ⟨g, 2, none⟩) (Nat.ne_of_lt hgo.out) (.int .i64 x1.2)) (p := ⟨g, 3, none⟩) (Nat.ne_of_lt hgo.out) (.bool x2.1)) (p := ⟨g, 4, none⟩) (Nat.ne_of_lt hgo.out) (.int .i64 x2.2)) (p := ⟨g, 5, none⟩) (Nat.ne_of_lt hgo.out) (.bool x3.1)) (p := ⟨g, 6, none⟩) (Nat.ne_of_lt hgo.out) (.int .i64 x3.2)) (p := ⟨g, 7, none⟩) (Nat.ne_of_lt hgo.out) (.slice B subs.length cap1))
  have hB8 := ((((((((hB1.out.setCell (p := ⟨g, 0, none⟩) (Nat.le_of_lt hgw.out) (.int .i64 k)).setCell (p := ⟨g, 1, none⟩) (Nat.le_of_lt hgw.out) (.bool x1.1)).setCell (p := ⟨g, 2, none⟩) (Nat.le_of_lt hgw.out) (.int .i64 x1.2)).setCell (p := ⟨g, 3, none⟩) (Nat.le_of_lt hgw.out) (.bool x2.1)).setCell (p := ⟨g, 4, none⟩) (Nat.le_of_lt hgw.out) (.int .i64 x2.2)).setCell (p := ⟨g, 5, none⟩) (Nat.le_of_lt hgw.out) (.bool x3.1)).setCell (p := ⟨g, 6, none⟩) (Nat.le_of_lt hgw.out) (.int .i64 x3.2)).setCell (p := ⟨g, 7, none⟩) (Nat.le_of_lt hgw.out) (.slice B subs.length cap1))
  replace hg8 := Aside0.mk (show _ = some (oC evA 72 k x1 x2 x3 (.slice B subs.length cap1)) from hg8)
  replace ho8 := Aside0.mk ho8
  replace hB8 := Aside0.mk hB8
  clear f0 f1 f2 f3 f4 f5 f6 f7 q0 q1 q2 q3 q4 q5 q6 q7 hB1 ho1 hg hgl
  generalize ((((((((W1.setCell ⟨g, 0, none⟩ (.int .i64 k)).setCell ⟨g, 1, none⟩ (.bool x1.1)).setCell ⟨g, 2, none⟩ (.int .i64 x1.2)).setCell ⟨g, 3, none⟩ (.bool x2.1)).setCell ⟨g, 4, none⟩ (.int .i64 x2.2)).setCell ⟨g, 5, none⟩ (.bool x3.1)).setCell ⟨g, 6, none⟩ (.int .i64 x3.2)).setCell ⟨g, 7, none⟩ (.slice B subs.length cap1)) = V at hg8 ho8 hB8 ⊢
  clear W1
  have hRl := Aside0.mk (RepL.mono (G := fun b => b < w.heap.size) (fun b h => h) _ _ _ hR'.out)
  clear hR'
  go_loopw [18] (fun i wr => ∃ (q : Nat) (k : Int) (x1 x2 x3 : Tm) (subs : List Cd) (B : Option Addr) (cap1 : Nat), i = .int .i64 q ∧ q ≤ r.length ∧ wr.heap[g]? = some (oC evA 72 k x1 x2 x3 (.slice B subs.length cap1)) ∧ RepL evA w (fun b => b < w.heap.size) subs B 0 ∧ atC (.mk k x1 x2 x3 subs) (r.drop q) = some y ∧ Below w.heap.size w wr ∧ wr.heap[w.heap.size + 1]? = some z72) (fun i _ => r.length - (intOf i).toNat)
  case atStart => exact ⟨0, k, x1, x2, x3, subs, B, cap1, rfl, Nat.zero_le _, hg8.out, hRl.out, hat'.out, hB8.out, ho8.out⟩
  case round =>
    clear hB8 hg8 ho8 hRl hat'
    clear V
    clear hbl hi0
    obtain ⟨q, k, x1, x2, x3, subs, B, cap1, rfl, hq, hgr, hRq, hatq, hBw, hor⟩ := hrel
    by_cases hlt : q < r.length
    · obtain rfl := hA1.out (by omega)
      have hd : r.drop q = r[q] :: r.drop (q + 1) := List.drop_eq_getElem_cons hlt
      rw [hd] at hatq
      replace hatq : (subs[r[q]]?).bind (fun y => atC y (r.drop (q + 1))) = some y := hatq
      have hin : r[q] < subs.length := by
        cases h : subs[r[q]]? with
        | none => rw [h] at hatq; cases hatq
        | some x => exact (List.getElem?_eq_some_iff.1 h).1
      rw [List.getElem?_eq_getElem hin] at hatq
      replace hatq : atC subs[r[q]] (r.drop (q + 1)) = some y := hatq
      obtain ⟨b2, o2, k', z1, z2, z3, subs', B', cap', rfl, hbl2, hx2, hls, hR2, _, _, c0, c1, c2, c3, c4, c5, c6, c7⟩ := sub_at hRq hin
      rw [hx2] at hatq
      replace c0 := (hBw.cell (p := ⟨b2, o2 + r[q] * 8, none⟩) hbl2).trans c0
      replace c1 := (hBw.cell (p := ⟨b2, o2 + r[q] * 8 + 1, none⟩) hbl2).trans c1
      replace c2 := (hBw.cell (p := ⟨b2, o2 + r[q] * 8 + 2, none⟩) hbl2).trans c2
      replace c3 := (hBw.cell (p := ⟨b2, o2 + r[q] * 8 + 3, none⟩) hbl2).trans c3
      replace c4 := (hBw.cell (p := ⟨b2, o2 + r[q] * 8 + 4, none⟩) hbl2).trans c4
      replace c5 := (hBw.cell (p := ⟨b2, o2 + r[q] * 8 + 5, none⟩) hbl2).trans c5
      replace c6 := (hBw.cell (p := ⟨b2, o2 + r[q] * 8 + 6, none⟩) hbl2).trans c6
      replace c7 := (hBw.cell (p := ⟨b2, o2 + r[q] * 8 + 7, none⟩) hbl2).trans c7
      have n0 := (hBw.cell (p := ⟨b, 1 + q, none⟩) hb).trans (hW'.out q hlt)
      have f0 := blk_frozen hgr 0
      have q0 := (blk_cell hgr 0).trans (show _ = some (Value.int .i64 k) from rfl)
      have f1 := blk_frozen hgr 1
      have q1 := (blk_cell hgr 1).trans (show _ = some (Value.bool x1.1) from rfl)
      have f2 := blk_frozen hgr 2
      have q2 := (blk_cell hgr 2).trans (show _ = some (Value.int .i64 x1.2) from rfl)
      have f3 := blk_frozen hgr 3
      have q3 := (blk_cell hgr 3).trans (show _ = some (Value.bool x2.1) from rfl)
      have f4 := blk_frozen hgr 4
      have q4 := (blk_cell hgr 4).trans (show _ = some (Value.int .i64 x2.2) from rfl)
      have f5 := blk_frozen hgr 5
      have q5 := (blk_cell hgr 5).trans (show _ = some (Value.bool x3.1) from rfl)
      have f6 := blk_frozen hgr 6
      have q6 := (blk_cell hgr 6).trans (show _ = some (Value.int .i64 x3.2) from rfl)
      have f7 := blk_frozen hgr 7
      have q7 := (blk_cell hgr 7).trans (show _ = some (Value.slice (some ⟨b2, o2, none⟩) subs.length cap1) from rfl)
      replace hatq := Aside0.mk hatq
      replace hRq := Aside0.mk hRq
      replace hR2 := Aside0.mk hR2
      replace hBw := Aside0.mk hBw
      replace hor := Aside0.mk hor
      replace hgr := Aside0.mk hgr
      clear hx2 hd hls
      generalize hrq : r[q] = m at c0 c1 c2 c3 c4 c5 c6 c7 n0 hin
      clear hrq
      go_wp2
      have hg9 := (blk_put (blk_put (blk_put (blk_put (blk_put (blk_put (blk_put (blk_put hgr.out 0 (.int .i64 k') rfl) 1 (.bool z1.1) rfl) 2 (.int .i64 z1.2) rfl) 3 (.bool z2.1) rfl) 4 (.int .i64 z2.2) rfl) 5 (.bool z3.1) rfl) 6 (.int .i64 z3.2) rfl) 7 (.slice B' subs'.length cap') rfl)
      replace hg9 := Aside0.mk (show _ = some (oC evA 72 k' z1 z2 z3 (.slice B' subs'.length cap')) from hg9)
      go_roundw
      case rel => exact ⟨q + 1, k', z1, z2, z3, subs', B', cap', by go_num, by omega, hg9.out, hR2.out, hatq.out, ((((((((hBw.out.setCell (p := ⟨g, 0, none⟩) (Nat.le_of_lt hgw.out) (.int .i64 k')).setCell (p := ⟨g, 1, none⟩) (Nat.le_of_lt hgw.out) (.bool z1.1)).setCell (p := ⟨g, 2, none⟩) (Nat.le_of_lt hgw.out) (.int .i64 z1.2)).setCell (p := ⟨g, 3, none⟩) (Nat.le_of_lt hgw.out) (.bool z2.1)).setCell (p := ⟨g, 4, none⟩) (Nat.le_of_lt hgw.out) (.int .i64 z2.2)).setCell (p := ⟨g, 5, none⟩) (Nat.le_of_lt hgw.out) (.bool z3.1)).setCell (p := ⟨g, 6, none⟩) (Nat.le_of_lt hgw.out) (.int .i64 z3.2)).setCell (p := ⟨g, 7, none⟩) (Nat.le_of_lt hgw.out) (.slice B' subs'.length cap')), (blk_far (blk_far (blk_far (blk_far (blk_far (blk_far (blk_far (blk_far hor.out (p := ⟨g, 0, none⟩) (Nat.ne_of_lt hgo.out) (.int .i64 k')) (p := ⟨g, 1, none⟩) (Nat.ne_of_lt hgo.out) (.bool z1.1)) (p := ⟨g, 2, none⟩) (Nat.ne_of_lt hgo.out) (.int .i64 z1.2)) (p := ⟨g, 3, none⟩) (Nat.ne_of_lt hgo.out) (.bool z2.1)) (p := ⟨g, 4, none⟩) (Nat.ne_of_lt hgo.out) (.int .i64 z2.2)) (p := ⟨g, 5, none⟩) (Nat.ne_of_lt hgo.out) (.bool z3.1)) (p := ⟨g, 6, none⟩) (Nat.ne_of_lt hgo.out) (.int .i64 z3.2)) (p := ⟨g, 7, none⟩) (Nat.ne_of_lt hgo.out) (.slice B' subs'.length cap'))⟩
      case measure => simp [intOf]; omega
    · obtain rfl : q = r.length := by omega
      rw [List.drop_length] at hatq
      have hy : y = .mk k x1 x2 x3 subs := (Option.some.inj hatq).symm
      replace hy := Aside0.mk hy
      have q0 := (blk_cell hgr 0).trans (show _ = some (Value.int .i64 k) from rfl)
      have q1 := (blk_cell hgr 1).trans (show _ = some (Value.bool x1.1) from rfl)
      have q2 := (blk_cell hgr 2).trans (show _ = some (Value.int .i64 x1.2) from rfl)
      have q3 := (blk_cell hgr 3).trans (show _ = some (Value.bool x2.1) from rfl)
      have q4 := (blk_cell hgr 4).trans (show _ = some (Value.int .i64 x2.2) from rfl)
      have q5 := (blk_cell hgr 5).trans (show _ = some (Value.bool x3.1) from rfl)
      have q6 := (blk_cell hgr 6).trans (show _ = some (Value.int .i64 x3.2) from rfl)
      have q7 := (blk_cell hgr 7).trans (show _ = some (Value.slice B subs.length cap1) from rfl)
      have f0 := blk_frozen hor 0
      have r0 := (blk_cell hor 0).trans (show _ = some (Value.int .i64 0) from rfl)
      have f1 := blk_frozen hor 1
      have r1 := (blk_cell hor 1).trans (show _ = some (Value.bool false) from rfl)
      have f2 := blk_frozen hor 2
      have r2 := (blk_cell hor 2).trans (show _ = some (Value.int .i64 0) from rfl)
      have f3 := blk_frozen hor 3
      have r3 := (blk_cell hor 3).trans (show _ = some (Value.bool false) from rfl)
      have f4 := blk_frozen hor 4
      have r4 := (blk_cell hor 4).trans (show _ = some (Value.int .i64 0) from rfl)
      have f5 := blk_frozen hor 5
      have r5 := (blk_cell hor 5).trans (show _ = some (Value.bool false) from rfl)
      have f6 := blk_frozen hor 6
      have r6 := (blk_cell hor 6).trans (show _ = some (Value.int .i64 0) from rfl)
      have f7 := blk_frozen hor 7
      have r7 := (blk_cell hor 7).trans (show _ = some (Value.slice none 0 0) from rfl)
      replace hRq := Aside0.mk hRq
      replace hBw := Aside0.mk hBw
      replace hor := Aside0.mk hor
      replace hgr := Aside0.mk hgr
      clear hatq
      go_wp2
      have hr9 := (blk_put (blk_put (blk_put (blk_put (blk_put (blk_put (blk_put (blk_put hor.out 0 (.int .i64 k) rfl) 1 (.bool x1.1) rfl) 2 (.int .i64 x1.2) rfl) 3 (.bool x2.1) rfl) 4 (.int .i64 x2.2) rfl) 5 (.bool x3.1) rfl) 6 (.int .i64 x3.2) rfl) 7 (.slice B subs.length cap1) rfl)
      replace hr9 := (show _ = some (oC evA 72 k x1 x2 x3 (.slice B subs.length cap1)) from hr9)
      have hB9 := ((((((((hBw.out.setCell (p := ⟨w.heap.size + 1, 0, none⟩) (Nat.le_succ _) (.int .i64 k)).setCell (p := ⟨w.heap.size + 1, 1, none⟩) (Nat.le_succ _) (.bool x1.1)).setCell (p := ⟨w.heap.size + 1, 2, none⟩) (Nat.le_succ _) (.int .i64 x1.2)).setCell (p := ⟨w.heap.size + 1, 3, none⟩) (Nat.le_succ _) (.bool x2.1)).setCell (p := ⟨w.heap.size + 1, 4, none⟩) (Nat.le_succ _) (.int .i64 x2.2)).setCell (p := ⟨w.heap.size + 1, 5, none⟩) (Nat.le_succ _) (.bool x3.1)).setCell (p := ⟨w.heap.size + 1, 6, none⟩) (Nat.le_succ _) (.int .i64 x3.2)).setCell (p := ⟨w.heap.size + 1, 7, none⟩) (Nat.le_succ _) (.slice B subs.length cap1))
      have z0 := (blk_cell hr9 0).trans (show _ = some (Value.int .i64 k) from rfl)
      have z1 := (blk_cell hr9 1).trans (show _ = some (Value.bool x1.1) from rfl)
      have z2 := (blk_cell hr9 2).trans (show _ = some (Value.int .i64 x1.2) from rfl)
      have z3 := (blk_cell hr9 3).trans (show _ = some (Value.bool x2.1) from rfl)
      have z4 := (blk_cell hr9 4).trans (show _ = some (Value.int .i64 x2.2) from rfl)
      have z5 := (blk_cell hr9 5).trans (show _ = some (Value.bool x3.1) from rfl)
      have z6 := (blk_cell hr9 6).trans (show _ = some (Value.int .i64 x3.2) from rfl)
      have z7 := (blk_cell hr9 7).trans (show _ = some (Value.slice B subs.length cap1) from rfl)
      refine bodyPost_ret (v := aC evA k x1 x2 x3 (.slice B subs.length cap1)) (by simp [results, Tryz.results70, go_sem, z0, z1, z2, z3, z4, z5, z6, z7]) rfl ⟨⟨x1, x2, x3, _, by rw [hy.out]; rfl⟩, hB9⟩
end Go.Proofs.YtkbkkceeolclmaaGreatDoor.X
