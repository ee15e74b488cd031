/- The document's conditions. -/
import Derived.Test.YtkbkkceeolclmaaGreatDoorQ12
set_option linter.unusedVariables false
set_option linter.unusedSimpArgs false
namespace Go.Proofs.YtkbkkceeolclmaaGreatDoor.X
open Go.RowKit Go.TX Go.Proofs.YtkbkkceeolclmaaGreatDoorW.PrintWords Go.Proofs.YtkbkkceeolclmaaGreatDoorL
theorem info81 : (Tryz.prog.info? 81).map (fun i => (i.zero, i.size, i.bytes)) = some (some (aC evR 0 (false, 0) (false, 0) (false, 0) (.slice none 0 0)), 8, 80) := by kernel_rfl
abbrev z81 : Obj := .cells #[.int .i64 0, .int .i64 0, .int .i64 0, .int .i64 0, .int .i64 0, .int .i64 0, .int .i64 0, .slice none 0 0] 81
/-- A condition that a call gives. -/
def IsC (n : Nat) (k : Int) (a b c : Tm) (subs : List Cd) (u : Value) (W : World) : Prop := ∃ S, u = aC evR k a b c S ∧ BR n W S subs
theorem IsC.up {n : Nat} {k : Int} {a b c : Tm} {subs : List Cd} : ∀ u w w', IsC n k a b c subs u w → YReg.Ext w w' → IsC n k a b c subs u w' := fun _ _ _ ⟨S, e, h⟩ hb => ⟨S, e, h.below hb⟩
/-- It lies alone in a row. -/
def InC (t : TypeId) (n : Nat) (k : Int) (a b c : Tm) (subs : List Cd) (u : Value) (W : World) : Prop := ∃ g S, u = .slice (some ⟨g, 0, none⟩) 1 1 ∧ W.heap[g]? = some (oC evR t k a b c S) ∧ BR n W S subs ∧ g < W.heap.size
theorem InC.up {t : TypeId} {n : Nat} {k : Int} {a b c : Tm} {subs : List Cd} : ∀ u w w', InC t n k a b c subs u w → YReg.Ext w w' → InC t n k a b c subs u w' := fun _ _ _ ⟨g, S, e, h, hi, hl⟩ hb => ⟨g, S, e, (hb.block g hl).trans h, hi.below hb, Nat.lt_of_lt_of_le hl hb.size⟩
/-- A new box. -/
def NewC (n : Nat) (u : Value) (W : World) : Prop := ∃ g, u = .pointer (some ⟨g, 0, none⟩) ∧ W.heap[g]? = some z81 ∧ n ≤ g ∧ g < W.heap.size
theorem NewC.up {n : Nat} : ∀ u w w', NewC n u w → YReg.Ext w w' → NewC n u w' := fun _ _ _ ⟨g, e, h, hi, hl⟩ hb => ⟨g, e, (hb.block g hl).trans h, hi, Nat.lt_of_lt_of_le hl hb.size⟩
theorem cells_at {w : World} {b : Nat} {cs : List Value} {t : TypeId} (h : w.heap[b]? = some (.cells cs.toArray t (0, 0))) : ∀ j u, cs[j]? = some u → w.cell? ((⟨b, 0, none⟩ : Addr).add j) = some u := by
  intro j u hj
  have e : (⟨b, 0, none⟩ : Addr).add j = ⟨b, j, none⟩ := by
    unfold Addr.add
    split
    · rename_i e; subst e; rfl
    · simp
  rw [e, blk_cell h j]
  simpa using hj
theorem BR.far {n : Nat} {W W' : World} {v : Value} {l : List Cd} (h : BR n W v l) (hb : ∀ b, n ≤ b → b < W.heap.size → W'.heap[b]? = W.heap[b]?) : BR n W' v l := by
  obtain ⟨css, hl, ho, hr⟩ := h
  refine ⟨css, hl, owns_move ho (fun b h1 h2 _ => hb b h1 h2), fun i hi => ?_⟩
  obtain ⟨cs, h1, h2, h3⟩ := hr i hi
  exact ⟨cs, h1, h2, Rep.move _ cs h3 fun b hf hl => hb b hf.1 hl⟩
theorem BR.set {n : Nat} {W : World} {v : Value} {l : List Cd} (h : BR n W v l) {p : Addr} (hp : p.block < n) (u : Value) : BR n (W.setCell p u) v l := h.far fun b hb _ => Below.heap_setCell _ _ _ _ (by omega)
theorem BR.form {n : Nat} {W : World} {v : Value} {l : List Cd} (h : BR n W v l) : ∃ A cap, v = .slice A l.length cap := by
  obtain ⟨css, hl, ho, hr⟩ := h
  exact owns_form ho
theorem IsC.base {n m : Nat} {k : Int} {a b c : Tm} {subs : List Cd} {u : Value} {W : World} (h : IsC n k a b c subs u W) (hm : m ≤ n) : IsC m k a b c subs u W := by
  obtain ⟨S, e, h⟩ := h
  exact ⟨S, e, h.base hm⟩
theorem BR.rep {n : Nat} {W : World} {S : Value} {k : Int} {a b c : Tm} {subs : List Cd} (h : BR n W S subs) (hl : subs.length ≤ 9223372036854775807) : Rep evR W (fun b => n ≤ b) (.mk k a b c subs) [.int .i64 k, evR a.1, .int .i64 a.2, evR b.1, .int .i64 b.2, evR c.1, .int .i64 c.2, S] := by
  obtain ⟨A, cap, rfl, hr⟩ := h.reads
  unfold Rep
  exact ⟨A, cap, hl, rfl, hr⟩
theorem owner_lt {W : World} {n e size k : Nat} {v : Value} {xs : List Value} (h : W.ownsRow n e size v k xs) {b : Nat} (hb : v.ownBlock = some b) : n ≤ b ∧ b < W.heap.size := by
  rcases h.2 with ⟨rfl, rfl⟩ | ⟨g, cap, cur, rfl, h1, hh, _⟩
  · simp [Value.ownBlock] at hb
  · simp [Value.ownBlock] at hb
    subst hb
    exact ⟨h1, (Array.getElem?_eq_some_iff.1 hh).1⟩
attribute [local go_sem] YReg.envOf
set_option maxRecDepth 100000 in
set_option maxHeartbeats 4000000 in
theorem ref32 (n : Nat) : ∀ (k : Int) (a b c : Tm) (subs : List Cd) (A : Option Addr) (cap : Nat) (w : World) (F : Nat → Prop), csizeL subs < n → n ≤ 1000000 → RepL evA w F subs A 0 →
    Calls Tryz.prog 32 #[aC evA k a b c (.slice A subs.length cap)] w fun e W => ∃ u, e = .returned u ∧ YReg.Ext w W ∧ IsC w.heap.size k a b c subs u W := by
  induction n with
  | zero => intro k a b c subs A cap w F h; omega
  | succ n ih =>
    intro k a b c subs A cap w F hn hn1 hR
    obtain ⟨i0, hi, hz0, hz1, hz2⟩ := info_parts info81
    replace hi := Aside0.mk hi
    replace hz0 := Aside0.mk hz0
    replace hz1 := Aside0.mk hz1
    replace hz2 := Aside0.mk hz2
    have hlen := csizeL_len subs
    have hmax : 1000000 ≤ maxLen := by decide
    have hB0 := Aside0.mk (((Below.refl w.heap.size w).alloc (Nat.le_refl _) (oC evA 72 k a b c (.slice A subs.length cap))).alloc (by simp) z81)
    have hp0 := blk_alloc (blk_new w (oC evA 72 k a b c (.slice A subs.length cap))) z81
    have ho0 := blk_new (w.alloc (oC evA 72 k a b c (.slice A subs.length cap))) z81
    simp only [World.size_alloc] at ho0
    replace hp0 := Aside0.mk hp0
    replace ho0 := Aside0.mk ho0
    replace hR := Aside0.mk hR
    go_enter Tryz.func32, Tryz.ntmps32
    go_upto_region 1 with fail
    generalize hW0 : (w.alloc (oC evA 72 k a b c (.slice A subs.length cap))).alloc z81 = W at hB0 hp0 ho0 ⊢
    have hwW : w.heap.size + 1 + 1 = W.heap.size := by rw [← hW0]; simp
    clear hW0
    replace hwW := Aside0.mk hwW
    have bx := fun W' (h : YReg.Ext W.drew W') => box8 ((h.of_drew.block _ (blk_lt hp0.out)).trans hp0.out)
    have s0 : ∀ W', YReg.Ext W.drew W' → W'.cell? ⟨w.heap.size, 0, none⟩ = some (.int .i64 k) := fun W' h => (bx W' h).1
    have s1 : ∀ W', YReg.Ext W.drew W' → W'.cell? ⟨w.heap.size, 1, none⟩ = some (.bool a.1) := fun W' h => (bx W' h).2.1
    have s2 : ∀ W', YReg.Ext W.drew W' → W'.cell? ⟨w.heap.size, 2, none⟩ = some (.int .i64 a.2) := fun W' h => (bx W' h).2.2.1
    have s3 : ∀ W', YReg.Ext W.drew W' → W'.cell? ⟨w.heap.size, 3, none⟩ = some (.bool b.1) := fun W' h => (bx W' h).2.2.2.1
    have s4 : ∀ W', YReg.Ext W.drew W' → W'.cell? ⟨w.heap.size, 4, none⟩ = some (.int .i64 b.2) := fun W' h => (bx W' h).2.2.2.2.1
    have s5 : ∀ W', YReg.Ext W.drew W' → W'.cell? ⟨w.heap.size, 5, none⟩ = some (.bool c.1) := fun W' h => (bx W' h).2.2.2.2.2.1
    have s6 : ∀ W', YReg.Ext W.drew W' → W'.cell? ⟨w.heap.size, 6, none⟩ = some (.int .i64 c.2) := fun W' h => (bx W' h).2.2.2.2.2.2.1
    clear bx
    have k59 : Aside0 (∀ W', YReg.Ext W.drew W' → Calls Tryz.prog 59 #[T3A a b c] W' fun e W2 => ∃ u, e = .returned u ∧ YReg.Ext W' W2 ∧ u = T3R a b c) := ⟨fun W' _ => (ref59 a b c W').mono fun e W2 ⟨h1, h2⟩ => ⟨_, h1, h2, rfl⟩⟩
    refine YReg.wp_region_tail 7 none YReg.Ext YReg.Ext YReg.Ext.refl YReg.Ext.trans YReg.Ext.trans (fun _ _ h => h) (by kernel_rfl) (by kernel_rfl) (by kernel_rfl) [(1, .det (.pointer (some ⟨w.heap.size, 0, none⟩)))] (YReg.base_cons rfl YReg.base_nil) ?_
    simp only [List.take_succ_cons, List.take_zero, List.drop_succ_cons, List.drop_zero]
    repeat (first
      | (refine YReg.walk_calld (by decide) k59.out rfl (by kernel_rfl) (by kernel_rfl) _ rfl (by kernel_rfl) (by kernel_rfl) ?_)
      | (refine YReg.run_1 (by decide) YReg.Ext.refl rfl rfl _ rfl (by kernel_rfl) (by kernel_rfl) ?_; apply Exists.intro; refine ⟨fun ρ W hE h1 => ?_, ?_⟩; (go_simp; try rfl))
      | (refine YReg.run_2 (by decide) YReg.Ext.refl rfl rfl rfl _ rfl (by kernel_rfl) (by kernel_rfl) ?_; apply Exists.intro; refine ⟨fun ρ W hE h1 h2 => ?_, ?_⟩; (go_simp; try rfl))
      | (refine YReg.nd_0 (by decide) (NewC W.heap.size) NewC.up (fun ρ W' hE => ⟨_, _, by (go_simp; try rfl), (Below.refl _ W').alloc (Nat.le_refl _) _, W'.heap.size, rfl, blk_new _ _, hE.of_drew.size, by simp⟩) _ rfl (by kernel_rfl) (by kernel_rfl) ?_))
    intro ρ W1 hE hn
    obtain ⟨_, g, e3, hg, hng, hgl⟩ := hn
    simp only [Act.put, List.setIfInBounds_toArray, List.set_cons_zero, List.set_cons_succ, e3]
    have hE' := hE.of_drew
    have hB1 := Aside0.mk (hB0.out.trans (hE'.mono hB0.out.size))
    have hp1 := Aside0.mk ((hE'.block _ (blk_lt hp0.out)).trans hp0.out)
    have ho1 := Aside0.mk ((hE'.block _ (blk_lt ho0.out)).trans ho0.out)
    have hwg := hwW.out
    have hgw : w.heap.size < g := by omega
    have hgo : w.heap.size + 1 < g := by omega
    clear hE hE' s0 s1 s2 s3 s4 s5 s6 k59 hB0 hp0 ho0 e3 hwW hng hwg
    clear W
    replace hgw := Aside0.mk hgw
    replace hgo := Aside0.mk hgo
    have f0 := blk_frozen hg 0
    have f1 := blk_frozen hg 1
    have f2 := blk_frozen hg 2
    have f3 := blk_frozen hg 3
    have f4 := blk_frozen hg 4
    have f5 := blk_frozen hg 5
    have f6 := blk_frozen hg 6
    have f7 := blk_frozen hg 7
    have q0 := (blk_cell hg 0).trans (show _ = some (Value.int .i64 0) from rfl)
    have q1 := (blk_cell hg 1).trans (show _ = some (Value.int .i64 0) from rfl)
    have q2 := (blk_cell hg 2).trans (show _ = some (Value.int .i64 0) from rfl)
    have q3 := (blk_cell hg 3).trans (show _ = some (Value.int .i64 0) from rfl)
    have q4 := (blk_cell hg 4).trans (show _ = some (Value.int .i64 0) from rfl)
    have q5 := (blk_cell hg 5).trans (show _ = some (Value.int .i64 0) from rfl)
    have q6 := (blk_cell hg 6).trans (show _ = some (Value.int .i64 0) from rfl)
    have q7 := (blk_cell hg 7).trans (show _ = some (Value.slice none 0 0) from rfl)
    replace hg := Aside0.mk hg
    have p7 := (blk_cell hp1.out 7).trans (show _ = some (Value.slice A subs.length cap) from rfl)
    go_upto_region 2 with fail
    have hg8 := (blk_put (blk_put (blk_put (blk_put (blk_put (blk_put (blk_put (blk_put hg.out 0 (.int .i64 k) rfl) 1 (.int .i64 (evI a.1)) rfl) 2 (.int .i64 a.2) rfl) 3 (.int .i64 (evI b.1)) rfl) 4 (.int .i64 b.2) rfl) 5 (.int .i64 (evI c.1)) rfl) 6 (.int .i64 c.2) rfl) 7 (.slice none 0 0) rfl)
    have hp8 := (blk_far (blk_far (blk_far (blk_far (blk_far (blk_far (blk_far (blk_far hp1.out (p := ⟨g, 0, none⟩) (Nat.ne_of_lt hgw.out) (.int .i64 k)) (p := ⟨g, 1, none⟩) (Nat.ne_of_lt hgw.out) (.int .i64 (evI a.1))) (p := ⟨g, 2, none⟩) (Nat.ne_of_lt hgw.out) (.int .i64 a.2)) (p := ⟨g, 3, none⟩) (Nat.ne_of_lt hgw.out) (.int .i64 (evI b.1))) (p := ⟨g, 4, none⟩) (Nat.ne_of_lt hgw.out) (.int .i64 b.2)) (p := ⟨g, 5, none⟩) (Nat.ne_of_lt hgw.out) (.int .i64 (evI c.1))) (p := ⟨g, 6, none⟩) (Nat.ne_of_lt hgw.out) (.int .i64 c.2)) (p := ⟨g, 7, none⟩) (Nat.ne_of_lt hgw.out) (.slice none 0 0))
    have ho8 := (blk_far (blk_far (blk_far (blk_far (blk_far (blk_far (blk_far (blk_far ho1.out (p := ⟨g, 0, none⟩) (Nat.ne_of_lt hgo.out) (.int .i64 k)) (p := ⟨g, 1, none⟩) (Nat.ne_of_lt hgo.out) (.int .i64 (evI a.1))) (p := ⟨g, 2, none⟩) (Nat.ne_of_lt hgo.out) (.int .i64 a.2)) (p := ⟨g, 3, none⟩) (Nat.ne_of_lt hgo.out) (.int .i64 (evI b.1))) (p := ⟨g, 4, none⟩) (Nat.ne_of_lt hgo.out) (.int .i64 b.2)) (p := ⟨g, 5, none⟩) (Nat.ne_of_lt hgo.out) (.int .i64 (evI c.1))) (p := ⟨g, 6, none⟩) (Nat.ne_of_lt hgo.out) (.int .i64 c.2)) (p := ⟨g, 7, none⟩) (Nat.ne_of_lt hgo.out) (.slice none 0 0))
    have hB8 := ((((((((hB1.out.setCell (p := ⟨g, 0, none⟩) (Nat.le_of_lt hgw.out) (.int .i64 k)).setCell (p := ⟨g, 1, none⟩) (Nat.le_of_lt hgw.out) (.int .i64 (evI a.1))).setCell (p := ⟨g, 2, none⟩) (Nat.le_of_lt hgw.out) (.int .i64 a.2)).setCell (p := ⟨g, 3, none⟩) (Nat.le_of_lt hgw.out) (.int .i64 (evI b.1))).setCell (p := ⟨g, 4, none⟩) (Nat.le_of_lt hgw.out) (.int .i64 b.2)).setCell (p := ⟨g, 5, none⟩) (Nat.le_of_lt hgw.out) (.int .i64 (evI c.1))).setCell (p := ⟨g, 6, none⟩) (Nat.le_of_lt hgw.out) (.int .i64 c.2)).setCell (p := ⟨g, 7, none⟩) (Nat.le_of_lt hgw.out) (.slice none 0 0))
    have hgl8 := blk_lt hg8
    replace hg8 := Aside0.mk (show _ = some (oC evR 81 k a b c (.slice none 0 0)) from hg8)
    replace hp8 := Aside0.mk hp8
    replace ho8 := Aside0.mk ho8
    replace hB8 := Aside0.mk hB8
    clear f0 f1 f2 f3 f4 f5 f6 f7 q0 q1 q2 q3 q4 q5 q6 q7 p7 hB1 hp1 ho1 hg hgl
    generalize ((((((((W1.setCell ⟨g, 0, none⟩ (.int .i64 k)).setCell ⟨g, 1, none⟩ (.int .i64 (evI a.1))).setCell ⟨g, 2, none⟩ (.int .i64 a.2)).setCell ⟨g, 3, none⟩ (.int .i64 (evI b.1))).setCell ⟨g, 4, none⟩ (.int .i64 b.2)).setCell ⟨g, 5, none⟩ (.int .i64 (evI c.1))).setCell ⟨g, 6, none⟩ (.int .i64 c.2)).setCell ⟨g, 7, none⟩ (.slice none 0 0)) = V at hg8 hp8 ho8 hB8 hgl8 ⊢
    clear W1
    have p7 := (blk_cell hp8.out 7).trans (show _ = some (Value.slice A subs.length cap) from rfl)
    go_upto_region 3 with fail
    go_loopw [15] (fun i wr => ∃ (j : Nat) (v : Value), i = .int .i64 j ∧ j ≤ subs.length ∧ wr.heap[g]? = some (oC evR 81 k a b c v) ∧ BR (g + 1) wr v (subs.take j) ∧ Below w.heap.size w wr ∧ wr.heap[w.heap.size + 1]? = some z81) (fun i _ => subs.length - (intOf i).toNat)
    case atStart => exact ⟨0, _, rfl, Nat.zero_le _, hg8.out, BR.nil _ _, hB8.out, ho8.out⟩
    case round =>
      obtain ⟨j, v, rfl, hj, hgr, hbr, hBw, hor⟩ := hrel
      clear hB8 hg8 hp8 ho8 p7 hgl8
      clear V
      have hgl := blk_lt hgr
      obtain ⟨A', cp, rfl⟩ : ∃ A' cp, v = .slice A' j cp := by
        obtain ⟨A', cp, e⟩ := hbr.form
        rw [List.length_take_of_le hj] at e
        exact ⟨A', cp, e⟩
      by_cases hlt : j < subs.length
      · obtain ⟨b', o, k', x, y, z, subs', B, cap', rfl, hbl, hx, hlen', hR', htk, hle, c0, c1, c2, c3, c4, c5, c6, c7⟩ := sub_at (hR.out.below hBw) hlt
        have hAB : Below wr.heap.size wr (wr.alloc (oC evA 72 k' x y z (.slice B subs'.length cap'))) := (Below.refl _ _).alloc (Nat.le_refl _) _
        have hBW := Aside0.mk (hBw.trans (hAB.mono hBw.size))
        have hRW := Aside0.mk (hR'.below hAB)
        have hgW := Aside0.mk (blk_alloc hgr (oC evA 72 k' x y z (.slice B subs'.length cap')))
        have hoW := Aside0.mk (blk_alloc hor (oC evA 72 k' x y z (.slice B subs'.length cap')))
        have hxW := Aside0.mk (blk_new wr (oC evA 72 k' x y z (.slice B subs'.length cap')))
        have hbW := Aside0.mk (hbr.below hAB)
        have hih := Aside0.mk (ih k' x y z subs' B cap')
        have hls : csizeL subs' < n := by omega
        replace hx := Aside0.mk hx
        replace hgl := Aside0.mk hgl
        replace hls := Aside0.mk hls
        replace hlen' := Aside0.mk hlen'
        clear hgr hor hbr hBw hAB hR' htk hle
        go_upto_region 5 with fail
        generalize wr.alloc (oC evA 72 k' x y z (.slice B subs'.length cap')) = W at hBW hRW hgW hoW hxW hbW ⊢
        clear c0 c1 c2 c3 c4 c5 c6 c7 hbl
        generalize hnw : wr.heap.size = nw at hxW hgl ⊢
        clear hnw
        clear wr
        have t0 : ∀ W', YReg.Ext W.drew W' → W'.cell? ⟨g, 7, none⟩ = some (.slice A' j cp) := fun W' h => (blk_cell ((h.of_drew.block _ (blk_lt hgW.out)).trans hgW.out) 7).trans rfl
        have bx := fun W' (h : YReg.Ext W.drew W') => box8 ((h.of_drew.block _ (blk_lt hxW.out)).trans hxW.out)
        have s0 : ∀ W', YReg.Ext W.drew W' → W'.cell? ⟨nw, 0, none⟩ = some (.int .i64 k') := fun W' h => (bx W' h).1
        have s1 : ∀ W', YReg.Ext W.drew W' → W'.cell? ⟨nw, 1, none⟩ = some (.bool x.1) := fun W' h => (bx W' h).2.1
        have s2 : ∀ W', YReg.Ext W.drew W' → W'.cell? ⟨nw, 2, none⟩ = some (.int .i64 x.2) := fun W' h => (bx W' h).2.2.1
        have s3 : ∀ W', YReg.Ext W.drew W' → W'.cell? ⟨nw, 3, none⟩ = some (.bool y.1) := fun W' h => (bx W' h).2.2.2.1
        have s4 : ∀ W', YReg.Ext W.drew W' → W'.cell? ⟨nw, 4, none⟩ = some (.int .i64 y.2) := fun W' h => (bx W' h).2.2.2.2.1
        have s5 : ∀ W', YReg.Ext W.drew W' → W'.cell? ⟨nw, 5, none⟩ = some (.bool z.1) := fun W' h => (bx W' h).2.2.2.2.2.1
        have s6 : ∀ W', YReg.Ext W.drew W' → W'.cell? ⟨nw, 6, none⟩ = some (.int .i64 z.2) := fun W' h => (bx W' h).2.2.2.2.2.2.1
        have s7 : ∀ W', YReg.Ext W.drew W' → W'.cell? ⟨nw, 7, none⟩ = some (.slice B subs'.length cap') := fun W' h => (bx W' h).2.2.2.2.2.2.2
        clear bx
        have hRn : n ≤ 1000000 := by omega
        have k32 : Aside0 (∀ W', YReg.Ext W.drew W' → Calls Tryz.prog 32 #[aC evA k' x y z (.slice B subs'.length cap')] W' fun e W2 => ∃ u, e = .returned u ∧ YReg.Ext W' W2 ∧ IsC W.heap.size k' x y z subs' u W2) := ⟨fun W' h => (hih.out W' F hls.out hRn (hRW.out.below h.of_drew)).mono fun e W2 ⟨u, h1, h2, h3⟩ => ⟨u, h1, h2, h3.base h.of_drew.size⟩⟩
        refine YReg.wp_region_tail 5 none YReg.Ext YReg.Ext YReg.Ext.refl YReg.Ext.trans YReg.Ext.trans (fun _ _ h => h) (by kernel_rfl) (by kernel_rfl) (by kernel_rfl) [(3, .det (.pointer (some ⟨g, 0, none⟩))), (5, .det (.pointer (some ⟨nw, 0, none⟩)))] (YReg.base_cons rfl (YReg.base_cons rfl YReg.base_nil)) ?_
        simp only [List.take_succ_cons, List.take_zero, List.drop_succ_cons, List.drop_zero]
        repeat (first
          | (refine YReg.walk_calln (by decide) IsC.up k32.out rfl (by kernel_rfl) (by kernel_rfl) _ rfl (by kernel_rfl) (by kernel_rfl) ?_)
          | (refine YReg.run_1 (by decide) YReg.Ext.refl rfl rfl _ rfl (by kernel_rfl) (by kernel_rfl) ?_; apply Exists.intro; refine ⟨fun ρ W hE h1 => ?_, ?_⟩; (go_simp; try rfl))
          | (refine YReg.nd_1n (by decide) (InC 81 W.heap.size k' x y z subs') InC.up rfl rfl (fun ρ W1 hE ⟨S, e1, h2⟩ => by obtain ⟨a0, c0, e⟩ := h2.form; subst e; exact ⟨_, _, by (go_simp; try rfl), (Below.refl _ W1).alloc (Nat.le_refl _) _, W1.heap.size, _, rfl, blk_new _ _, h2.below ((Below.refl _ W1).alloc (Nat.le_refl _) _), by simp⟩) _ rfl (by kernel_rfl) (by kernel_rfl) ?_))
        intro ρ W' hE hn
        obtain ⟨⟨_, hc1⟩, gb, S, e23, hgb, hS, hgbl⟩ := hn
        have hBe := hE.of_drew
        obtain ⟨A2, c2, rfl⟩ := hS.form
        have hB' := Aside0.mk (hBW.out.trans (hBe.mono hBW.out.size))
        have hgl' := Nat.lt_of_lt_of_le (blk_lt hgW.out) hBe.size
        have hg' := Aside0.mk ((hBe.block _ (blk_lt hgW.out)).trans hgW.out)
        have ho' := Aside0.mk ((hBe.block _ (blk_lt hoW.out)).trans hoW.out)
        have hb' := hbW.out.below hBe
        obtain ⟨css, hcl, hco, hcr⟩ := hb'
        have hlt' := List.length_take_of_le hj
        rw [hlt'] at hco
        have hown : Aside0 (∀ b, Value.ownBlock (.slice A' j cp) = some b → b < W.heap.size) := by
          obtain ⟨css2, _, hco2, _⟩ := hbW.out
          exact ⟨fun b hb => (owner_lt hco2 hb).2⟩
        replace hS := Aside0.mk hS
        have hgb' := Aside0.mk hgb
        replace hcl := Aside0.mk hcl
        replace hcr := Aside0.mk hcr
        have hgW2 := Aside0.mk (Nat.lt_of_lt_of_le (blk_lt hgW.out) (Nat.le_refl _))
        have hgs : g + 1 ≤ W'.heap.size := hgl'
        simp only [e23]
        clear hE hc1 hgb hgbl k32 t0 s0 s1 s2 s3 s4 s5 s6 s7 hBe hgW hoW hxW hbW hBW hRW hih e23
        generalize ρ 22 = x22
        simp only [Act.put, List.setIfInBounds_toArray, List.set_cons_zero, List.set_cons_succ]
        replace hlt' := Aside0.mk hlt'
        have hj1 : j + 1 ≤ maxLen := by omega
        have hj2 : (j + 1) * 80 ≤ 140737488355328 := by omega
        go_wp2_with (at_builtin; refine wpList_append_own2 rfl _ _ 36 rfl (g + 1) 81 i0 (aC evR 0 (false, 0) (false, 0) (false, 0) (.slice none 0 0)) 8 80 Tryz.underlying36 hi.out hz0.out hz1.out hz2.out rfl (by decide) _ j css.flatten rfl hco ⟨gb, 0, none⟩ 1 1 [.int .i64 k', evR x.1, .int .i64 x.2, evR y.1, .int .i64 y.2, evR z.1, .int .i64 z.2, .slice A2 subs'.length c2] rfl (by decide) rfl (cells_at hgb'.out) (by simp [Value.oneCell']) hj1 hj2 hgs ?_; intro v3 w3 hown3 hgr3 hfr3; obtain ⟨A3, c3, rfl⟩ := owns_form hown3; have hg3 := (hgr3.block g hgl' (fun e => by have := (owner_lt hco e.symm).1; omega)).trans hg'.out; have f7 := blk_frozen hg3 7; have p7 := (blk_cell hg3 7).trans (show _ = some (Value.slice A' j cp) from rfl); replace hg3 := Aside0.mk hg3; replace hown3 := Aside0.mk hown3; replace hgr3 := Aside0.mk hgr3; replace hfr3 := Aside0.mk hfr3)
        go_roundw
        case rel =>
          have htk : subs.take (j + 1) = subs.take j ++ [.mk k' x y z subs'] := by rw [List.take_succ_eq_append_getElem hlt, hx.out]
          have hcount := hlt'.out
          refine ⟨j + 1, .slice A3 (j + 1) c3, by go_num, by omega, blk_put hg3.out 7 _ rfl, ?_, ?_, ?_⟩
          · rw [htk]
            refine (BR.snoc hcl.out (v := .slice A' j cp) (by rw [hcount]; exact hco) hcr.out rfl (hS.out.rep hlen'.out) hgW2.out hown.out (by rw [hcount]; exact hown3.out) hgr3.out hfr3.out).far (fun b hb hl => Below.heap_setCell _ _ _ _ (by show b ≠ g; omega))
          · exact (hB'.out.grown hgr3.out (by have := hgw.out; omega) (fun b hb => by have := (owner_lt hco hb).1; have := hgw.out; omega)).setCell (p := ⟨g, 7, none⟩) (Nat.le_of_lt hgw.out) _
          · exact blk_far ((hgr3.out.block (w.heap.size + 1) (by have := hgo.out; omega) (fun e => by have := (owner_lt hco e.symm).1; have := hgo.out; omega)).trans ho'.out) (p := ⟨g, 7, none⟩) (Nat.ne_of_lt hgo.out) _
        case measure => simp [intOf]; omega
      · obtain rfl : j = subs.length := by omega
        rw [List.take_length] at hbr
        have g0 := (blk_cell hgr 0).trans (show _ = some (Value.int .i64 k) from rfl)
        have g1 := (blk_cell hgr 1).trans (show _ = some (Value.int .i64 (evI a.1)) from rfl)
        have g2 := (blk_cell hgr 2).trans (show _ = some (Value.int .i64 a.2) from rfl)
        have g3 := (blk_cell hgr 3).trans (show _ = some (Value.int .i64 (evI b.1)) from rfl)
        have g4 := (blk_cell hgr 4).trans (show _ = some (Value.int .i64 b.2) from rfl)
        have g5 := (blk_cell hgr 5).trans (show _ = some (Value.int .i64 (evI c.1)) from rfl)
        have g6 := (blk_cell hgr 6).trans (show _ = some (Value.int .i64 c.2) from rfl)
        have g7 := (blk_cell hgr 7).trans (show _ = some (Value.slice A' subs.length cp) from rfl)
        have r0 := (blk_cell hor 0).trans (show _ = some (Value.int .i64 0) from rfl)
        have r1 := (blk_cell hor 1).trans (show _ = some (Value.int .i64 0) from rfl)
        have r2 := (blk_cell hor 2).trans (show _ = some (Value.int .i64 0) from rfl)
        have r3 := (blk_cell hor 3).trans (show _ = some (Value.int .i64 0) from rfl)
        have r4 := (blk_cell hor 4).trans (show _ = some (Value.int .i64 0) from rfl)
        have r5 := (blk_cell hor 5).trans (show _ = some (Value.int .i64 0) from rfl)
        have r6 := (blk_cell hor 6).trans (show _ = some (Value.int .i64 0) from rfl)
        have r7 := (blk_cell hor 7).trans (show _ = some (Value.slice none 0 0) from rfl)
        have f0 := blk_frozen hor 0
        have f1 := blk_frozen hor 1
        have f2 := blk_frozen hor 2
        have f3 := blk_frozen hor 3
        have f4 := blk_frozen hor 4
        have f5 := blk_frozen hor 5
        have f6 := blk_frozen hor 6
        have f7 := blk_frozen hor 7
        replace hor := Aside0.mk hor
        replace hgr := Aside0.mk hgr
        replace hbr := Aside0.mk hbr
        replace hBw := Aside0.mk hBw
        go_wp2
        have hlt9 : w.heap.size + 1 < g + 1 := by have := hgo.out; omega
        have hr9 := (blk_put (blk_put (blk_put (blk_put (blk_put (blk_put (blk_put (blk_put hor.out 0 (.int .i64 k) rfl) 1 (.int .i64 (evI a.1)) rfl) 2 (.int .i64 a.2) rfl) 3 (.int .i64 (evI b.1)) rfl) 4 (.int .i64 b.2) rfl) 5 (.int .i64 (evI c.1)) rfl) 6 (.int .i64 c.2) rfl) 7 (.slice A' subs.length cp) rfl)
        have hR9 := ((((((((hbr.out.set (p := ⟨w.heap.size + 1, 0, none⟩) hlt9 (.int .i64 k)).set (p := ⟨w.heap.size + 1, 1, none⟩) hlt9 (.int .i64 (evI a.1))).set (p := ⟨w.heap.size + 1, 2, none⟩) hlt9 (.int .i64 a.2)).set (p := ⟨w.heap.size + 1, 3, none⟩) hlt9 (.int .i64 (evI b.1))).set (p := ⟨w.heap.size + 1, 4, none⟩) hlt9 (.int .i64 b.2)).set (p := ⟨w.heap.size + 1, 5, none⟩) hlt9 (.int .i64 (evI c.1))).set (p := ⟨w.heap.size + 1, 6, none⟩) hlt9 (.int .i64 c.2)).set (p := ⟨w.heap.size + 1, 7, none⟩) hlt9 (.slice A' subs.length cp))
        have hB9 := ((((((((hBw.out.setCell (p := ⟨w.heap.size + 1, 0, none⟩) (Nat.le_succ _) (.int .i64 k)).setCell (p := ⟨w.heap.size + 1, 1, none⟩) (Nat.le_succ _) (.int .i64 (evI a.1))).setCell (p := ⟨w.heap.size + 1, 2, none⟩) (Nat.le_succ _) (.int .i64 a.2)).setCell (p := ⟨w.heap.size + 1, 3, none⟩) (Nat.le_succ _) (.int .i64 (evI b.1))).setCell (p := ⟨w.heap.size + 1, 4, none⟩) (Nat.le_succ _) (.int .i64 b.2)).setCell (p := ⟨w.heap.size + 1, 5, none⟩) (Nat.le_succ _) (.int .i64 (evI c.1))).setCell (p := ⟨w.heap.size + 1, 6, none⟩) (Nat.le_succ _) (.int .i64 c.2)).setCell (p := ⟨w.heap.size + 1, 7, none⟩) (Nat.le_succ _) (.slice A' subs.length cp))
        replace hr9 := (show _ = some (oC evR 81 k a b c (.slice A' subs.length cp)) from hr9)
        have z0 := (blk_cell hr9 0).trans (show _ = some (Value.int .i64 k) from rfl)
        have z1 := (blk_cell hr9 1).trans (show _ = some (Value.int .i64 (evI a.1)) from rfl)
        have z2 := (blk_cell hr9 2).trans (show _ = some (Value.int .i64 a.2) from rfl)
        have z3 := (blk_cell hr9 3).trans (show _ = some (Value.int .i64 (evI b.1)) from rfl)
        have z4 := (blk_cell hr9 4).trans (show _ = some (Value.int .i64 b.2) from rfl)
        have z5 := (blk_cell hr9 5).trans (show _ = some (Value.int .i64 (evI c.1)) from rfl)
        have z6 := (blk_cell hr9 6).trans (show _ = some (Value.int .i64 c.2) from rfl)
        have z7 := (blk_cell hr9 7).trans (show _ = some (Value.slice A' subs.length cp) from rfl)
        refine bodyPost_ret (v := aC evR k a b c (.slice A' subs.length cp)) (by simp [results, Tryz.results32, go_sem, z0, z1, z2, z3, z4, z5, z6, z7]) rfl ⟨_, rfl, hB9, _, rfl, hR9.base (by have := hgw.out; omega)⟩
end Go.Proofs.YtkbkkceeolclmaaGreatDoor.X
