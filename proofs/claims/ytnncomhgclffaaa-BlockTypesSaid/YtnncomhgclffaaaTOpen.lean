/- 'Open' of package block at (triple, string). -/
import Derived.Test.YtnncomhgclffaaaTBlock
namespace Go.Proofs.Ytnncomhgclffaaa.BT
open Go.RowKit Go.Proofs.YtnncomhgclffaaaW.PrintWords Go.Proofs.YtnncomhgclffaaaL Go.Proofs.Ytnncomhgclffaaa.LL Go.Proofs.Ytnncomhgclffaaa.LT

section
variable {w W : World} {bb lb mb : Nat} {Fl : Nat → Prop} {hd : P2 → Int} {gb : P2 → Nat} {ks : List P2} {vs : P2 → List ByteArray} {vals : List P2}

/-- What 'Push' leaves. -/
def PP (W : World) (bb lb mb : Nat) (Fl : Nat → Prop) (hd : P2 → Int) (gb : P2 → Nat) (ks : List P2) (vs : P2 → List ByteArray) (vals : List P2) (k : P2) (W' : World) : Prop :=
  Lst W' lb (fun b => (Fl b ∨ W.heap.size ≤ b) ∧ b < W'.heap.size) (ks.map hd ++ [(vals.length : Int) + 1]) (vals ++ [k]) ∧ Ch W W' Fl ∧ BIs W bb lb mb Fl hd gb ks vs vals
theorem push_b (h : BIs W bb lb mb Fl hd gb ks vs vals) (k : P2) (hl : vals.length < 100000) {n : Nat} (hp : W.heap[n]? = some (.cells #[.int .i64 k.1, .int .i64 k.2.1, .int .i64 k.2.2] 60 (0, 0))) (hn : ¬ Fl n) :
    Calls Try.prog 103 #[.pointer (some ⟨lb, 0, none⟩), tri k] W fun e W' => e = .returned (.int .i64 ((vals.length : Int) + 1)) ∧ W'.cell? ⟨bb, 1, none⟩ = some (.map (some mb)) ∧ bb < W'.heap.size ∧
      (W'.cell? ⟨n, 0, none⟩ = some (.int .i64 k.1) ∧ W'.cell? ⟨n, 1, none⟩ = some (.int .i64 k.2.1) ∧ W'.cell? ⟨n, 2, none⟩ = some (.int .i64 k.2.2)) ∧ n < W'.heap.size ∧ PP W bb lb mb Fl hd gb ks vs vals k W' := by
  refine (push_lst k h.lst hl).mono ?_
  rintro e W' ⟨rfl, h1, h2⟩
  have hh := (h2.block bb (blk_lt h.head) h.fb).trans h.head
  have hq := (h2.block n (blk_lt hp) hn).trans hp
  exact ⟨rfl, (blk_cell hh 1).trans rfl, blk_lt hh, ⟨(blk_cell hq 0).trans rfl, (blk_cell hq 1).trans rfl, (blk_cell hq 2).trans rfl⟩, blk_lt hq, h1.bound, h2, h⟩

/-- The same blocks, an owner more. -/
def Opened (w : World) (bb lb mb : Nat) (Fl : Nat → Prop) (gb : P2 → Nat) (ks : List P2) (vs : P2 → List ByteArray) (vals : List P2) (k : P2) (W3 : World) : Prop :=
  ∃ Fl' hd' gb', BIs W3 bb lb mb Fl' hd' gb' (ks ++ [k]) vs (vals ++ [k]) ∧ Ch w W3 (BFoot bb mb Fl gb ks) ∧ ∀ b, BFoot bb mb Fl' gb' (ks ++ [k]) b → BFoot bb mb Fl gb ks b ∨ w.heap.size ≤ b

theorem foot_open {Fl' : Nat → Prop} {g' n : Nat} {k : P2} (hm : k ∉ ks) (hfl : ∀ b, Fl' b → Fl b ∨ n ≤ b) (hg : n ≤ g') : ∀ b, BFoot bb mb Fl' (upd gb k g') (ks ++ [k]) b → BFoot bb mb Fl gb ks b ∨ n ≤ b := by
  rintro b (rfl | rfl | hb | ⟨y, hy, rfl⟩)
  · exact .inl (.inl rfl)
  · exact .inl (.inr (.inl rfl))
  · rcases hfl b hb with x | x
    · exact .inl (.inr (.inr (.inl x)))
    · exact .inr x
  · rcases List.mem_append.1 hy with hy | hy
    · rw [upd_other gb (fun e => hm (by rw [← e]; exact hy)) g']
      exact .inl (.inr (.inr (.inr ⟨y, hy, rfl⟩)))
    · rw [List.mem_singleton.1 hy, upd_same]
      exact .inr hg

theorem ownMap_none (hd : P2 → Int) (gb : P2 → Nat) {ks : List P2} {k : P2} (h : k ∉ ks) : ownMap hd gb ks k = none := if_neg h

/-- No block of a list is an empty map. -/
theorem lst_full {W : World} {lb : Nat} {F : Nat → Prop} {row : List Int} {vals : List P2} (h : Lst W lb F row vals) : Lst W lb (fun b => F b ∧ b < W.heap.size ∧ W.heap[b]? ≠ some (.map #[] 0)) row vals := by
  obtain ⟨mb, lk, L, a, b, c⟩ := h
  refine ⟨mb, lk, L, a, b, fun x hx => ⟨c x hx, a.foot_lt hx, fun e => ?_⟩⟩
  rcases hx with rfl | rfl | ⟨y, hy, rfl⟩
  · rw [a.head] at e; cases e
  · obtain ⟨es, clock, h1, _, h2, _⟩ := a.map
    rw [h1] at e
    cases e
    simp at h2
  · obtain ⟨⟨v, nx, pv⟩, hl⟩ := Option.isSome_iff_exists.1 hy
    rw [a.link y v nx pv hl] at e
    cases e

/-- A new map, empty. -/
def NewM (n : Nat) (W : World) (g : Nat) : Prop := n ≤ g ∧ W.heap[g]? = some (.map #[] 0)
/-- What 'Push' leaves, whatever else has been made. -/
def Psd (n lb : Nat) (Fl : Nat → Prop) (row : List Int) (vals : List P2) (W : World) : Prop :=
  ∃ F', Lst W lb F' row vals ∧ ∀ b, F' b → (Fl b ∨ n ≤ b) ∧ b < W.heap.size ∧ W.heap[b]? ≠ some (.map #[] 0)
theorem Psd.ext {n lb : Nat} {row : List Int} {vals : List P2} (h : Psd n lb Fl row vals w) (e : YReg.Ext w W) : Psd n lb Fl row vals W := by
  obtain ⟨F', h1, h2⟩ := h
  refine ⟨F', h1.below e, fun b hb => ?_⟩
  obtain ⟨a1, a2, a3⟩ := h2 b hb
  exact ⟨a1, Nat.lt_of_lt_of_le a2 e.size, by rw [e.block b a2]; exact a3⟩

theorem finC {w1 W' : World} {k : P2} {g : Nat} (hk : Good k) (hm : k ∉ ks) (hb : Below w.heap.size w w1) (g0 : BIs w1 bb lb mb Fl hd gb ks vs vals) (hc : Ch w1 W' Fl)
    (hp : Psd w1.heap.size lb Fl (ks.map hd ++ [(vals.length : Int) + 1]) (vals ++ [k]) W') (hg : NewM w1.heap.size W' g) :
    ∃ W3, (Instr.mapUpdate 160 (.map (some mb)) (tri k) (.agg #[.int .i64 ((vals.length : Int) + 1), .map (some g)])).run Try.prog W' = .ok () W3 ∧ Opened w bb lb mb Fl gb ks vs vals k W3 := by
  obtain ⟨F', h1, h2⟩ := hp
  obtain ⟨hg1, hg2⟩ := hg
  have hgl := blk_lt hg2
  have hmb := g0.own.lt
  have hsz := hc.size
  have hm0 : MapIs triCode W' mb (ownMap hd gb ks) ks.length := g0.own.of_heap (hc.block mb hmb g0.fm)
  obtain ⟨W3, hst, hm3, hg3, hz3⟩ := hm0.store Try.underlying160 hk (ownerOf ((vals.length : Int) + 1) g)
  rw [ownMap_none hd gb hm] at hm3
  have far : ∀ b, b < W'.heap.size → b ≠ mb → W3.heap[b]? = W'.heap[b]? := fun b hb hne => hg3.block b hb (by simpa using hne)
  have far2 : ∀ b, b < w1.heap.size → b ≠ mb → ¬ Fl b → W3.heap[b]? = w1.heap[b]? := fun b hb hne hf => (far b (by omega) hne).trans (hc.block b hb hf)
  refine ⟨W3, hst, _, _, _, g0.opened (W := W3) hm (far2 bb (blk_lt g0.head) g0.map_ne.symm g0.fb) (h1.move fun b hb hl => far b hl (fun e => ?_)) rfl hm3 ?_ ?_ ?_ hg1 (fun x => ?_), ?_, foot_open hm (fun b x => by have := hb.size; rcases (h2 b x).1 with x1 | x1; exact .inl x1; exact .inr (by omega)) (Nat.le_trans hb.size hg1)⟩
  · subst e
    rcases (h2 b hb).1 with x | x
    · exact g0.fm x
    · omega
  · exact (⟨#[], 0, (far g hgl (by omega)).trans hg2, MapKept.stamped_empty 0, rfl, by simp, by simp⟩ : MapIs strCode W3 g (fun _ => none) 0)
  · intro y hy
    exact far2 _ (g0.by_ y hy).lt (g0.gm y hy) (g0.fg y hy)
  · intro b hb x
    rcases (h2 b x).1 with x | x
    · exact x
    · omega
  · exact (h2 g x).2.2 hg2
  · exact ((Ch.of_below hb _).then (S := BFoot bb mb Fl gb ks) hc (fun b _ e => .inr (.inr (.inl e)))).grown hg3 (fun b e _ => by cases e; exact .inr (.inl rfl))

theorem Opened.wide {k : P2} {Fl0 : Nat → Prop} (hf : ∀ b, Fl0 b → Fl b) (h : Opened w bb lb mb Fl0 gb ks vs vals k W) : Opened w bb lb mb Fl gb ks vs vals k W := by
  have hm : ∀ b, BFoot bb mb Fl0 gb ks b → BFoot bb mb Fl gb ks b := by
    rintro b (e | e | e | e)
    · exact .inl e
    · exact .inr (.inl e)
    · exact .inr (.inr (.inl (hf b e)))
    · exact .inr (.inr (.inr e))
  obtain ⟨Fl', hd', gb', h1, h2, h3⟩ := h
  exact ⟨Fl', hd', gb', h1, h2.mono hm, fun b hb => (h3 b hb).imp (hm b) id⟩

attribute [local go_sem] YReg.envOf

def GF (S : Nat → Prop) (W W' : World) : Prop := Ch W W' S

set_option maxRecDepth 100000 in
set_option maxHeartbeats 4000000 in
theorem open_yes (h : BIs w bb lb mb Fl hd gb ks vs vals) (k : P2) (hk : Good k) (hm : k ∉ ks) (hl : vals.length < 100000) :
    Calls Try.prog 65 #[.pointer (some ⟨bb, 0, none⟩), tri k] w fun e W => e = .returned (.bool true) ∧ Opened w bb lb mb Fl gb ks vs vals k W := by
  have hW := h.bound.move (W := w.alloc (.cells #[.int .i64 k.1, .int .i64 k.2.1, .int .i64 k.2.2] 60)) (fun b _ hl => Below.heap_alloc _ _ _ hl)
  have HI := Aside0.mk (is_walk hW k hk)
  simp only [hm, decide_false] at HI
  have hp := Aside0.mk (blk_new w (.cells #[.int .i64 k.1, .int .i64 k.2.1, .int .i64 k.2.2] 60))
  have hBW := Aside0.mk ((Below.refl w.heap.size w).alloc (Nat.le_refl _) (.cells #[.int .i64 k.1, .int .i64 k.2.1, .int .i64 k.2.2] 60))
  replace hW := Aside0.mk hW
  have hnF : ¬ (fun b => Fl b ∧ b < w.heap.size) w.heap.size := fun x => Nat.lt_irrefl _ x.2
  have hwide := Aside0.mk (fun (W : World) (k : P2) (x : Opened w bb lb mb (fun b => Fl b ∧ b < w.heap.size) gb ks vs vals k W) => x.wide (Fl := Fl) (fun b hb => hb.1))
  have hF0 := Aside0.mk (show ∀ b, (fun b => Fl b ∧ b < w.heap.size) b → b < w.heap.size from fun b x => x.2)
  generalize hFl : (fun b => Fl b ∧ b < w.heap.size) = Fl0 at hW hnF hwide hF0
  clear hFl h
  have hmm := @run_makeMap Try.prog
  obtain ⟨k1, k2, k3⟩ := k
  unfold tri at HI ⊢
  dsimp only at HI hp hBW hW ⊢
  go_enter Try.func65, Try.ntmps65
  go_upto_region 3 with (go_at_call 102; refine HI.out.mono ?_; rintro e w1 ⟨rfl, h1⟩; replace h1 := Aside0.mk h1)
  have g := hW.out.move (W := w1) (fun b _ hl => h1.out.block b hl)
  have hq := (h1.out.block _ (blk_lt hp.out)).trans hp.out
  have hb1 := hBW.out.trans (h1.out.mono hBW.out.size)
  have c0 := g.c0
  have c1 := g.c1
  have n0 := blk_lt g.head
  have q0 := (blk_cell hq 0).trans (show _ = some (Value.int .i64 k1) from rfl)
  have q1 := (blk_cell hq 1).trans (show _ = some (Value.int .i64 k2) from rfl)
  have q2 := (blk_cell hq 2).trans (show _ = some (Value.int .i64 k3) from rfl)
  have nq := blk_lt hq
  have hlt := Aside0.mk (show ∀ b, Fl0 b → b < w1.heap.size from fun b hb => Nat.lt_of_lt_of_le (hF0.out b hb) hb1.size)
  have PA := Aside0.mk (fun (W : World) (hW : YReg.Ext w1.drew W) => ((push_lst (w := W) (k1, k2, k3) ((g.move (W := W) (fun b _ hl => hW.block b hl)).lst) hl).mono (R' := fun e W' => ∃ u, e = .returned u ∧ GF Fl0 W W' ∧ (u = .int .i64 ((vals.length : Int) + 1) ∧ Psd w1.heap.size lb Fl0 (ks.map hd ++ [(vals.length : Int) + 1]) (vals ++ [(k1, k2, k3)]) W')) (by
    rintro e W' ⟨rfl, h1, h2⟩
    exact ⟨_, rfl, h2, rfl, _, lst_full h1, fun b x => ⟨x.1.imp id (Nat.le_trans hW.size), x.2⟩⟩)))
  have FC := Aside0.mk (fun (W' : World) (g' : Nat) (hc : Ch w1 W' Fl0) (hp : Psd w1.heap.size lb Fl0 (ks.map hd ++ [(vals.length : Int) + 1]) (vals ++ [(k1, k2, k3)]) W') (hg : NewM w1.heap.size W' g') => finC (w := w) hk hm hb1 g hc hp hg)
  have hbF := Aside0.mk g.fb
  replace hnF := Aside0.mk hnF
  clear g hq hb1 hW hp hBW HI
  generalize w.heap.size = n at q0 q1 q2 nq hnF ⊢
  unfold tri at FC
  dsimp only at FC
  have cq : ∀ W', GF Fl0 w1.drew W' → W'.cell? ⟨bb, 1, none⟩ = some (.map (some mb)) ∧ W'.cell? ⟨bb, 0, none⟩ = some (.pointer (some ⟨lb, 0, none⟩)) ∧ W'.cell? ⟨n, 0, none⟩ = some (.int .i64 k1) ∧ W'.cell? ⟨n, 1, none⟩ = some (.int .i64 k2) ∧ W'.cell? ⟨n, 2, none⟩ = some (.int .i64 k3) := fun W' h =>
    ⟨(World.cell?_of_block (h.block bb n0 hbF.out)).trans c1, (World.cell?_of_block (h.block bb n0 hbF.out)).trans c0, (World.cell?_of_block (h.block n nq hnF.out)).trans q0, (World.cell?_of_block (h.block n nq hnF.out)).trans q1, (World.cell?_of_block (h.block n nq hnF.out)).trans q2⟩
  have d1 := fun W' h => (cq W' h).1
  have d0 := fun W' h => (cq W' h).2.1
  have r0 := fun W' h => (cq W' h).2.2.1
  have r1 := fun W' h => (cq W' h).2.2.2.1
  have r2 := fun W' h => (cq W' h).2.2.2.2
  replace cq := Aside0.mk cq
  clear c0 c1 q0 q1 q2
  refine YReg.wp_region_tail 13 (some 10) YReg.Ext (GF Fl0) YReg.Ext.refl YReg.Ext.trans (fun a b c h1 h2 => h1.then h2 (fun b _ x => x)) (fun a b h => Ch.of_below h _) (by kernel_rfl) (by kernel_rfl) (by kernel_rfl) [(0, .det (.pointer (some ⟨bb, 0, none⟩))), (3, .det (.pointer (some ⟨n, 0, none⟩)))] (YReg.base_cons rfl (YReg.base_cons rfl YReg.base_nil)) ?_
  repeat (first
    | (refine YReg.walk_move (by decide) YReg.Ext.refl rfl rfl _ rfl (by kernel_rfl) (by kernel_rfl) ?_)
    | (refine YReg.run_1 (by decide) YReg.Ext.refl rfl rfl _ rfl (by kernel_rfl) (by kernel_rfl) ?_; apply Exists.intro; refine ⟨fun ρ W hE h1 => ?_, ?_⟩; (go_simp; try rfl)))
  refine YReg.writes (fun u W W' h e => ⟨h.1, h.2.ext e⟩) PA.out rfl (by kernel_rfl) rfl _ rfl (by kernel_rfl) (by kernel_rfl) rfl ?_
  refine YReg.nd_0 (by decide) (fun u W => ∃ g', u = .map (some g') ∧ NewM w1.heap.size W g') ?_ ?_ _ rfl (by kernel_rfl) (by kernel_rfl) ?_
  · rintro u W W' ⟨g', rfl, h1, h2⟩ hG
    exact ⟨g', rfl, h1, (hG.block g' (blk_lt h2) (fun x => by have := hlt.out _ x; omega)).trans h2⟩
  · intro ρ W hG
    refine ⟨_, _, by go_simp; rfl, (Below.refl _ W).alloc (Nat.le_refl _) _, _, rfl, hG.size, ?_⟩
    exact (MapKept.heap_alloc W _).1
  refine YReg.nd_nn (by decide) (fun u W => ∃ g', u = .agg #[.int .i64 ((vals.length : Int) + 1), .map (some g')] ∧ NewM w1.heap.size W g') ?_ rfl rfl rfl ?_ _ rfl (by kernel_rfl) (by kernel_rfl) ?_
  · rintro u W W' ⟨g', rfl, h1, h2⟩ hG
    exact ⟨g', rfl, h1, (hG.block g' (blk_lt h2) (fun x => by have := hlt.out _ x; omega)).trans h2⟩
  · rintro ρ W hG ⟨h1, _⟩ ⟨g', h2, h3⟩
    refine ⟨_, _, by go_simp, YReg.Ext.refl _, g', rfl, h3⟩
  rintro ρ W' hG ⟨⟨⟨_, hu, hp⟩, _⟩, g', hv, hgm⟩
  obtain ⟨W3, hst, hop⟩ := FC.out W' g' ⟨hG.os, hG.tape, hG.output, hG.size, hG.block⟩ hp hgm
  replace hop := Aside0.mk hop
  simp only [Act.put, List.setIfInBounds_toArray, List.set_cons_zero, List.set_cons_succ, hv]
  clear hu hv hp hgm hG
  go_wp2
  go_ret
  exact ⟨rfl, hwide.out _ _ hop.out⟩
end
end Go.Proofs.Ytnncomhgclffaaa.BT
