/- 'Open' of package block at (string, int). -/
import Derived.Test.YtnncomhgclffaaaBFun
namespace Go.Proofs.Ytnncomhgclffaaa.BI
open Go.RowKit Go.Shelf Go.Proofs.YtnncomhgclffaaaW.PrintWords Go.Proofs.YtnncomhgclffaaaL Go.Proofs.Ytnncomhgclffaaa.LL Go.Proofs.Ytnncomhgclffaaa.LS
attribute [local go_sem] field176

section
variable {w W : World} {bb lb mb : Nat} {Fl : Nat → Prop} {hd : ByteArray → Int} {gb : ByteArray → Nat} {ks : List ByteArray} {vs : ByteArray → List Int} {vals : List ByteArray}

/-- What 'Push' leaves. -/
def PP (W : World) (bb lb mb : Nat) (Fl : Nat → Prop) (hd : ByteArray → Int) (gb : ByteArray → Nat) (ks : List ByteArray) (vs : ByteArray → List Int) (vals : List ByteArray) (k : ByteArray) (W' : World) : Prop :=
  Lst W' lb (fun b => (Fl b ∨ W.heap.size ≤ b) ∧ b < W'.heap.size) (ks.map hd ++ [(vals.length : Int) + 1]) (vals ++ [k]) ∧ Ch W W' Fl ∧ BIs W bb lb mb Fl hd gb ks vs vals
theorem push_b (h : BIs W bb lb mb Fl hd gb ks vs vals) (k : ByteArray) (hl : vals.length < 100000) :
    Calls Try.prog 44 #[.pointer (some ⟨lb, 0, none⟩), .string k] W fun e W' => e = .returned (.int .i64 ((vals.length : Int) + 1)) ∧ W'.cell? ⟨bb, 1, none⟩ = some (.map (some mb)) ∧ bb < W'.heap.size ∧ PP W bb lb mb Fl hd gb ks vs vals k W' := by
  refine (push_lst k h.lst hl).mono ?_
  rintro e W' ⟨rfl, h1, h2⟩
  have hh := (h2.block bb (blk_lt h.head) h.fb).trans h.head
  exact ⟨rfl, (blk_cell hh 1).trans rfl, blk_lt hh, h1.bound, h2, h⟩

/-- The same blocks, an owner more. -/
def Opened (w : World) (bb lb mb : Nat) (Fl : Nat → Prop) (gb : ByteArray → Nat) (ks : List ByteArray) (vs : ByteArray → List Int) (vals : List ByteArray) (k : ByteArray) (W3 : World) : Prop :=
  ∃ Fl' hd' gb', BIs W3 bb lb mb Fl' hd' gb' (ks ++ [k]) vs (vals ++ [k]) ∧ Ch w W3 (BFoot bb mb Fl gb ks) ∧ ∀ b, BFoot bb mb Fl' gb' (ks ++ [k]) b → BFoot bb mb Fl gb ks b ∨ w.heap.size ≤ b

theorem foot_open {Fl' : Nat → Prop} {g' n : Nat} {k : ByteArray} (hm : k ∉ ks) (hfl : ∀ b, Fl' b → Fl b ∨ n ≤ b) (hg : n ≤ g') : ∀ b, BFoot bb mb Fl' (upd gb k g') (ks ++ [k]) b → BFoot bb mb Fl gb ks b ∨ n ≤ b := by
  rintro b (rfl | rfl | hb | ⟨y, hy, rfl⟩)
  · exact .inl (.inl rfl)
  · exact .inl (.inr (.inl rfl))
  · rcases hfl b hb with x | x
    · exact .inl (.inr (.inr (.inl x)))
    · exact .inr x
  · rcases List.mem_append.1 hy with hy | hy
    · rw [upd_other gb (fun e => hm (by rw [← e]; exact hy)) g']
      exact .inl (.inr (.inr (.inr ⟨y, hy, rfl⟩)))
    · rw [List.mem_singleton.1 hy, upd_same]
      exact .inr hg

theorem ownMap_none (hd : ByteArray → Int) (gb : ByteArray → Nat) {ks : List ByteArray} {k : ByteArray} (h : k ∉ ks) : ownMap hd gb ks k = none := if_neg h

theorem finA {w1 W' : World} {k : ByteArray} (hk : k.size ≤ maxLen) (hm : k ∉ ks) (hb : Below w.heap.size w w1) (hp : PP w1.drew bb lb mb Fl hd gb ks vs vals k W') :
    ∃ W3, (Instr.mapUpdate 171 (.map (some mb)) (.string k) (.agg #[.int .i64 ((vals.length : Int) + 1), .map (some W'.heap.size)])).run Try.prog (W'.alloc (.map #[] 0)) = .ok () W3 ∧ Opened w bb lb mb Fl gb ks vs vals k W3 := by
  obtain ⟨h1, h2, h3⟩ := hp
  have hmb := h3.own.lt
  have hsz := h2.size
  have hm0 : MapIs strCode (W'.alloc (.map #[] 0)) mb (ownMap hd gb ks) ks.length := (h3.own.of_heap (h2.block mb hmb h3.fm)).of_heap (Below.heap_alloc _ _ _ (by omega))
  obtain ⟨W3, hst, hm3, hg3, hz3⟩ := hm0.store Try.underlying171 hk (ownerOf ((vals.length : Int) + 1) W'.heap.size)
  rw [ownMap_none hd gb hm] at hm3
  have far : ∀ b, b < W'.heap.size → b ≠ mb → W3.heap[b]? = W'.heap[b]? := fun b hb hne => (hg3.block b (by simp; omega) (by simpa using hne)).trans (Below.heap_alloc _ _ _ hb)
  refine ⟨W3, hst, _, _, _, h3.opened (W := W3) hm ?_ (h1.move fun b hb hl => far b hl (fun e => ?_)) rfl hm3 ?_ ?_ ?_ hsz (fun x => Nat.lt_irrefl _ x.2), ?_, foot_open hm (fun b x => by have hs1 : w1.heap.size ≤ W'.heap.size := hsz; have := hb.size; rcases x.1 with x1 | x1; exact .inl x1; exact .inr (Nat.le_trans this x1)) (Nat.le_trans hb.size hsz)⟩
  · exact (far bb (by have := blk_lt h3.head; omega) h3.map_ne.symm).trans (h2.block bb (blk_lt h3.head) h3.fb)
  · subst e
    rcases hb.1 with x | x
    · exact h3.fm x
    · exact absurd hmb (by omega)
  · exact (MapIs.made intCode W').of_heap (hg3.block _ (by simp) (by simp; omega))
  · intro y hy
    have := (h3.by_ y hy).lt
    exact (far _ (by omega) (h3.gm y hy)).trans (h2.block _ this (h3.fg y hy))
  · intro b hb x
    rcases x.1 with x | x
    · exact x
    · exact absurd hb (by omega)
  · exact (((Ch.of_below hb _).drew.then (S := BFoot bb mb Fl gb ks) h2 (fun b _ e => .inr (.inr (.inl e)))).alloc _).grown hg3 (fun b e _ => by cases e; exact .inr (.inl rfl))

theorem finB {w1 W' : World} {k : ByteArray} (hk : k.size ≤ maxLen) (hm : k ∉ ks) (hb : Below w.heap.size w w1) (g : BIs w1 bb lb mb Fl hd gb ks vs vals) (hp : PP (w1.alloc (.map #[] 0)).drew bb lb mb (fun b => Fl b ∧ b < w1.heap.size) hd gb ks vs vals k W') :
    ∃ W3, (Instr.mapUpdate 171 (.map (some mb)) (.string k) (.agg #[.int .i64 ((vals.length : Int) + 1), .map (some w1.heap.size)])).run Try.prog W' = .ok () W3 ∧ Opened w bb lb mb Fl gb ks vs vals k W3 := by
  obtain ⟨h1, h2, h3⟩ := hp
  have hmb := g.own.lt
  have hsz : w1.heap.size + 1 ≤ W'.heap.size := by simpa using h2.size
  have hm0 : MapIs strCode W' mb (ownMap hd gb ks) ks.length := h3.own.of_heap (h2.block mb h3.own.lt h3.fm)
  obtain ⟨W3, hst, hm3, hg3, hz3⟩ := hm0.store Try.underlying171 hk (ownerOf ((vals.length : Int) + 1) w1.heap.size)
  rw [ownMap_none hd gb hm] at hm3
  have far : ∀ b, b < W'.heap.size → b ≠ mb → W3.heap[b]? = W'.heap[b]? := fun b hb hne => hg3.block b hb (by simpa using hne)
  have far2 : ∀ b, b < w1.heap.size → b ≠ mb → ¬ Fl b → W3.heap[b]? = w1.heap[b]? := fun b hb hne hf => (far b (by omega) hne).trans ((h2.block b (by simp; omega) (fun x => hf x.1)).trans (Below.heap_alloc _ _ _ hb))
  refine ⟨W3, hst, _, _, _, g.opened (W := W3) hm (far2 bb (blk_lt g.head) g.map_ne.symm g.fb) (h1.move fun b hb hl => far b hl (fun e => ?_)) rfl hm3 ?_ ?_ ?_ (Nat.le_refl _) (fun x => ?_), ?_, foot_open hm (fun b x => by have := hb.size; rcases x.1 with x1 | x1; exact .inl x1.1; exact .inr (by have x2 : (w1.alloc (.map #[] 0)).heap.size ≤ b := x1; simp at x2; omega)) hb.size⟩
  · subst e
    rcases hb.1 with x | x
    · exact g.fm x.1
    · exact absurd hmb (by simp at x; omega)
  · refine (MapIs.made intCode w1).of_heap ((far _ (by omega) (by omega)).trans (h2.block _ (by simp) (fun x => Nat.lt_irrefl _ x.2)))
  · intro y hy
    exact far2 _ (g.by_ y hy).lt (g.gm y hy) (g.fg y hy)
  · intro b hb x
    rcases x.1 with x | x
    · exact x.1
    · exact absurd hb (by simp at x; omega)
  · rcases x.1 with x | x
    · exact Nat.lt_irrefl _ x.2
    · have e : (w1.alloc (.map #[] 0)).heap.size = w1.heap.size + 1 := by simp
      have x2 : (w1.alloc (.map #[] 0)).heap.size ≤ w1.heap.size := x
      omega
  · exact (((Ch.of_below hb _).alloc _).drew.then (S := BFoot bb mb Fl gb ks) h2 (fun b _ e => .inr (.inr (.inl e.1)))).grown hg3 (fun b e _ => by cases e; exact .inr (.inl rfl))

set_option maxRecDepth 100000 in
set_option maxHeartbeats 2000000 in
theorem open_yes (h : BIs w bb lb mb Fl hd gb ks vs vals) (k : ByteArray) (hk : k.size ≤ maxLen) (hm : k ∉ ks) (hl : vals.length < 100000) :
    Calls Try.prog 73 #[.pointer (some ⟨bb, 0, none⟩), .string k] w fun e W => e = .returned (.bool true) ∧ Opened w bb lb mb Fl gb ks vs vals k W := by
  have HI := Aside0.mk (is_walk h k hk)
  simp only [hm, decide_false] at HI
  replace h := Aside0.mk h
  have hmm := @run_makeMap Try.prog
  go_enter Try.func73, Try.ntmps73
  go_upto_region 3 with (go_at_call 82; refine HI.out.mono ?_; rintro e w1 ⟨rfl, h1⟩; replace h1 := Aside0.mk h1)
  have g := h.out.move (W := w1) (fun b _ hl => h1.out.block b hl)
  have c0 := g.c0
  have c1 := g.c1
  have n0 := blk_lt g.head
  have P1 := Aside0.mk (push_b (W := w1.drew) (g.move (fun _ _ _ => rfl)) k hl)
  have P2 := Aside0.mk (push_b (W := (w1.alloc (.map #[] 0)).drew) ((g.bound.alloc (.map #[] 0)).move (fun _ _ _ => rfl)) k hl)
  have FA := Aside0.mk (fun (W' : World) (hp : PP w1.drew bb lb mb Fl hd gb ks vs vals k W') => finA (w := w) hk hm h1.out hp)
  have FB := Aside0.mk (fun (W' : World) (hp : PP (w1.alloc (.map #[] 0)).drew bb lb mb (fun b => Fl b ∧ b < w1.heap.size) hd gb ks vs vals k W') => finB (w := w) hk hm h1.out g hp)
  clear g h
  go_region_with (go_at_call 44; (first | (with_reducible refine P1.out.mono ?_; rintro e W' ⟨rfl, c2, n2, hp⟩; obtain ⟨W3, hst, hp⟩ := FA.out _ hp) | (with_reducible refine P2.out.mono ?_; rintro e W' ⟨rfl, c2, n2, hp⟩; obtain ⟨W3, hst, hp⟩ := FB.out _ hp)); replace hp := Aside0.mk hp)
  all_goals (go_wp2; go_ret; exact ⟨rfl, hp.out⟩)
end
end Go.Proofs.Ytnncomhgclffaaa.BI
