/- 'Close' of package block at (string, int). -/
import Derived.Test.YtnncomhgclffaaaBFun
namespace Go.Proofs.Ytnncomhgclffaaa.BI
open Go.RowKit Go.Shelf Go.Proofs.YtnncomhgclffaaaW.PrintWords Go.Proofs.YtnncomhgclffaaaL Go.Proofs.Ytnncomhgclffaaa.LL Go.Proofs.Ytnncomhgclffaaa.LS
attribute [local go_sem] field176

section
variable {w W : World} {bb lb mb : Nat} {Fl : Nat → Prop} {hd : ByteArray → Int} {gb : ByteArray → Nat} {ks : List ByteArray} {vs : ByteArray → List Int} {vals : List ByteArray}

set_option maxRecDepth 100000 in
theorem close_no (h : BIs w bb lb mb Fl hd gb ks vs vals) (k : ByteArray) (hk : k.size ≤ maxLen) (hm : k ∉ ks) :
    Calls Try.prog 74 #[.pointer (some ⟨bb, 0, none⟩), .string k] w fun e w' => e = .returned (.bool false) ∧ Below w.heap.size w w' := by
  have hc := h.c1
  have hl := h.look_out hk hm true
  simp only [noOwner, if_true] at hl
  clear h
  go_enter Try.func74, Try.ntmps74
  go_wp2
  go_ret
  exact ⟨rfl, (Below.refl _ w).alloc (Nat.le_refl _) _⟩

/-- The blocks on the way of a closing: the pairs have been told down; x lies at the block that was free. -/
structure C1 (w W : World) (bb lb mb : Nat) (Fl : Nat → Prop) (hd : ByteArray → Int) (gb : ByteArray → Nat) (a b : List ByteArray) (k : ByteArray) (vs : ByteArray → List Int) (vals : List ByteArray) : Prop where
  head : W.heap[bb]? = some (.cells #[.pointer (some ⟨lb, 0, none⟩), .map (some mb), .int .i64 (sumOf (a ++ b) vs)] 173 (0, 0))
  own : MapIs strCode W mb (ownMap hd gb (a ++ k :: b)) (a ++ k :: b).length
  ch : Ch w W (BFoot bb mb Fl gb (a ++ k :: b))
  old : ∀ y ∈ a ++ b, W.heap[gb y]? = w.heap[gb y]?

theorem C1.move {a b : List ByteArray} {k : ByteArray} {W' : World} (h : BIs w bb lb mb Fl hd gb (a ++ k :: b) vs vals) (c : C1 w W bb lb mb Fl hd gb a b k vs vals) (hc : Ch W W' Fl) : C1 w W' bb lb mb Fl hd gb a b k vs vals := by
  refine ⟨(hc.block bb (blk_lt c.head) h.fb).trans c.head, c.own.of_heap (hc.block mb c.own.lt h.fm), c.ch.then hc (fun b _ x => .inr (.inr (.inl x))), fun y hy => ?_⟩
  have hy' : y ∈ a ++ k :: b := by simp at hy ⊢; rcases hy with x | x <;> simp [x]
  have := (h.by_ y hy').lt
  have := c.ch.size
  exact (hc.block _ (by omega) (h.fg y hy')).trans (c.old y hy)

theorem close_fin {a b : List ByteArray} {k : ByteArray} {W1 W2 W3 : World} (h : BIs w bb lb mb Fl hd gb (a ++ k :: b) vs vals) (C : C1 w W1 bb lb mb Fl hd gb a b k vs vals) (C2 : C1 w W2 bb lb mb Fl hd gb a b k vs vals)
    (L2 : Lst W2 lb (fun b => Fl b ∨ W1.drew.heap.size ≤ b) (a.map hd ++ b.map hd) vals)
    (hm3 : MapIs strCode W3 mb (mset (ownMap hd gb (a ++ k :: b)) k none) (if (ownMap hd gb (a ++ k :: b) k).isSome then (a ++ k :: b).length - 1 else (a ++ k :: b).length)) (hg3 : W2.grownBy W3 (some mb)) :
    (∃ Fl', BIs W3 bb lb mb Fl' hd gb (a ++ b) (upd vs k []) vals ∧ ∀ b, Fl' b → Fl b ∨ w.heap.size ≤ b) ∧ Ch w W3 (BFoot bb mb Fl gb (a ++ k :: b)) := by
  rw [show ownMap hd gb (a ++ k :: b) k = some (ownerOf (hd k) (gb k)) from if_pos (by simp), Option.isSome_some, if_pos rfl] at hm3
  have sz := C2.ch.size
  have far : ∀ x, x < W2.heap.size → x ≠ mb → W3.heap[x]? = W2.heap[x]? := fun x hx hne => hg3.block x hx (by simpa using hne)
  have szc := C.ch.size
  refine ⟨⟨_, h.closed (W := W3) ((far bb (blk_lt C2.head) h.map_ne.symm).trans C2.head) (L2.bound.move (fun x hx hl => far x hl (fun e => ?_))) hm3 (fun y hy => ?_) (fun x hx hf => ?_), fun b x => by rcases x.1 with x1 | x1; exact .inl x1; exact .inr (Nat.le_trans szc x1)⟩, C2.ch.grown hg3 (fun b e _ => by cases e; exact .inr (.inl rfl))⟩
  · rw [e] at hx
    rcases hx.1 with x1 | x1
    · exact h.fm x1
    · have x2 : W1.heap.size ≤ mb := x1
      have := h.own.lt
      omega
  · have hy' : y ∈ a ++ k :: b := by simp at hy ⊢; rcases hy with x | x <;> simp [x]
    have := (h.by_ y hy').lt
    exact (far _ (by omega) (h.gm y hy')).trans (C2.old y hy)
  · rcases hf.1 with x1 | x1
    · exact x1
    · have x2 : W1.heap.size ≤ x := x1
      omega

set_option maxRecDepth 100000 in
theorem close_yes {a b : List ByteArray} {k : ByteArray} (h : BIs w bb lb mb Fl hd gb (a ++ k :: b) vs vals) (hk : k.size ≤ maxLen) (hN : sumOf (a ++ k :: b) vs < 100000) (hlv : vals.length < 100000) :
    Calls Try.prog 74 #[.pointer (some ⟨bb, 0, none⟩), .string k] w fun e W => e = .returned (.bool true) ∧ (∃ Fl', BIs W bb lb mb Fl' hd gb (a ++ b) (upd vs k []) vals ∧ ∀ b, Fl' b → Fl b ∨ w.heap.size ≤ b) ∧ Ch w W (BFoot bb mb Fl gb (a ++ k :: b)) := by
  have hm : k ∈ a ++ k :: b := by simp
  have hc := h.c1
  have hl := h.look_in hk hm true
  simp only [ownerOf, if_true] at hl
  have h0 := h.alloc (.cells #[.int .i64 (hd k), .map (some (gb k))] 176)
  have hblt := blk_lt h.head
  have hsum : (sumOf (a ++ k :: b) vs : Int) - ((vs k).length : Nat) = (sumOf (a ++ b) vs : Nat) := by rw [sumOf_append, sumOf_append, sumOf_cons]; omega
  have hlen : ∀ ty, (Builtin.len_ #[174] ty #[.map (some (gb k))]).run Try.prog (w.alloc (.cells #[.int .i64 (hd k), .map (some (gb k))] 176)).drew = .ok (.int .i64 (vs k).length) (w.alloc (.cells #[.int .i64 (hd k), .map (some (gb k))] 176)).drew := fun ty =>
    ((h0.by_ k hm).of_heap rfl : MapIs intCode (w.alloc (.cells #[.int .i64 (hd k), .map (some (gb k))] 176)).drew (gb k) _ _).len Try.underlying174 ty
  have hc2 := h.c2
  have hf2 : w.frozen? ⟨bb, 2, none⟩ = false := blk_frozen h.head 2
  have hlk := sumOf_at hm vs
  have far : ∀ x, x < w.heap.size → x ≠ bb → ((w.setCell ⟨bb, 2, none⟩ (.int .i64 (sumOf (a ++ b) vs : Nat))).alloc (.cells #[.int .i64 (hd k), .map (some (gb k))] 176)).drew.heap[x]? = w.heap[x]? := fun x hx hne =>
    (Below.heap_alloc _ _ _ (by simpa [World.setCell] using hx)).trans (Below.heap_setCell _ _ _ _ hne)
  have sub : ∀ y ∈ a ++ b, y ∈ a ++ k :: b := fun y hy => by simp at hy ⊢; rcases hy with x | x <;> simp [x]
  have C : Aside0 (C1 w ((w.setCell ⟨bb, 2, none⟩ (.int .i64 (sumOf (a ++ b) vs : Nat))).alloc (.cells #[.int .i64 (hd k), .map (some (gb k))] 176)).drew bb lb mb Fl hd gb a b k vs vals) :=
    ⟨⟨(Below.heap_alloc _ _ _ (by simpa [World.setCell] using hblt)).trans (blk_set h.head 2 _), h.own.of_heap (far mb h.own.lt h.map_ne), (((Ch.refl w _).setCell ⟨bb, 2, none⟩ (fun _ => .inl rfl) _).alloc _).drew,
      fun y hy => far _ (h.by_ y (sub y hy)).lt (h.g_ne (sub y hy))⟩⟩
  have L : Aside0 (Lst ((w.setCell ⟨bb, 2, none⟩ (.int .i64 (sumOf (a ++ b) vs : Nat))).alloc (.cells #[.int .i64 (hd k), .map (some (gb k))] 176)).drew lb Fl (a.map hd ++ hd k :: b.map hd) vals) :=
    ⟨by have := h.lst.move (W := ((w.setCell ⟨bb, 2, none⟩ (.int .i64 (sumOf (a ++ b) vs : Nat))).alloc (.cells #[.int .i64 (hd k), .map (some (gb k))] 176)).drew) (fun x hx hl => far x hl (fun e => h.fb (e ▸ hx))); simpa using this⟩
  have hq : ((w.setCell ⟨bb, 2, none⟩ (.int .i64 (sumOf (a ++ b) vs : Nat))).alloc (.cells #[.int .i64 (hd k), .map (some (gb k))] 176)).drew.heap[w.heap.size]? = some (.cells #[.int .i64 (hd k), .map (some (gb k))] 176 (0, 0)) := by
    have := blk_new (w.setCell ⟨bb, 2, none⟩ (.int .i64 (sumOf (a ++ b) vs : Nat))) (.cells #[.int .i64 (hd k), .map (some (gb k))] 176)
    rwa [show (w.setCell ⟨bb, 2, none⟩ (.int .i64 (sumOf (a ++ b) vs : Nat))).heap.size = w.heap.size by simp [World.setCell]] at this
  replace hq := Aside0.mk hq
  replace h := Aside0.mk h
  clear h0 far sub
  go_enter Try.func74, Try.ntmps74
  go_upto_region 3 with fail
  go_region
  clear hc hl hlen hc2 hf2 hblt
  generalize ((w.setCell ⟨bb, 2, none⟩ (.int .i64 (sumOf (a ++ b) vs : Nat))).alloc (.cells #[.int .i64 (hd k), .map (some (gb k))] 176)).drew = W1 at C L hq ⊢
  have c0 : W1.cell? ⟨bb, 0, none⟩ = some (.pointer (some ⟨lb, 0, none⟩)) := (blk_cell C.out.head 0).trans rfl
  have q0 : W1.cell? ⟨w.heap.size, 0, none⟩ = some (.int .i64 (hd k)) := (blk_cell hq.out 0).trans rfl
  have HR := Aside0.mk (remove_lst (w := W1.drew) (L.out.move (fun _ _ _ => rfl)) hlv)
  go_upto_region 4 with fail
  go_region_with (go_at_call 49; refine HR.out.mono ?_; rintro e W2 ⟨rfl, L2, h2⟩; replace L2 := Aside0.mk L2; replace h2 := Aside0.mk h2; have C2 := Aside0.mk (C1.move (W' := W2) h.out C.out ⟨h2.out.os, h2.out.tape, h2.out.output, h2.out.size, h2.out.block⟩); have c1 : W2.cell? ⟨bb, 1, none⟩ = some (.map (some mb)) := (blk_cell C2.out.head 1).trans rfl)
  all_goals (go_wp2_with (at_delete; refine drop_at C2.out.own rfl _ _ 171 rfl Try.underlying171 rfl k rfl hk ?_; intro W3 hm3 hg3 hz3; replace hm3 := Aside0.mk hm3; replace hg3 := Aside0.mk hg3); go_ret; exact ⟨rfl, close_fin h.out C.out C2.out L2.out hm3.out hg3.out⟩)
end
end Go.Proofs.Ytnncomhgclffaaa.BI
