/- An owner more in the document's row, a pair more in its pairs. -/
import Derived.Test.YtnncomhgclffaaaBTight
import Derived.Test.YtnncomhgclffaaaBStep
namespace Go.Proofs.Ytnncomhgclffaaa.BI
open Go.RowKit Go.Shelf Go.Proofs.YtnncomhgclffaaaW.PrintWords Go.Proofs.YtnncomhgclffaaaL Go.Proofs.Ytnncomhgclffaaa.LL Go.Proofs.Ytnncomhgclffaaa.LS

section
variable {w W : World} {bb xb q N : Nat} {o : Obj} {ks kx : List ByteArray} {vs : ByteArray → List Int} {Q : List (ByteArray × Int)}

theorem own_apart {W : World} {base n m : Nat} {e1 e2 : TypeId} {s1 s2 : Nat} {v1 v2 : Value} {xs ys : List Value} (h1 : W.ownsRow base e1 s1 v1 n xs) (h2 : W.ownsRow base e2 s2 v2 m ys) (hne : e1 ≠ e2) {b : Nat} (hb : v1.ownBlock = some b) : v2.ownBlock ≠ some b := fun e => by
  obtain ⟨c1, k1⟩ := own_typed h1 b hb
  obtain ⟨c2, k2⟩ := own_typed h2 b e
  rw [k1] at k2
  cases k2
  exact hne rfl

/-- The row of owners: it may be appended to. -/
theorem Bo.rowApp (h : Bo w bb xb q o ks vs N kx Q W) (ho : ∀ cs, o ≠ .cells cs 9 (0, 0)) :
    ∃ A c vp, W.heap[xb]? = some (.cells #[.slice A kx.length c, vp] 116 (0, 0)) ∧ W.ownsRow w.heap.size 9 1 (.slice A kx.length c) kx.length (kx.map Value.string) ∧ w.heap.size ≤ W.heap.size ∧
      ∀ (s : ByteArray) (tmp : Obj) (v' : Value) (w' : World), w'.ownsRow w.heap.size 9 1 v' (kx.length + 1) (kx.map Value.string ++ [.string s]) → (W.alloc tmp).drew.grownBy w' (Value.slice A kx.length c).ownBlock →
        w'.heap[xb]? = some (.cells #[.slice A kx.length c, vp] 116 (0, 0)) ∧ Bo w bb xb q o ks vs N (kx ++ [s]) Q (w'.setCell ⟨xb, 0, none⟩ v') := by
  obtain ⟨F, G, h1, ⟨vr, vp, k1, k2, k3, g1, g2, g3⟩, h3, h4, h5, h6, h7⟩ := h
  obtain ⟨A, c, rfl⟩ := owns_form k2
  refine ⟨A, c, vp, k1, k2, h7.size, fun s tmp v' w' hown hg => ?_⟩
  have hz7 := h7.size
  have hs : W.heap.size + 1 ≤ w'.heap.size := by
    have : (W.alloc tmp).heap.size ≤ w'.heap.size := hg.size
    simpa using this
  have hs2 : (w'.setCell ⟨xb, 0, none⟩ v').heap.size = w'.heap.size := by simp [World.setCell]
  have nx : some xb ≠ (Value.slice A kx.length c).ownBlock := own_ne k2 k1 (by decide)
  have near : ∀ b, b < W.heap.size → (Value.slice A kx.length c).ownBlock ≠ some b → w'.heap[b]? = W.heap[b]? := fun b hb hn =>
    (hg.block b (by show b < (W.alloc tmp).heap.size; simp; omega) (fun e => hn e.symm)).trans (Below.heap_alloc _ _ _ hb)
  have hx' := (near xb (blk_lt k1) (fun e => nx e.symm)).trans k1
  have nx' : some xb ≠ v'.ownBlock := own_ne hown hx' (by decide)
  have far : ∀ b, b < W.heap.size → b ≠ xb → (Value.slice A kx.length c).ownBlock ≠ some b → (w'.setCell ⟨xb, 0, none⟩ v').heap[b]? = W.heap[b]? := fun b hb hx hn => (Below.heap_setCell _ _ _ _ hx).trans (near b hb hn)
  have hq := blk_lt h5
  have nq : (Value.slice A kx.length c).ownBlock ≠ some q := fun e => (h4 q (g2 q e)).2.2 rfl
  refine ⟨hx', fun b => F b ∧ NoRow W b, fun b => (G b ∨ v'.ownBlock = some b) ∧ b < w'.heap.size, h1.tight.move (fun b x hl => far b hl (fun e => (h3 b x.1).2.2.1 (by rw [e]; exact g1)) (fun e => (h3 b x.1).2.2.1 (g2 b e))),
    ⟨v', vp, blk_set hx' 0 v', ?_, ?_, ⟨.inl g1, by have := blk_lt k1; omega⟩, fun b e => ⟨.inr e, ?_⟩, fun b e => ⟨.inl (g3 b e), ?_⟩⟩, fun b x => ?_, fun b x => ?_, ?_, h6, ?_⟩
  · rw [List.map_append, List.length_append]
    exact owns_move hown (fun b _ _ e => Below.heap_setCell _ _ _ _ (fun e2 => nx' (by have e3 : b = xb := e2; rw [← e3]; exact e.symm)))
  · exact owns_move k3 (fun b _ hl e => far b hl (fun e2 => by
      have := own_ne k3 k1 (by decide)
      exact this (by rw [← e2]; exact e.symm)) (fun e2 => own_apart k2 k3 (by decide) e2 e))
  · obtain ⟨cs, hc⟩ := own_typed hown b e; exact blk_lt hc
  · have := h4 b (g3 b e); omega
  · have hb := h3 b x.1
    refine ⟨hb.1, by omega, fun y => ?_, hb.2.2.2⟩
    rcases y.1 with z | z
    · exact hb.2.2.1 z
    · obtain ⟨cs, hc⟩ := own_typed hown b z
      rw [near b hb.2.1 (fun e => hb.2.2.1 (g2 b e))] at hc
      exact (x.2 cs 9 hc).1 rfl
  · rcases x.1 with z | z
    · have := h4 b z; exact ⟨this.1, by omega, this.2.2⟩
    · refine ⟨own_from hown z, by omega, fun e => ?_⟩
      obtain ⟨cs, hc⟩ := own_typed hown b z
      rw [e, near q hq nq, h5] at hc
      exact ho cs (Option.some.inj hc)
  · exact (far q hq (fun e => (h4 xb g1).2.2 e.symm) nq).trans h5
  · refine Below.setCell ?_ (h4 xb g1).1 v'
    exact (((h7.alloc h7.size tmp).drew).grown hg (by show w.heap.size ≤ (W.alloc tmp).heap.size; simp; omega) (fun b e => own_from k2 e))
/-- The pairs: they may be appended to. -/
theorem Bo.pairApp (h : Bo w bb xb q o ks vs N kx Q W) (ho : ∀ cs, o ≠ .cells cs 124 (0, 0)) :
    ∃ A c vr, W.heap[xb]? = some (.cells #[vr, .slice A Q.length c] 116 (0, 0)) ∧ W.ownsRow w.heap.size 124 2 (.slice A Q.length c) Q.length (pairC Q) ∧ w.heap.size ≤ W.heap.size ∧
      ∀ (s : ByteArray × Int) (tmp : Obj) (v' : Value) (w' : World), w'.ownsRow w.heap.size 124 2 v' (Q.length + 1) (pairC Q ++ [.string s.1, .int .i64 s.2]) → (W.alloc tmp).drew.grownBy w' (Value.slice A Q.length c).ownBlock →
        w'.heap[xb]? = some (.cells #[vr, .slice A Q.length c] 116 (0, 0)) ∧ Bo w bb xb q o ks vs N kx (Q ++ [s]) (w'.setCell ⟨xb, 1, none⟩ v') := by
  obtain ⟨F, G, h1, ⟨vr, vp, k1, k2, k3, g1, g2, g3⟩, h3, h4, h5, h6, h7⟩ := h
  obtain ⟨A, c, rfl⟩ := owns_form k3
  refine ⟨A, c, vr, k1, k3, h7.size, fun s tmp v' w' hown hg => ?_⟩
  have hz7 := h7.size
  have hs : W.heap.size + 1 ≤ w'.heap.size := by
    have : (W.alloc tmp).heap.size ≤ w'.heap.size := hg.size
    simpa using this
  have hs2 : (w'.setCell ⟨xb, 1, none⟩ v').heap.size = w'.heap.size := by simp [World.setCell]
  have nx : some xb ≠ (Value.slice A Q.length c).ownBlock := own_ne k3 k1 (by decide)
  have near : ∀ b, b < W.heap.size → (Value.slice A Q.length c).ownBlock ≠ some b → w'.heap[b]? = W.heap[b]? := fun b hb hn =>
    (hg.block b (by show b < (W.alloc tmp).heap.size; simp; omega) (fun e => hn e.symm)).trans (Below.heap_alloc _ _ _ hb)
  have hx' := (near xb (blk_lt k1) (fun e => nx e.symm)).trans k1
  have nx' : some xb ≠ v'.ownBlock := own_ne hown hx' (by decide)
  have far : ∀ b, b < W.heap.size → b ≠ xb → (Value.slice A Q.length c).ownBlock ≠ some b → (w'.setCell ⟨xb, 1, none⟩ v').heap[b]? = W.heap[b]? := fun b hb hx hn => (Below.heap_setCell _ _ _ _ hx).trans (near b hb hn)
  have hq := blk_lt h5
  have nq : (Value.slice A Q.length c).ownBlock ≠ some q := fun e => (h4 q (g3 q e)).2.2 rfl
  refine ⟨hx', fun b => F b ∧ NoRow W b, fun b => (G b ∨ v'.ownBlock = some b) ∧ b < w'.heap.size, h1.tight.move (fun b x hl => far b hl (fun e => (h3 b x.1).2.2.1 (by rw [e]; exact g1)) (fun e => (h3 b x.1).2.2.1 (g3 b e))),
    ⟨vr, v', blk_set hx' 1 v', ?_, ?_, ⟨.inl g1, by have := blk_lt k1; omega⟩, fun b e => ⟨.inl (g2 b e), ?_⟩, fun b e => ⟨.inr e, ?_⟩⟩, fun b x => ?_, fun b x => ?_, ?_, h6, ?_⟩
  · exact owns_move k2 (fun b _ hl e => far b hl (fun e2 => by
      have := own_ne k2 k1 (by decide)
      exact this (by rw [← e2]; exact e.symm)) (fun e2 => own_apart k3 k2 (by decide) e2 e))
  · rw [pairC_append, List.length_append]
    exact owns_move hown (fun b _ _ e => Below.heap_setCell _ _ _ _ (fun e2 => nx' (by have e3 : b = xb := e2; rw [← e3]; exact e.symm)))
  · have := h4 b (g2 b e); omega
  · obtain ⟨cs, hc⟩ := own_typed hown b e; exact blk_lt hc
  · have hb := h3 b x.1
    refine ⟨hb.1, by omega, fun y => ?_, hb.2.2.2⟩
    rcases y.1 with z | z
    · exact hb.2.2.1 z
    · obtain ⟨cs, hc⟩ := own_typed hown b z
      rw [near b hb.2.1 (fun e => hb.2.2.1 (g3 b e))] at hc
      exact (x.2 cs 124 hc).2.1 rfl
  · rcases x.1 with z | z
    · have := h4 b z; exact ⟨this.1, by omega, this.2.2⟩
    · refine ⟨own_from hown z, by omega, fun e => ?_⟩
      obtain ⟨cs, hc⟩ := own_typed hown b z
      rw [e, near q hq nq, h5] at hc
      exact ho cs (Option.some.inj hc)
  · exact (far q hq (fun e => (h4 xb g1).2.2 e.symm) nq).trans h5
  · refine Below.setCell ?_ (h4 xb g1).1 v'
    exact (((h7.alloc h7.size tmp).drew).grown hg (by show w.heap.size ≤ (W.alloc tmp).heap.size; simp; omega) (fun b e => own_from k3 e))
end
end Go.Proofs.Ytnncomhgclffaaa.BI
