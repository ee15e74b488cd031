/- Both blocks in memory: the program's and the document's. -/
import Derived.Test.YtnncomhgclffaaaBRefF
namespace Go.Proofs.Ytnncomhgclffaaa.BI
open Go.RowKit Go.Shelf Go.Proofs.YtnncomhgclffaaaW.PrintWords Go.Proofs.YtnncomhgclffaaaL Go.Proofs.Ytnncomhgclffaaa.LL Go.Proofs.Ytnncomhgclffaaa.LS

/-- The program's blocks (ks, vs), the document's (kx, Q), and the variable o in block q. -/
def Bo (w : World) (bb xb q : Nat) (o : Obj) (ks : List ByteArray) (vs : ByteArray → List Int) (N : Nat) (kx : List ByteArray) (Q : List (ByteArray × Int)) (W : World) : Prop :=
  ∃ F G, Blk W bb F ks vs N ∧ XO W xb w.heap.size G kx Q ∧ (∀ b, F b → w.heap.size ≤ b ∧ b < W.heap.size ∧ ¬ G b ∧ b ≠ q) ∧ (∀ b, G b → w.heap.size ≤ b ∧ b < W.heap.size ∧ b ≠ q) ∧ W.heap[q]? = some o ∧ w.heap.size ≤ q ∧ Below w.heap.size w W

section
variable {w W W' : World} {bb xb q N N2 : Nat} {o : Obj} {ks ks2 kx kx2 : List ByteArray} {vs vs2 : ByteArray → List Int} {Q Q2 : List (ByteArray × Int)} {r : Value}

theorem Bo.below (h : Bo w bb xb q o ks vs N kx Q W) (hb : Below W.heap.size W W') : Bo w bb xb q o ks vs N kx Q W' := by
  obtain ⟨F, G, h1, h2, h3, h4, h5, h6, h7⟩ := h
  have hs := hb.size
  exact ⟨F, G, h1.below hb, h2.below hb, fun b x => by have := h3 b x; exact ⟨this.1, by omega, this.2.2⟩, fun b x => by have := h4 b x; exact ⟨this.1, by omega, this.2.2⟩, (hb.block q (blk_lt h5)).trans h5, h6, h7.trans (hb.mono h7.size)⟩
theorem Bo.var (h : Bo w bb xb q o ks vs N kx Q W) : W.heap[q]? = some o := by
  obtain ⟨F, G, h1, h2, h3, h4, h5, h6, h7⟩ := h
  exact h5
theorem Bo.base (h : Bo w bb xb q o ks vs N kx Q W) : Below w.heap.size w W := by
  obtain ⟨F, G, h1, h2, h3, h4, h5, h6, h7⟩ := h
  exact h7
theorem Bo.x (h : Bo w bb xb q o ks vs N kx Q W) : ∃ A B c d, XIs W xb A B c d kx Q := by
  obtain ⟨F, G, h1, h2, _⟩ := h
  exact h2.is
theorem Bo.b (h : Bo w bb xb q o ks vs N kx Q W) : ∃ F, Blk W bb F ks vs N := by
  obtain ⟨F, G, h1, h2, _⟩ := h
  exact ⟨F, h1⟩
theorem Bo.facts (h : Bo w bb xb q o ks vs N kx Q W) : ks.Nodup ∧ ks.length ≤ N ∧ sumOf ks vs ≤ N ∧ (∀ k, (vs k).Nodup) ∧ (∀ k, k ∉ ks → vs k = []) ∧ ∀ k ∈ ks, k.size ≤ maxLen := by
  obtain ⟨F, G, h1, _⟩ := h
  exact h1.facts

theorem XO.base {b b' : Nat} {G : Nat → Prop} (h : XO W xb b G kx Q) (hb : b' ≤ b) : XO W xb b' G kx Q := by
  obtain ⟨vr, vp, k1, k2, k3, g⟩ := h
  exact ⟨vr, vp, k1, owns_base k2 hb, owns_base k3 hb, g⟩

/-- A call of the program's blocks. -/
theorem Bo.did {f : FuncId} {args : Array Value} (h : Bo w bb xb q o ks vs N kx Q W) (hc : ∀ F, Blk W bb F ks vs N → Calls Try.prog f args W (Did W bb F r ks2 vs2 N2)) :
    Calls Try.prog f args W fun e W' => e = .returned r ∧ Bo w bb xb q o ks2 vs2 N2 kx Q W' := by
  obtain ⟨F, G, h1, h2, h3, h4, h5, h6, h7⟩ := h
  refine (hc F h1).mono ?_
  rintro e W' ⟨rfl, g1, g2⟩
  have hs := g2.size
  have hq := blk_lt h5
  refine ⟨rfl, fun b => (F b ∨ W.heap.size ≤ b) ∧ b < W'.heap.size, G, g1.mono (fun b x y => ⟨x, y⟩), h2.move (fun b x hl => g2.block b hl (fun y => (h3 b y).2.2.1 x)), fun b x => ?_, fun b x => ?_, (g2.block q hq (fun y => (h3 q y).2.2.2 rfl)).trans h5, h6, g2.below h7 h7.size (fun b x => (h3 b x).1)⟩
  · have := h7.size
    rcases x.1 with y | y
    · have := h3 b y; exact ⟨this.1, x.2, this.2.2⟩
    · exact ⟨by omega, x.2, fun z => by have := h4 b z; omega, by omega⟩
  · have := h4 b x; exact ⟨this.1, by omega, this.2.2⟩

/-- A call that writes the document's blocks. -/
theorem Bo.xdid {f : FuncId} {args : Array Value} (h : Bo w bb xb q o ks vs N kx Q W) (hc : ∀ G, XO W xb w.heap.size G kx Q → w.heap.size ≤ W.heap.size → G xb → Calls Try.prog f args W fun e W' => (∃ z, e = .returned z) ∧ (∃ G', XO W' xb w.heap.size G' kx2 Q2 ∧ ∀ b, G' b → G b ∨ W.heap.size ≤ b) ∧ Ch W W' (fun b => b = xb)) :
    Calls Try.prog f args W fun e W' => (∃ z, e = .returned z) ∧ Bo w bb xb q o ks vs N kx2 Q2 W' := by
  obtain ⟨F, G, h1, h2, h3, h4, h5, h6, h7⟩ := h
  have hx : G xb := by obtain ⟨_, _, _, _, _, g, _⟩ := h2; exact g
  refine (hc G h2 h7.size hx).mono ?_
  rintro e W' ⟨hz, ⟨G', g1, g3⟩, g2⟩
  have hs := g2.size
  have hq := blk_lt h5
  refine ⟨hz, F, fun b => G' b ∧ b < W'.heap.size, h1.move (fun b x hl => g2.block b hl (fun y => (h3 b x).2.2.1 (y ▸ hx))), g1.mono (fun b x y => ⟨x, y⟩), fun b x => ?_, fun b x => ?_, (g2.block q hq (fun y => (h4 xb hx).2.2 y.symm)).trans h5, h6, g2.below h7 h7.size (fun b x => by rw [x]; exact (h4 xb hx).1)⟩
  · have := h3 b x
    exact ⟨this.1, by omega, fun z => by rcases g3 b z.1 with y | y; exact this.2.2.1 y; omega, this.2.2.2⟩
  · have := h7.size
    rcases g3 b x.1 with y | y
    · have := h4 b y; exact ⟨this.1, x.2, this.2.2⟩
    · exact ⟨by omega, x.2, by omega⟩

theorem Bo.more (h : Bo w bb xb q o ks vs N kx Q W) (hN : N ≤ N2) : Bo w bb xb q o ks vs N2 kx Q W := by
  obtain ⟨F, G, h1, h2⟩ := h
  exact ⟨F, G, h1.more hN, h2⟩
/-- The same without a variable. -/
def Bz (w : World) (bb xb : Nat) (ks : List ByteArray) (vs : ByteArray → List Int) (N : Nat) (kx : List ByteArray) (Q : List (ByteArray × Int)) (W : World) : Prop :=
  ∃ F G, Blk W bb F ks vs N ∧ XO W xb w.heap.size G kx Q ∧ (∀ b, F b → w.heap.size ≤ b ∧ b < W.heap.size ∧ ¬ G b) ∧ (∀ b, G b → w.heap.size ≤ b ∧ b < W.heap.size) ∧ Below w.heap.size w W
theorem Bo.z (h : Bo w bb xb q o ks vs N kx Q W) : Bz w bb xb ks vs N kx Q W := by
  obtain ⟨F, G, h1, h2, h3, h4, h5, h6, h7⟩ := h
  exact ⟨F, G, h1, h2, fun b x => ⟨(h3 b x).1, (h3 b x).2.1, (h3 b x).2.2.1⟩, fun b x => ⟨(h4 b x).1, (h4 b x).2.1⟩, h7⟩
/-- A new variable. -/
theorem Bz.newVar (h : Bz w bb xb ks vs N kx Q W) (ob : Obj) : Bo w bb xb W.heap.size ob ks vs N kx Q (W.alloc ob) := by
  obtain ⟨F, G, h1, h2, h3, h4, h7⟩ := h
  have hb : Below W.heap.size W (W.alloc ob) := (Below.refl _ W).alloc (Nat.le_refl _) _
  have hs : (W.alloc ob).heap.size = W.heap.size + 1 := by simp
  exact ⟨F, G, h1.below hb, h2.below hb, fun b x => by have := h3 b x; exact ⟨this.1, by omega, this.2.2, by omega⟩, fun b x => by have := h4 b x; exact ⟨this.1, by omega, by omega⟩, by show (W.heap.push ob)[W.heap.size]? = _; simp, h7.size, h7.trans (hb.mono h7.size)⟩
theorem Bz.start {w w1 : World} {bb : Nat} (h : Blk w1 bb (fun b => w.heap.size ≤ b) [] (fun _ => []) 0) (hb : Below w.heap.size w w1) :
    Bz w bb w1.heap.size [] (fun _ => []) 0 [] [] (w1.alloc (.cells #[.slice none 0 0, .slice none 0 0] 116)) := by
  have hs : (w1.alloc (.cells #[.slice none 0 0, .slice none 0 0] 116)).heap.size = w1.heap.size + 1 := by simp
  have hB : Below w1.heap.size w1 (w1.alloc (.cells #[.slice none 0 0, .slice none 0 0] 116)) := (Below.refl _ w1).alloc (Nat.le_refl _) _
  have hz := hb.size
  refine ⟨fun b => w.heap.size ≤ b ∧ b < w1.heap.size, fun b => b = w1.heap.size, (h.mono (fun b x y => ⟨x, y⟩)).below hB, ⟨_, _, blk_new _ _, World.ownsRow_nil _ _ _ _, World.ownsRow_nil _ _ _ _, rfl, fun b e => by simp [Value.ownBlock] at e, fun b e => by simp [Value.ownBlock] at e⟩, fun b x => ⟨x.1, by omega, by omega⟩, fun b x => by omega, hb.trans (hB.mono hz)⟩
theorem Bo.rclose (h : Bo w bb xb q o ks vs N kx Q W) (k : ByteArray) (hn : kx.length < 100000) (hq : Q.length < 100000) :
    Calls Try.prog 75 #[.pointer (some ⟨xb, 0, none⟩), .string k] W fun e W' => (∃ z, e = .returned z) ∧ Bo w bb xb q o ks vs N (kx.filter fun y => decide (y ≠ k)) (Q.filter fun p => decide (p.1 ≠ k)) W' :=
  h.xdid fun _ hG hs hx => (rclose_walk hG k hn hq).mono fun _ _ ⟨h1, h2, h3⟩ => ⟨h1, ⟨_, XO.base h2 hs, fun b x => by rcases x with y | y; exact .inl (y ▸ hx); exact .inr y⟩, h3⟩
theorem Bo.rfree (h : Bo w bb xb q o ks vs N kx Q W) (k : ByteArray) (v : Int) (hq : Q.length < 100000) :
    Calls Try.prog 79 #[.pointer (some ⟨xb, 0, none⟩), .string k, .int .i64 v] W fun e W' => (∃ z, e = .returned z) ∧ Bo w bb xb q o ks vs N kx (Q.filter fun p => decide (p.1 ≠ k ∨ p.2 ≠ v)) W' :=
  h.xdid fun _ hG hs _ => (rfree_walk hG hs k v hq).mono fun _ _ ⟨h1, h2, h3⟩ => ⟨h1, ⟨_, h2, fun _ x => x⟩, h3⟩
end
end Go.Proofs.Ytnncomhgclffaaa.BI
