/- The document's example: 'awake' of layer 20. -/
import Derived.Test.YtmhpogajklihdaaDoorCRWithout
import Derived.Test.YtmhpogajklihdaaDoorCTextW
namespace Go.Proofs.YtmhpogajklihdaaDoor.C
open Go.RowKit Go.Shelf Go.Lib Go.Sort

abbrev sa : ByteArray := ⟨#[97]⟩
abbrev sb : ByteArray := ⟨#[98]⟩
def L0 : List M := [(sb, [1, 2]), (sa, [9]), (sb, [1])]
def L1 : List M := [(sa, [9]), (sb, [1]), (sb, [1, 2])]
theorem L1_rises : Rising L1 := by
  unfold Rising L1
  simp only [List.pairwise_cons]
  refine ⟨?_, ?_, ?_, .nil⟩
  · intro x hx
    simp at hx
    rcases hx with rfl | rfl <;> decide
  · intro x hx
    simp at hx
    subst hx
    decide
  · intro x hx
    cases hx
theorem L01 (x : M) : x ∈ L0 ↔ x ∈ L1 := by
  simp only [L0, L1, List.mem_cons, List.not_mem_nil, or_false]
  constructor
  · rintro (h | h | h)
    · exact .inr (.inr h)
    · exact .inl h
    · exact .inr (.inl h)
  · rintro (h | h | h)
    · exact .inr (.inl h)
    · exact .inr (.inr h)
    · exact .inl h
theorem text_ex : textM (sb, [1, 2]) = (⟨#[98, 32, 49, 32, 50]⟩, 0) := by
  rw [text_of (m := (sb, [1, 2])) (by decide) (by decide)]
  unfold textB tailT
  simp only [List.flatMap_cons, List.flatMap_nil]
  rw [show (1 : Int).toNat = 1 from rfl, show (2 : Int).toNat = 2 from rfl, decDigits_one (by decide), decDigits_one (by decide)]
  rfl

theorem blk_alloc {w : World} {b : Nat} {o : Obj} (h : w.heap[b]? = some o) (x : Obj) : (w.alloc x).heap[b]? = some o := (Below.heap_alloc w x b (Array.getElem?_eq_some_iff.1 h).1).trans h
theorem ids_at {W : World} {b : Nat} {ids : List Int} (h : W.heap[b]? = some (.cells (ids.map (Value.int .i64)).toArray 3 (0, 0))) (hl : ids.length ≤ 1000) : IdsAt W (.slice (some ⟨b, 0, none⟩) ids.length ids.length) ids := by
  refine ⟨_, _, rfl, by omega, fun j hj => ⟨b, 0, rfl, blk_lt h, ?_⟩⟩
  rw [show (0 + j) = j by omega, blk_cell h j]
  simp [hj]
theorem reads_cons {W : World} {b : Nat} {T : TypeId} {l : List P} (h : W.heap[b]? = some (.cells (cellsP l).toArray T (0, 0))) (hl : l.length ≤ 1000) (hi : ∀ p ∈ l, IdsAt W p.2.2 p.2.1) : Reads W (.slice (some ⟨b, 0, none⟩) l.length l.length) (l.map key) := by
  refine ⟨_, l.length, by rw [List.length_map], by rw [List.length_map]; omega, fun j hj => ?_⟩
  have hj' : j < l.length := by simpa using hj
  obtain ⟨c0, c1⟩ := cellsP_at l j hj'
  refine ⟨b, 0, l[j].2.2, rfl, blk_lt h, ?_, ?_, ?_⟩
  · rw [show (0 + j * 2) = j * 2 by omega, blk_cell h]
    simp [c0]
  · rw [show (0 + j * 2 + 1) = j * 2 + 1 by omega, blk_cell h]
    simp [c1]
  · have := hi l[j] (List.getElem_mem hj')
    simpa using this

section
variable {w : World}

/-- The world behind the three rows of ids and the row of matches. -/
abbrev wIn (w : World) (x y z : List Int) (l : List P) (T : TypeId) : World := (((w.alloc (.cells (x.map (Value.int .i64)).toArray 3)).alloc (.cells (y.map (Value.int .i64)).toArray 3)).alloc (.cells (z.map (Value.int .i64)).toArray 3)).alloc (.cells (cellsP l).toArray T)
theorem wIn_below (w : World) (x y z : List Int) (l : List P) (T : TypeId) : Below w.heap.size w (wIn w x y z l T) :=
  (Gr.trans _ _ _ (Gr.trans _ _ _ (Gr.trans _ _ _ (Gr.alloc _ _) (Gr.alloc _ _)) (Gr.alloc _ _)) (Gr.alloc _ _)).below
abbrev pl (n : Nat) (ids : List Int) : Value := .slice (some ⟨n, 0, none⟩) ids.length ids.length
theorem wIn_reads (w : World) (x y z : List Int) (a b c : ByteArray) (T : TypeId) (hx : x.length ≤ 1000) (hy : y.length ≤ 1000) (hz : z.length ≤ 1000) (n0 n1 n2 : Nat) (i0 i1 i2 : List Int)
    (h0 : (n0, i0) ∈ [(w.heap.size, x), (w.heap.size + 1, y), (w.heap.size + 1 + 1, z)]) (h1 : (n1, i1) ∈ [(w.heap.size, x), (w.heap.size + 1, y), (w.heap.size + 1 + 1, z)]) (h2 : (n2, i2) ∈ [(w.heap.size, x), (w.heap.size + 1, y), (w.heap.size + 1 + 1, z)]) :
    Reads (wIn w x y z [(a, i0, pl n0 i0), (b, i1, pl n1 i1), (c, i2, pl n2 i2)] T) (.slice (some ⟨w.heap.size + 1 + 1 + 1, 0, none⟩) 3 3) [(a, i0), (b, i1), (c, i2)] := by
  generalize hl : [(a, i0, pl n0 i0), (b, i1, pl n1 i1), (c, i2, pl n2 i2)] = l
  have p1 : (wIn w x y z l T).heap[w.heap.size]? = some (.cells (x.map (Value.int .i64)).toArray 3 (0, 0)) := blk_alloc (blk_alloc (blk_alloc (blk_new w _ _) _) _) _
  have p2 : (wIn w x y z l T).heap[w.heap.size + 1]? = some (.cells (y.map (Value.int .i64)).toArray 3 (0, 0)) := by
    have := blk_alloc (blk_alloc (blk_new (w.alloc (.cells (x.map (Value.int .i64)).toArray 3)) (y.map (Value.int .i64)).toArray 3) (.cells (z.map (Value.int .i64)).toArray 3)) (.cells (cellsP l).toArray T)
    rw [World.size_alloc] at this
    exact this
  have p3 : (wIn w x y z l T).heap[w.heap.size + 1 + 1]? = some (.cells (z.map (Value.int .i64)).toArray 3 (0, 0)) := by
    have := blk_alloc (blk_new ((w.alloc (.cells (x.map (Value.int .i64)).toArray 3)).alloc (.cells (y.map (Value.int .i64)).toArray 3)) (z.map (Value.int .i64)).toArray 3) (.cells (cellsP l).toArray T)
    rw [World.size_alloc, World.size_alloc] at this
    exact this
  have p4 : (wIn w x y z l T).heap[w.heap.size + 1 + 1 + 1]? = some (.cells (cellsP l).toArray T (0, 0)) := by
    have := blk_new (((w.alloc (.cells (x.map (Value.int .i64)).toArray 3)).alloc (.cells (y.map (Value.int .i64)).toArray 3)).alloc (.cells (z.map (Value.int .i64)).toArray 3)) (cellsP l).toArray T
    rw [World.size_alloc, World.size_alloc, World.size_alloc] at this
    exact this
  have key3 : ∀ (n : Nat) (i : List Int), (n, i) ∈ [(w.heap.size, x), (w.heap.size + 1, y), (w.heap.size + 1 + 1, z)] → IdsAt (wIn w x y z l T) (pl n i) i := by
    intro n i h
    simp only [List.mem_cons, Prod.mk.injEq, List.not_mem_nil, or_false] at h
    rcases h with ⟨rfl, rfl⟩ | ⟨rfl, rfl⟩ | ⟨rfl, rfl⟩
    · exact ids_at p1 hx
    · exact ids_at p2 hy
    · exact ids_at p3 hz
  have := reads_cons (l := l) p4 (by rw [← hl]; simp) (fun p hp => by
    rw [← hl] at hp
    simp only [List.mem_cons, List.not_mem_nil, or_false] at hp
    rcases hp with rfl | rfl | rfl
    · exact key3 _ _ h0
    · exact key3 _ _ h1
    · exact key3 _ _ h2)
  subst hl
  exact this

set_option maxHeartbeats 2000000 in
set_option maxRecDepth 100000 in
theorem awake_walk (hE : Tab w) : Calls Tryd.prog 10 #[] w fun e w' => e = .returned (.bool true) ∧ Below w.heap.size w w' := by
  have hR := wIn_reads w [1, 2] [9] [1] sb sa sb 24 (by decide) (by decide) (by decide) _ _ _ _ _ _ (List.mem_cons_self) (List.mem_cons_of_mem _ List.mem_cons_self) (List.mem_cons_of_mem _ (List.mem_cons_of_mem _ List.mem_cons_self))
  have hB := wIn_below w [1, 2] [9] [1] [(sb, [1, 2], pl w.heap.size [1, 2]), (sa, [9], pl (w.heap.size + 1) [9]), (sb, [1], pl (w.heap.size + 1 + 1) [1])] 24
  have hC := csort_walk hR (by refine ⟨by decide, ?_⟩; intro m hm; simp at hm; rcases hm with rfl | rfl | rfl <;> decide)
  have hsz := hB.size
  have hE1 := Aside.mk (hE.below hB)
  replace hB := Aside.mk hB
  replace hC := Aside.mk hC
  clear hR hE
  go_enter Tryd.func10, Tryd.ntmps10
  go_upto_region 2 with (go_at_call 16; refine hC.out.mono ?_; rintro e w1 ⟨r, l, rfl, hO, hr, hmem, hb1, _⟩; have hO' := Aside.mk hO; replace hr := Aside.mk hr; replace hmem := Aside.mk hmem; obtain ⟨_, _, rfl⟩ := owns_form hO.1; clear hO; replace hb1 := Aside.mk hb1)
  have hl1 : l.map key = L1 := rising_eq hr.out L1_rises (fun x => (hmem.out x).trans (L01 x))
  replace hl1 := Aside.mk hl1
  have hz1 := hb1.out.size
  have hB1 := Aside.mk (hB.out.trans (hb1.out.mono hsz))
  have hE2 := Aside.mk (hE1.out.below hb1.out)
  clear hE1 hB hC hmem hr
  generalize hW0 : wIn w [1, 2] [9] [1] [(sb, [1, 2], pl w.heap.size [1, 2]), (sa, [9], pl (w.heap.size + 1) [9]), (sb, [1], pl (w.heap.size + 1 + 1) [1])] 24 = W0 at *
  clear hW0
  have hA : Gr w1 (w1.alloc (.cells (([1, 2] : List Int).map (Value.int .i64)).toArray 3)) := Gr.alloc _ _
  have hT := text_walk (m := (sb, [1, 2])) (ids_at (blk_new w1 (([1, 2] : List Int).map (Value.int .i64)).toArray 3) (by decide)) (by decide) (by decide) (hE2.out.below hA.below)
  rw [text_ex] at hT
  replace hT := Aside.mk hT
  have hO2 := Aside.mk (hO'.out.below hA.below)
  have hB2 := Aside.mk (hB1.out.trans (hA.below.mono hB1.out.size))
  have hz2 := hA.below.size
  clear hA hO' hB1 hb1 hE2
  go_upto_region 3 with (go_at_call 22; refine hT.out.mono ?_; rintro e w3 ⟨rfl, hb3⟩; replace hb3 := Aside.mk hb3)
  have hO3 := Aside.mk (hO2.out.below hb3.out)
  have hB3 := Aside.mk (hB2.out.trans (hb3.out.mono hB2.out.size))
  have hz3 := hb3.out.size
  clear hO2 hB2 hT hb3
  have hR4 := wIn_reads w3 [9] [1] [1, 2] sa sb sb 31 (by decide) (by decide) (by decide) _ _ _ _ _ _ (List.mem_cons_self) (List.mem_cons_of_mem _ List.mem_cons_self) (List.mem_cons_of_mem _ (List.mem_cons_of_mem _ List.mem_cons_self))
  have hB4 := wIn_below w3 [9] [1] [1, 2] [(sa, [9], pl w3.heap.size [9]), (sb, [1], pl (w3.heap.size + 1) [1]), (sb, [1, 2], pl (w3.heap.size + 1 + 1) [1, 2])] 31
  have hS := lsame_walk (hO3.out.below hB4).reads (by rw [hl1.out]; refine ⟨by decide, ?_⟩; intro m hm; simp [L1] at hm; rcases hm with rfl | rfl | rfl <;> decide) hR4
  rw [hl1.out, show decide (L1 = [(sa, [9]), (sb, [1]), (sb, [1, 2])]) = true from decide_eq_true rfl] at hS
  replace hS := Aside.mk hS
  have hB5 := Aside.mk (hB3.out.trans (hB4.mono hB3.out.size))
  clear hR4 hB4 hO3 hB3
  go_wp2_with (go_at_call 15; refine hS.out.mono ?_; rintro e w5 ⟨rfl, hb5⟩; replace hb5 := Aside.mk hb5)
  go_ret
  exact ⟨rfl, hB5.out.trans (hb5.out.mono hB5.out.size)⟩
end
end Go.Proofs.YtmhpogajklihdaaDoor.C
