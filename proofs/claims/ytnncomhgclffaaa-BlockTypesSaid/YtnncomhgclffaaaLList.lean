/- A list of package list in memory: its links by handles, and what each change of a cell makes of them. A library text of this work. -/
import Derived.Test.YtnncomhgclffaaaProg
import Derived.Test.YtnncomhgclffaaaLMap
import Derived.Test.YtnncomhgclffaaaLPlain
import Derived.Test.YtnncomhgclffaaaWMore
import Derived.Below
import Derived.WalkKit
namespace Go.Proofs.Ytnncomhgclffaaa.LL
open Go.RowKit Go.Proofs.YtnncomhgclffaaaW.PrintWords Go.Proofs.YtnncomhgclffaaaL Go.Proofs.YtnncomhgclffaaaL.Row

def intCode : KeyCode Try.prog 3 Int where
  enc := fun i => .int .i64 i
  good := fun i => (Lit.int .i64 i).wf = true
  lit := fun i => .int .i64 i
  keyed := Maps.int_keyed Try.underlying3
  of := fun _ h => Maps.keyOf_int_mk Try.underlying3 h
  inj := fun _ _ h => by cases h; rfl

def updN (lk : Int → Nat) (h : Int) (b : Nat) : Int → Nat := fun y => if y = h then b else lk y

def linkCells {α : Type} (enc : α → List Value) (x : α) (nx pv : Int) : Array Value := (enc x ++ [Value.int .i64 nx, Value.int .i64 pv]).toArray

/-- The links L (value, next, prev, by handles) of the list whose head lies in block lb; the map is block mb, the link of h is block lk h. -/
structure LIs {α : Type} (enc : α → List Value) (TK TL : TypeId) (w : World) (lb mb : Nat) (lk : Int → Nat) (L : Int → Option (α × Int × Int)) (last : Int) (n : Nat) : Prop where
  head : w.heap[lb]? = some (.cells #[.map (some mb), .int .i64 last] TL (0, 0))
  map : MapIs intCode w mb (fun h => (L h).map (fun _ => .pointer (some ⟨lk h, 0, none⟩))) n
  link : ∀ h x nx pv, L h = some (x, nx, pv) → w.heap[lk h]? = some (.cells (linkCells enc x nx pv) TK (0, 0))
  inj : ∀ h h', (L h).isSome → (L h').isSome → lk h = lk h' → h = h'

section
variable {α : Type} {enc : α → List Value} {TK TL : TypeId} {w W : World} {lb mb : Nat} {lk : Int → Nat} {L : Int → Option (α × Int × Int)} {last : Int} {n : Nat}

theorem linkCells_next {k : Nat} (hk : ∀ x : α, (enc x).length = k) (x : α) (nx pv q : Int) : (linkCells enc x nx pv).setIfInBounds k (.int .i64 q) = linkCells enc x q pv := by
  unfold linkCells
  rw [List.setIfInBounds_toArray, List.set_append_right _ _ (by rw [hk]; exact Nat.le_refl _), hk, Nat.sub_self]
  rfl
theorem linkCells_prev {k : Nat} (hk : ∀ x : α, (enc x).length = k) (x : α) (nx pv q : Int) : (linkCells enc x nx pv).setIfInBounds (k + 1) (.int .i64 q) = linkCells enc x nx q := by
  unfold linkCells
  rw [List.setIfInBounds_toArray, List.set_append_right _ _ (by rw [hk]; omega), hk]
  simp
theorem linkCells_at_next {k : Nat} (hk : ∀ x : α, (enc x).length = k) (x : α) (nx pv : Int) : (linkCells enc x nx pv)[k]? = some (.int .i64 nx) := by
  unfold linkCells
  simp [hk]
theorem linkCells_at_prev {k : Nat} (hk : ∀ x : α, (enc x).length = k) (x : α) (nx pv : Int) : (linkCells enc x nx pv)[k + 1]? = some (.int .i64 pv) := by
  unfold linkCells
  simp [hk]

theorem LIs.head_ne (h : LIs enc TK TL w lb mb lk L last n) (ht : TK ≠ TL) {y : Int} (hy : (L y).isSome) : lk y ≠ lb := by
  obtain ⟨⟨x, nx, pv⟩, e⟩ := Option.isSome_iff_exists.1 hy
  intro he
  have := h.link y x nx pv e
  rw [he, h.head] at this
  injection this with this
  injection this with _ this
  exact ht this.symm
theorem LIs.map_ne_head (h : LIs enc TK TL w lb mb lk L last n) : mb ≠ lb := by
  intro he
  obtain ⟨es, clock, hb, _⟩ := h.map
  rw [he, h.head] at hb
  cases hb
theorem LIs.map_ne_link (h : LIs enc TK TL w lb mb lk L last n) {y : Int} (hy : (L y).isSome) : mb ≠ lk y := by
  obtain ⟨⟨x, nx, pv⟩, e⟩ := Option.isSome_iff_exists.1 hy
  intro he
  obtain ⟨es, clock, hb, _⟩ := h.map
  rw [he, h.link y x nx pv e] at hb
  cases hb

/-- The blocks of the list. -/
def foot (lb mb : Nat) (lk : Int → Nat) (L : Int → Option (α × Int × Int)) (b : Nat) : Prop := b = lb ∨ b = mb ∨ ∃ y, (L y).isSome ∧ b = lk y

theorem LIs.foot_lt (h : LIs enc TK TL w lb mb lk L last n) {b : Nat} (hb : foot lb mb lk L b) : b < w.heap.size := by
  rcases hb with rfl | rfl | ⟨y, hy, rfl⟩
  · exact blk_lt h.head
  · exact h.map.lt
  · obtain ⟨⟨x, nx, pv⟩, e⟩ := Option.isSome_iff_exists.1 hy
    exact blk_lt (h.link y x nx pv e)

/-- The list stays while its blocks stay. -/
theorem LIs.move (h : LIs enc TK TL w lb mb lk L last n) (hk : ∀ b, foot lb mb lk L b → W.heap[b]? = w.heap[b]?) : LIs enc TK TL W lb mb lk L last n :=
  ⟨(hk lb (.inl rfl)).trans h.head, h.map.of_heap (hk mb (.inr (.inl rfl))), fun y x nx pv e => (hk (lk y) (.inr (.inr ⟨y, by rw [e]; rfl, rfl⟩))).trans (h.link y x nx pv e), h.inj⟩
theorem LIs.kept {S : Nat → Prop} (h : LIs enc TK TL w lb mb lk L last n) (hk : Kept w W S) (hS : ∀ b, foot lb mb lk L b → ¬ S b) : LIs enc TK TL W lb mb lk L last n :=
  h.move fun b hb => hk.2 b (h.foot_lt hb) (hS b hb)
theorem LIs.below (h : LIs enc TK TL w lb mb lk L last n) (hk : Below w.heap.size w W) : LIs enc TK TL W lb mb lk L last n :=
  h.move fun b hb => hk.block b (h.foot_lt hb)

/-- 'l.last = q'. -/
theorem LIs.setLast (h : LIs enc TK TL w lb mb lk L last n) (ht : TK ≠ TL) (q : Int) : LIs enc TK TL (w.setCell ⟨lb, 1, none⟩ (.int .i64 q)) lb mb lk L q n :=
  ⟨blk_set h.head 1 _, h.map.of_heap (Below.heap_setCell _ _ _ _ h.map_ne_head), fun y x nx pv e => blk_far (h.link y x nx pv e) (h.head_ne ht (by rw [e]; rfl)) _, h.inj⟩

/-- 'l.links[y].next = q'. -/
theorem LIs.setNext (h : LIs enc TK TL w lb mb lk L last n) (ht : TK ≠ TL) {k : Nat} (hk : ∀ x : α, (enc x).length = k) {y : Int} (hy : (L y).isSome) (q : Int) :
    LIs enc TK TL (w.setCell ⟨lk y, k, none⟩ (.int .i64 q)) lb mb lk (setNext L y q) last n := by
  have hs : ∀ z, (Row.setNext L y q z).isSome = (L z).isSome := fun z => by unfold Row.setNext; split <;> simp
  refine ⟨blk_far h.head (h.head_ne ht hy).symm _, (h.map.of_heap (Below.heap_setCell _ _ _ _ (h.map_ne_link hy))).congr (fun z => ?_), fun z x nx pv e => ?_, fun z z' hz hz' => h.inj z z' (by rw [← hs]; exact hz) (by rw [← hs]; exact hz')⟩
  · unfold Row.setNext; split <;> cases L z <;> rfl
  · unfold Row.setNext at e
    split at e
    · rename_i hzy
      subst hzy
      obtain ⟨⟨x0, n0, p0⟩, e0, e1⟩ := Option.map_eq_some_iff.1 e
      simp only [Prod.mk.injEq] at e1
      obtain ⟨rfl, rfl, rfl⟩ := e1
      rw [← linkCells_next hk x0 n0]
      exact blk_set (h.link z x0 n0 p0 e0) k _
    · rename_i hzy
      exact blk_far (h.link z x nx pv e) (fun e2 => hzy (h.inj z y (by rw [e]; rfl) hy e2)) _

/-- 'l.links[y].prev = q'. -/
theorem LIs.setPrev (h : LIs enc TK TL w lb mb lk L last n) (ht : TK ≠ TL) {k : Nat} (hk : ∀ x : α, (enc x).length = k) {y : Int} (hy : (L y).isSome) (q : Int) :
    LIs enc TK TL (w.setCell ⟨lk y, k + 1, none⟩ (.int .i64 q)) lb mb lk (setPrev L y q) last n := by
  have hs : ∀ z, (Row.setPrev L y q z).isSome = (L z).isSome := fun z => by unfold Row.setPrev; split <;> simp
  refine ⟨blk_far h.head (h.head_ne ht hy).symm _, (h.map.of_heap (Below.heap_setCell _ _ _ _ (h.map_ne_link hy))).congr (fun z => ?_), fun z x nx pv e => ?_, fun z z' hz hz' => h.inj z z' (by rw [← hs]; exact hz) (by rw [← hs]; exact hz')⟩
  · unfold Row.setPrev; split <;> cases L z <;> rfl
  · unfold Row.setPrev at e
    split at e
    · rename_i hzy
      subst hzy
      obtain ⟨⟨x0, n0, p0⟩, e0, e1⟩ := Option.map_eq_some_iff.1 e
      simp only [Prod.mk.injEq] at e1
      obtain ⟨rfl, rfl, rfl⟩ := e1
      rw [← linkCells_prev hk x0 n0 p0]
      exact blk_set (h.link z x0 n0 p0 e0) (k + 1) _
    · rename_i hzy
      exact blk_far (h.link z x nx pv e) (fun e2 => hzy (h.inj z y (by rw [e]; rfl) hy e2)) _

/-- 'l.links[y] = &link{v, nx, pv}': the new block, then the store into the map. -/
theorem LIs.ins (h : LIs enc TK TL w lb mb lk L last n) {y : Int} (hy : L y = none) (v : α) (nx pv : Int)
    (hm : MapIs intCode W mb (mset (fun h => (L h).map (fun _ => Value.pointer (some ⟨lk h, 0, none⟩))) y (some (.pointer (some ⟨w.heap.size, 0, none⟩)))) (n + 1))
    (hnew : W.heap[w.heap.size]? = some (.cells (linkCells enc v nx pv) TK (0, 0))) (hold : ∀ b, b < w.heap.size → b ≠ mb → W.heap[b]? = w.heap[b]?) :
    LIs enc TK TL W lb mb (updN lk y w.heap.size) (ins L y (some (v, nx, pv))) last (n + 1) := by
  refine ⟨(hold lb (blk_lt h.head) h.map_ne_head.symm).trans h.head, hm.congr (fun z => ?_), fun z x n' p' e => ?_, fun z z' hz hz' e => ?_⟩
  · by_cases hz : z = y
    · subst hz; rw [mset_same]; simp [Row.ins, updN]
    · rw [mset_other _ hz]; simp [Row.ins, updN, hz]
  · by_cases hz : z = y
    · subst hz
      simp only [Row.ins, if_true, Option.some.injEq, Prod.mk.injEq] at e
      obtain ⟨rfl, rfl, rfl⟩ := e
      simpa [updN] using hnew
    · simp only [Row.ins, if_neg hz] at e
      simp only [updN, if_neg hz]
      exact (hold _ (blk_lt (h.link z x n' p' e)) (h.map_ne_link (by rw [e]; rfl)).symm).trans (h.link z x n' p' e)
  · have lt : ∀ z, (L z).isSome → lk z < w.heap.size := fun z hz => h.foot_lt (.inr (.inr ⟨z, hz, rfl⟩))
    by_cases h1 : z = y <;> by_cases h2 : z' = y
    · rw [h1, h2]
    · simp only [Row.ins, updN, if_neg h2, if_pos h1] at hz' e
      have := lt z' hz'
      omega
    · simp only [Row.ins, updN, if_neg h1, if_pos h2] at hz e
      have := lt z hz
      omega
    · simp only [Row.ins, updN, if_neg h1, if_neg h2] at hz hz' e
      exact h.inj z z' hz hz' e

/-- 'delete(l.links, y)'. -/
theorem LIs.del (h : LIs enc TK TL w lb mb lk L last n) {y : Int} (hm : MapIs intCode W mb (mset (fun h => (L h).map (fun _ => Value.pointer (some ⟨lk h, 0, none⟩))) y none) (n - 1))
    (hold : ∀ b, b < w.heap.size → b ≠ mb → W.heap[b]? = w.heap[b]?) : LIs enc TK TL W lb mb lk (Row.ins L y none) last (n - 1) := by
  have sub : ∀ z x, Row.ins L y none z = some x → L z = some x := fun z x e => by
    unfold Row.ins at e
    split at e
    · cases e
    · exact e
  have subs : ∀ z, (Row.ins L y none z).isSome → (L z).isSome := fun z hz => by
    obtain ⟨x, e⟩ := Option.isSome_iff_exists.1 hz
    rw [sub z x e]; rfl
  refine ⟨(hold lb (blk_lt h.head) h.map_ne_head.symm).trans h.head, hm.congr (fun z => ?_), fun z x n' p' e => ?_, fun z z' hz hz' e => h.inj z z' (subs z hz) (subs z' hz') e⟩
  · by_cases hz : z = y
    · subst hz; rw [mset_same]; simp [Row.ins]
    · rw [mset_other _ hz]; simp [Row.ins, hz]
  · have e' := sub z _ e
    exact (hold _ (blk_lt (h.link z x n' p' e')) (h.map_ne_link (by rw [e']; rfl)).symm).trans (h.link z x n' p' e')
end
end Go.Proofs.Ytnncomhgclffaaa.LL
