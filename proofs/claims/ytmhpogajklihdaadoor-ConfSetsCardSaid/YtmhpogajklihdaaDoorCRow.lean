/- Lists of matches in memory: such as came in, and such as a call has made. -/
import Derived.Test.YtmhpogajklihdaaDoorCCmp
import Derived.Test.YtmhpogajklihdaaDoorWWords
import Derived.Laws.AppendOwn
import Derived.Maps.AppendAt
namespace Go.Proofs.YtmhpogajklihdaaDoor.C
open Go.RowKit Go.Shelf Go.Lib Go.Sort Go.Proofs.YtmhpogajklihdaaDoorW.PrintWords

section
variable {w W : World} {base b b' : Nat} {e : TypeId} {size n : Nat} {v : Value} {xs : List Value}
theorem owns_form (h : w.ownsRow base e size v n xs) : ∃ a cap, v = .slice a n cap := by
  rcases h.2 with ⟨rfl, rfl⟩ | ⟨g, cap, cur, rfl, _⟩
  · exact ⟨_, _, rfl⟩
  · exact ⟨_, _, rfl⟩
theorem owns_max (h : w.ownsRow base e size v n xs) : n ≤ 9223372036854775807 := by
  rcases h.2 with ⟨_, rfl⟩ | ⟨g, cap, cur, _, _, _, h1, h2, _⟩
  · omega
  · unfold maxLen at h2; omega
theorem owns_form1 (h : w.ownsRow base e size v n xs) (hn : 0 < n) : ∃ g cap, v = .slice (some ⟨g, 0, none⟩) n cap ∧ base ≤ g ∧ g < w.heap.size := by
  rcases h.2 with ⟨rfl, rfl⟩ | ⟨g, cap, cur, rfl, hb, hh, _⟩
  · omega
  · exact ⟨_, _, rfl, hb, (Array.getElem?_eq_some_iff.1 hh).1⟩
theorem owns_move (h : w.ownsRow base e size v n xs) (hk : ∀ b, base ≤ b → b < w.heap.size → v.ownBlock = some b → W.heap[b]? = w.heap[b]?) : W.ownsRow base e size v n xs := by
  refine ⟨h.1, ?_⟩
  rcases h.2 with h2 | ⟨g, cap, cur, rfl, hb, hh, r⟩
  · exact .inl h2
  · exact .inr ⟨g, cap, cur, rfl, hb, (hk g hb (Array.getElem?_eq_some_iff.1 hh).1 rfl).trans hh, r⟩
theorem owns_below (h : w.ownsRow base e size v n xs) (hk : Below w.heap.size w W) : W.ownsRow base e size v n xs := owns_move h (fun b _ hl _ => hk.block b hl)
theorem owns_base (h : W.ownsRow b e size v n xs) (hb : b' ≤ b) : W.ownsRow b' e size v n xs := by
  refine ⟨h.1, ?_⟩
  rcases h.2 with h2 | ⟨g, cap, cur, rfl, hg, r⟩
  · exact .inl h2
  · exact .inr ⟨g, cap, cur, rfl, Nat.le_trans hb hg, r⟩
theorem own_from (h : w.ownsRow base e size v n xs) {k : Nat} (hk : v.ownBlock = some k) : base ≤ k := by
  rcases h.2 with ⟨rfl, _⟩ | ⟨g, cap, cur, rfl, hb, _⟩
  · simp [Value.ownBlock] at hk
  · simp [Value.ownBlock] at hk; omega
theorem cells_new (w : World) (cs : List Value) (t : TypeId) {n : Nat} (hn : n = w.heap.size) : ∀ j u, cs[j]? = some u → (w.alloc (.cells cs.toArray t)).cell? ((⟨n, 0, none⟩ : Addr).add j) = some u := by
  intro j u hj
  subst hn
  have h := blk_cell (blk_new w cs.toArray t) j
  have e : (⟨w.heap.size, 0, none⟩ : Addr).add j = ⟨w.heap.size, j, none⟩ := by
    unfold Addr.add
    split
    · rename_i e; subst e; rfl
    · simp
  rw [e, h]
  simpa using hj
end

/-- A match, with the slice of its ids. -/
abbrev P := ByteArray × List Int × Value
abbrev key (p : P) : M := (p.1, p.2.1)
def cellsP (l : List P) : List Value := l.flatMap fun p => [.string p.1, p.2.2]
theorem cellsP_append (l : List P) (p : P) : cellsP (l ++ [p]) = cellsP l ++ [.string p.1, p.2.2] := by simp [cellsP]
theorem cellsP_at : ∀ (l : List P) (j : Nat) (hj : j < l.length), (cellsP l)[j * 2]? = some (.string l[j].1) ∧ (cellsP l)[j * 2 + 1]? = some l[j].2.2
  | p :: l, 0, _ => ⟨rfl, rfl⟩
  | p :: l, j + 1, hj => by
    have e : cellsP (p :: l) = .string p.1 :: p.2.2 :: cellsP l := rfl
    obtain ⟨h1, h2⟩ := cellsP_at l j (by simpa using hj)
    rw [e]
    have e1 : (j + 1) * 2 = j * 2 + 1 + 1 := by omega
    rw [e1]
    exact ⟨by simpa using h1, by simpa using h2⟩

/-- Ids in a row that the call has made. -/
def IdOwn (W : World) (B : Nat) (u : Value) (ids : List Int) : Prop := W.ownsRow B 3 1 u ids.length (ids.map (Value.int .i64))
/-- Matches in a row that the call has made, each with such ids. -/
def Owns (W : World) (B : Nat) (T : TypeId) (v : Value) (l : List P) : Prop := W.ownsRow B T 2 v l.length (cellsP l) ∧ ∀ p ∈ l, IdOwn W B p.2.2 p.2.1

section
variable {w W : World} {B B' : Nat} {u v : Value} {ids : List Int} {l : List P} {T : TypeId}

theorem IdOwn.below (h : IdOwn w B u ids) (hb : Below w.heap.size w W) : IdOwn W B u ids := owns_below h hb
theorem IdOwn.at_ (h : IdOwn W B u ids) : IdsAt W u ids := by
  have hm := owns_max h
  by_cases h0 : 0 < ids.length
  · obtain ⟨g, cap, rfl, _, hl⟩ := owns_form1 h h0
    refine ⟨_, _, rfl, by omega, fun j hj => ⟨g, 0, rfl, hl, ?_⟩⟩
    have := World.ownsRow.cellAt h j (by omega)
    simpa [hj] using this
  · obtain ⟨A, cap, rfl⟩ := owns_form h
    exact ⟨A, cap, rfl, by omega, fun j hj => absurd hj (by omega)⟩
theorem Owns.below (h : Owns w B T v l) (hb : Below w.heap.size w W) : Owns W B T v l := ⟨owns_below h.1 hb, fun p hp => (h.2 p hp).below hb⟩
theorem Owns.base (h : Owns w B T v l) (hb : B' ≤ B) : Owns w B' T v l := ⟨owns_base h.1 hb, fun p hp => owns_base (h.2 p hp) hb⟩
theorem Owns.nil (W : World) (B : Nat) (T : TypeId) : Owns W B T (.slice none 0 0) [] := ⟨World.ownsRow_nil _ _ _ _, fun p hp => by cases hp⟩

/-- Matches in memory, to be read. -/
def Reads (W : World) (v : Value) (L : List M) : Prop := ∃ A cap, v = .slice A L.length cap ∧ L.length ≤ 9223372036854775807 ∧ ∀ j (_ : j < L.length), ∃ b o u, A = some ⟨b, o, none⟩ ∧ b < W.heap.size ∧ W.cell? ⟨b, o + j * 2, none⟩ = some (.string L[j].1) ∧ W.cell? ⟨b, o + j * 2 + 1, none⟩ = some u ∧ IdsAt W u L[j].2
theorem Reads.below {L : List M} (h : Reads w v L) (hb : Below w.heap.size w W) : Reads W v L := by
  obtain ⟨A, cap, e, hm, h⟩ := h
  refine ⟨A, cap, e, hm, fun j hj => ?_⟩
  obtain ⟨b, o, u, e, hl, h0, h1, h2⟩ := h j hj
  exact ⟨b, o, u, e, Nat.lt_of_lt_of_le hl hb.size, (hb.cell (p := ⟨b, o + j * 2, none⟩) hl).trans h0, (hb.cell (p := ⟨b, o + j * 2 + 1, none⟩) hl).trans h1, h2.below hb⟩
theorem Owns.reads (h : Owns W B T v l) : Reads W v (l.map key) := by
  have hm := owns_max h.1
  by_cases h0 : 0 < l.length
  · obtain ⟨g, cap, rfl, _, hl⟩ := owns_form1 h.1 h0
    refine ⟨_, cap, by rw [List.length_map], by rw [List.length_map]; omega, fun j hj => ?_⟩
    have hj' : j < l.length := by simpa using hj
    obtain ⟨c0, c1⟩ := cellsP_at l j hj'
    have hlen : (cellsP l).length = l.length * 2 := by
      clear h hm h0 hl hj hj' c0 c1
      induction l with
      | nil => rfl
      | cons p l ih =>
        have e : cellsP (p :: l) = .string p.1 :: p.2.2 :: cellsP l := rfl
        rw [e, List.length_cons, List.length_cons, ih, List.length_cons]
        omega
    refine ⟨g, 0, l[j].2.2, rfl, hl, ?_, ?_, ?_⟩
    · have := h.1.cellAt (j * 2) (by omega)
      rw [c0] at this
      simpa using this
    · have := h.1.cellAt (j * 2 + 1) (by omega)
      rw [c1] at this
      simpa [Nat.add_assoc] using this
    · have := IdOwn.at_ (h.2 l[j] (List.getElem_mem hj'))
      simpa using this
  · obtain ⟨A, cap, rfl⟩ := owns_form h.1
    exact ⟨A, cap, by rw [List.length_map], by rw [List.length_map]; omega, fun j hj => absurd hj (by simp; omega)⟩

/-- Behind an append to a row of the call's own. -/
theorem app_below {w1 : World} {e : TypeId} {size n : Nat} {xs : List Value} {o : Obj} (hB : Below w.heap.size w W) (h : W.ownsRow w.heap.size e size v n xs) (hg : (W.alloc o).grownBy w1 v.ownBlock) : Below w.heap.size w w1 :=
  (hB.alloc hB.size o).grown hg (by have := hB.size; simp; omega) (fun _ hk => own_from h hk)
/-- Ids lie on while a row of another type is appended to. -/
theorem IdOwn.far {w1 : World} {e : TypeId} {size n : Nat} {xs : List Value} (h : IdOwn W B u ids) (h2 : W.ownsRow B' e size v n xs) (hne : e ≠ 3) (hg : W.grownBy w1 v.ownBlock) : IdOwn w1 B u ids :=
  owns_move h fun b _ hl hb => hg.block b hl fun e2 => by
    obtain ⟨c1, k1⟩ := own_typed h b hb
    obtain ⟨c2, k2⟩ := own_typed h2 b e2.symm
    rw [k1] at k2
    cases k2
    exact hne rfl
end
end Go.Proofs.YtmhpogajklihdaaDoor.C
