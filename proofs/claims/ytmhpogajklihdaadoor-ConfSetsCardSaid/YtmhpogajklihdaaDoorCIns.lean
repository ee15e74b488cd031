/- A match put into a row that rises: plain; and rows of the document whose ids lie where they lay. -/
import Derived.Test.YtmhpogajklihdaaDoorCRSame
namespace Go.Proofs.YtmhpogajklihdaaDoor.C
open Go.RowKit Go.Shelf Go.Lib Go.Sort Go.Proofs.YtmhpogajklihdaaDoorW.PrintWords

def ins (x : P) : List P → List P
  | [] => [x]
  | y :: l => if ltM (key x) (key y) then x :: y :: l else y :: ins x l
theorem ins_skip (x : P) : ∀ (l : List P) (j : Nat), j ≤ l.length → (∀ t (_ : t < l.length), t < j → ¬ ltM (key x) (key l[t])) → ins x l = l.take j ++ ins x (l.drop j)
  | _, 0, _, _ => rfl
  | [], j + 1, h, _ => by simp at h
  | y :: l, j + 1, h, hn => by
    have h0 : ¬ ltM (key x) (key y) := hn 0 (by simp) (by omega)
    have ih := ins_skip x l j (by simpa using h) fun t ht hj => by
      have := hn (t + 1) (by simpa using ht) (by omega)
      simpa using this
    show (if _ then _ else _) = _
    rw [if_neg h0, ih]
    rfl
theorem ins_mem (x p : P) : ∀ l : List P, p ∈ ins x l ↔ p = x ∨ p ∈ l
  | [] => by simp [ins]
  | y :: l => by
    have ih := ins_mem x p l
    unfold ins
    split
    · simp
    · rw [List.mem_cons, ih, List.mem_cons]
      constructor
      · rintro (h | h | h)
        · exact .inr (.inl h)
        · exact .inl h
        · exact .inr (.inr h)
      · rintro (h | h | h)
        · exact .inr (.inl h)
        · exact .inl h
        · exact .inr (.inr h)
theorem ins_rises (x : P) : ∀ l : List P, Rising (l.map key) → key x ∉ l.map key → Rising ((ins x l).map key)
  | [], _, _ => by simp [ins, Rising]
  | y :: l, h, hn => by
    rw [List.map_cons] at h hn
    obtain ⟨h1, h2⟩ := List.pairwise_cons.1 h
    have hne : key x ≠ key y := fun e => hn (by rw [e]; simp)
    have hn2 : key x ∉ l.map key := fun e => hn (List.mem_cons_of_mem _ e)
    unfold ins
    split
    · rename_i q
      rw [List.map_cons, List.map_cons]
      refine List.pairwise_cons.2 ⟨fun z hz => ?_, h⟩
      rcases List.mem_cons.1 hz with e | hz
      · rw [e]; exact q
      · exact cmpM_trans q (h1 z hz)
    · rename_i q
      rw [List.map_cons]
      refine List.pairwise_cons.2 ⟨fun z hz => ?_, ins_rises x l h2 hn2⟩
      obtain ⟨p, hp, rfl⟩ := List.mem_map.1 hz
      rcases (ins_mem x p l).1 hp with e | hp
      · rw [e]
        exact (ltM_total hne).resolve_left q
      · exact h1 _ (List.mem_map_of_mem hp)
theorem ins_keys (x : P) (l : List P) (z : M) : z ∈ (ins x l).map key ↔ z = key x ∨ z ∈ l.map key := by
  constructor
  · intro h
    obtain ⟨p, hp, rfl⟩ := List.mem_map.1 h
    rcases (ins_mem x p l).1 hp with e | hp
    · exact .inl (by rw [e])
    · exact .inr (List.mem_map_of_mem hp)
  · rintro (rfl | h)
    · exact List.mem_map_of_mem ((ins_mem x x l).2 (.inl rfl))
    · obtain ⟨p, hp, rfl⟩ := List.mem_map.1 h
      exact List.mem_map_of_mem ((ins_mem x p l).2 (.inr hp))
theorem ins_len (x : P) : ∀ l : List P, (ins x l).length = l.length + 1
  | [] => rfl
  | y :: l => by
    have ih := ins_len x l
    unfold ins
    split
    · rfl
    · rw [List.length_cons, ih, List.length_cons]

/-- A row of the call's own, whose ids lie where they lay in w0. -/
def Refs (w0 W : World) (v : Value) (l : List P) : Prop := W.ownsRow w0.heap.size 31 2 v l.length (cellsP l) ∧ ∀ p ∈ l, IdsAt w0 p.2.2 p.2.1

section
variable {w0 w W : World} {v : Value} {l : List P}
theorem Refs.nil (w0 W : World) : Refs w0 W (.slice none 0 0) [] := ⟨World.ownsRow_nil _ _ _ _, fun p hp => by cases hp⟩
theorem Refs.below (h : Refs w0 w v l) (hb : Below w.heap.size w W) : Refs w0 W v l := ⟨owns_below h.1 hb, h.2⟩
theorem Refs.reads (h : Refs w0 W v l) (hw : Below w0.heap.size w0 W) : Reads W v (l.map key) := by
  have hm := owns_max h.1
  by_cases h0 : 0 < l.length
  · obtain ⟨g, cap, rfl, _, hl⟩ := owns_form1 h.1 h0
    refine ⟨_, cap, by rw [List.length_map], by rw [List.length_map]; omega, fun j hj => ?_⟩
    have hj' : j < l.length := by simpa using hj
    obtain ⟨c0, c1⟩ := cellsP_at l j hj'
    have hlen := cellsP_len l
    refine ⟨g, 0, l[j].2.2, rfl, hl, ?_, ?_, ?_⟩
    · have := h.1.cellAt (j * 2) (by omega)
      rw [c0] at this
      simpa using this
    · have := h.1.cellAt (j * 2 + 1) (by omega)
      rw [c1] at this
      simpa [Nat.add_assoc] using this
    · have := (h.2 l[j] (List.getElem_mem hj')).below hw
      simpa using this
  · obtain ⟨A, cap, rfl⟩ := owns_form h.1
    exact ⟨A, cap, by rw [List.length_map], by rw [List.length_map]; omega, fun j hj => absurd hj (by simp; omega)⟩
end
end Go.Proofs.YtmhpogajklihdaaDoor.C
