/- How a slice that came in lies in memory, element by element, whatever its elements are. A library text of this work, over any program. -/
import Derived.Test.YtnncomhgclffaaaWWords
import Derived.Deep.Slices
import Derived.ProofKit
namespace Go.Proofs.YtnncomhgclffaaaL
open Go.RowKit Go.Deep Go.Proofs.YtnncomhgclffaaaW.PrintWords

theorem add_add (a : Addr) (m n : Nat) : (a.add m).add n = a.add (m + n) := by
  unfold Addr.add
  by_cases hm : m = 0
  · subst hm; simp
  · by_cases hn : n = 0
    · subst hn; simp [hm]
    · simp [hm, hn, Nat.add_assoc]

/-- The elements of a slice that came in. -/
theorem open_row {α H : Type} {enc : TypeId × Value → H} {P : Program} {W : World} {base : Nat} {sp : Nat → Bool} {held : Bool} {t e : TypeId} {a : Option Addr} {len cap : Nat} {d : DataW H} {ps : List MemPlace} {size : Nat}
    (R : α → List Value → Prop) (ht : P.underlying t = some (.slice e)) (hc : P.cellsOf e = size) (hdec : ∀ fuel cs y, DataW.trod enc P W base sp held fuel e cs = some y → ∃ x, R x cs)
    (h : DataW.Trod enc P W base sp held t (.slice a len cap) d ps) : ∃ xs : List α, ReadsRow R size W a len xs ∧ len ≤ cap := by
  obtain ⟨fuel, hf⟩ := h
  rcases open_slice ht hf with ⟨hcs, _⟩ | ⟨x, l, c, m, n, D, Pl, hcs, _, hl, hm, hmm, _, hel⟩
  · simp [Value.cells] at hcs
    obtain ⟨rfl, rfl, rfl⟩ := hcs
    exact ⟨[], ⟨rfl, Nat.zero_le _, fun h => absurd h (Nat.lt_irrefl 0)⟩, Nat.le_refl _⟩
  · simp [Value.cells] at hcs
    obtain ⟨rfl, rfl, rfl⟩ := hcs
    have hle : len ≤ m := by rw [hmm]; split <;> omega
    have hg : ∀ i : Nat, ∃ q : Option (α × List Value), i < len → ∃ z cs, q = some (z, cs) ∧ R z cs ∧ W.cells? base (x.add (i * P.cellsOf e)) (P.cellsOf e) = some cs := by
      intro i
      by_cases hi : i < len
      · obtain ⟨cs', h1, h2⟩ := hel i (by omega)
        obtain ⟨z, hz⟩ := hdec _ _ _ h2
        exact ⟨some (z, cs'), fun _ => ⟨z, cs', rfl, hz, h1⟩⟩
      · exact ⟨none, fun h => absurd h hi⟩
    obtain ⟨f, hfn⟩ : ∃ f : Nat → Option (α × List Value), ∀ i, i < len → ∃ z cs, f i = some (z, cs) ∧ R z cs ∧ W.cells? base (x.add (i * P.cellsOf e)) (P.cellsOf e) = some cs := ⟨fun i => (hg i).choose, fun i => (hg i).choose_spec⟩
    have hmap : ∀ n, n ≤ len → ∃ xs : List α, xs.length = n ∧ ∀ j p, xs[j]? = some p → j < n ∧ ∃ cs, f j = some (p, cs) := by
      intro n
      induction n with
      | zero => exact fun _ => ⟨[], rfl, fun j p h => by simp at h⟩
      | succ n ih =>
        intro hn
        obtain ⟨xs, hx, hp⟩ := ih (by omega)
        obtain ⟨z, cs, hz, _⟩ := hfn n (by omega)
        refine ⟨xs ++ [z], by simp [hx], fun j p hj => ?_⟩
        by_cases hjn : j < n
        · rw [List.getElem?_append_left (by omega)] at hj
          exact ⟨by omega, (hp j p hj).2⟩
        · have hj2 := (List.getElem?_eq_some_iff.1 hj).1
          simp [hx] at hj2
          obtain rfl : j = n := by omega
          rw [List.getElem?_append_right (by omega), hx, Nat.sub_self] at hj
          simp at hj
          subst hj
          exact ⟨by omega, cs, hz⟩
    obtain ⟨xs, hx, hp⟩ := hmap len (Nat.le_refl _)
    refine ⟨xs, ⟨hx, by unfold maxLen at hm; omega, fun _ => ⟨x, rfl, fun j p hj => ?_⟩⟩, hl⟩
    obtain ⟨hjl, cs, hfj⟩ := hp j p hj
    obtain ⟨z, cs2, h1, h2, h3⟩ := hfn j hjl
    rw [hfj] at h1
    cases h1
    obtain ⟨_, hcl, hcell⟩ := World.cells?_some h3
    rw [hc] at hcl hcell
    refine ⟨cs, hcl, h2, fun i u hu => ?_⟩
    have hi : i < size := by rw [← hcl]; exact (List.getElem?_eq_some_iff.1 hu).1
    rw [← add_add, hcell i hi, hu]
end Go.Proofs.YtnncomhgclffaaaL
