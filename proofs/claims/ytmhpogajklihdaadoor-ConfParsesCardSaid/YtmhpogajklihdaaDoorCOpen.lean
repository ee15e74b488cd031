/- How a slice that came in lies in memory, element by element, whatever its elements are. A library text of this work, over any program. How matches that came in lie. -/
import Derived.Test.YtmhpogajklihdaaDoorWWords
import Derived.Deep.Slices
import Derived.ProofKit
import Derived.Test.YtmhpogajklihdaaDoorCRow
import Derived.WideShapes
import Derived.Laws.LoneSync
import Derived.OpenShut
import Derived.Lib.SmallJoins
namespace Go.Proofs.YtmhpogajklihdaaDoor.C
open Go.RowKit Go.Deep Go.Proofs.YtmhpogajklihdaaDoorW.PrintWords

theorem add_add (a : Addr) (m n : Nat) : (a.add m).add n = a.add (m + n) := by
  unfold Addr.add
  by_cases hm : m = 0
  · subst hm; simp
  · by_cases hn : n = 0
    · subst hn; simp [hm]
    · simp [hm, hn, Nat.add_assoc]

/-- The elements of a slice that came in. -/
theorem open_row {α H : Type} {enc : TypeId × Value → H} {P : Program} {W : World} {base : Nat} {sp : Nat → Bool} {held : Bool} {t e : TypeId} {a : Option Addr} {len cap : Nat} {d : DataW H} {ps : List MemPlace} {size : Nat}
    (R : α → List Value → Prop) (ht : P.underlying t = some (.slice e)) (hc : P.cellsOf e = size) (hdec : ∀ fuel cs y, DataW.trod enc P W base sp held fuel e cs = some y → ∃ x, R x cs)
    (h : DataW.Trod enc P W base sp held t (.slice a len cap) d ps) : ∃ xs : List α, ReadsRow R size W a len xs ∧ len ≤ cap := by
  obtain ⟨fuel, hf⟩ := h
  rcases open_slice ht hf with ⟨hcs, _⟩ | ⟨x, l, c, m, n, D, Pl, hcs, _, hl, hm, hmm, _, hel⟩
  · simp [Value.cells] at hcs
    obtain ⟨rfl, rfl, rfl⟩ := hcs
    exact ⟨[], ⟨rfl, Nat.zero_le _, fun h => absurd h (Nat.lt_irrefl 0)⟩, Nat.le_refl _⟩
  · simp [Value.cells] at hcs
    obtain ⟨rfl, rfl, rfl⟩ := hcs
    have hle : len ≤ m := by rw [hmm]; split <;> omega
    have hg : ∀ i : Nat, ∃ q : Option (α × List Value), i < len → ∃ z cs, q = some (z, cs) ∧ R z cs ∧ W.cells? base (x.add (i * P.cellsOf e)) (P.cellsOf e) = some cs := by
      intro i
      by_cases hi : i < len
      · obtain ⟨cs', h1, h2⟩ := hel i (by omega)
        obtain ⟨z, hz⟩ := hdec _ _ _ h2
        exact ⟨some (z, cs'), fun _ => ⟨z, cs', rfl, hz, h1⟩⟩
      · exact ⟨none, fun h => absurd h hi⟩
    obtain ⟨f, hfn⟩ : ∃ f : Nat → Option (α × List Value), ∀ i, i < len → ∃ z cs, f i = some (z, cs) ∧ R z cs ∧ W.cells? base (x.add (i * P.cellsOf e)) (P.cellsOf e) = some cs := ⟨fun i => (hg i).choose, fun i => (hg i).choose_spec⟩
    have hmap : ∀ n, n ≤ len → ∃ xs : List α, xs.length = n ∧ ∀ j p, xs[j]? = some p → j < n ∧ ∃ cs, f j = some (p, cs) := by
      intro n
      induction n with
      | zero => exact fun _ => ⟨[], rfl, fun j p h => by simp at h⟩
      | succ n ih =>
        intro hn
        obtain ⟨xs, hx, hp⟩ := ih (by omega)
        obtain ⟨z, cs, hz, _⟩ := hfn n (by omega)
        refine ⟨xs ++ [z], by simp [hx], fun j p hj => ?_⟩
        by_cases hjn : j < n
        · rw [List.getElem?_append_left (by omega)] at hj
          exact ⟨by omega, (hp j p hj).2⟩
        · have hj2 := (List.getElem?_eq_some_iff.1 hj).1
          simp [hx] at hj2
          obtain rfl : j = n := by omega
          rw [List.getElem?_append_right (by omega), hx, Nat.sub_self] at hj
          simp at hj
          subst hj
          exact ⟨by omega, cs, hz⟩
    obtain ⟨xs, hx, hp⟩ := hmap len (Nat.le_refl _)
    refine ⟨xs, ⟨hx, by unfold maxLen at hm; omega, fun _ => ⟨x, rfl, fun j p hj => ?_⟩⟩, hl⟩
    obtain ⟨hjl, cs, hfj⟩ := hp j p hj
    obtain ⟨z, cs2, h1, h2, h3⟩ := hfn j hjl
    rw [hfj] at h1
    cases h1
    obtain ⟨_, hcl, hcell⟩ := World.cells?_some h3
    rw [hc] at hcl hcell
    refine ⟨cs, hcl, h2, fun i u hu => ?_⟩
    have hi : i < size := by rw [← hcl]; exact (List.getElem?_eq_some_iff.1 hu).1
    rw [← add_add, hcell i hi, hu]
end Go.Proofs.YtmhpogajklihdaaDoor.C
namespace Go.Proofs.YtmhpogajklihdaaDoor.C
open Go.RowKit Go.Deep Go.Lib Go.WideShapes Go.Proofs.YtmhpogajklihdaaDoorW.PrintWords

theorem add_off (b o n : Nat) : (⟨b, o, none⟩ : Addr).add n = ⟨b, o + n, none⟩ := by
  unfold Addr.add
  split
  · rename_i e; subst e; rfl
  · rfl
theorem row_at {α : Type} {R : α → List Value → Prop} {size : Nat} {w : World} {A : Option Addr} {n : Nat} {xs : List α} (h : ReadsRow R size w A n xs) (hs : 0 < size) {j : Nat} (hj : j < xs.length) :
    ∃ b o cs, A = some ⟨b, o, none⟩ ∧ b < w.heap.size ∧ cs.length = size ∧ R xs[j] cs ∧ ∀ i u, cs[i]? = some u → w.cell? ⟨b, o + (j * size + i), none⟩ = some u := by
  obtain ⟨h1, _, h2⟩ := h
  obtain ⟨ad, rfl, h3⟩ := h2 (by omega)
  obtain ⟨c0, l0, _, r0⟩ := h3 0 xs[0] (List.getElem?_eq_getElem (by omega))
  obtain ⟨u0, hu0⟩ : ∃ u, c0[0]? = some u := ⟨c0[0], List.getElem?_eq_getElem (by omega)⟩
  have hc := r0 0 u0 hu0
  rw [Nat.zero_mul, Nat.add_zero] at hc
  have hz : ad.add 0 = ad := by unfold Addr.add; simp
  rw [hz] at hc
  obtain ⟨_, _, _, _, hsp⟩ := World.shape?_of_cell? hc
  have hlt := World.block_lt_of_cell? _ _ hc
  obtain ⟨b, o, sp⟩ := ad
  dsimp only at hsp
  subst hsp
  obtain ⟨c, l, r, g⟩ := h3 j xs[j] (List.getElem?_eq_getElem hj)
  refine ⟨b, o, c, rfl, hlt, l, r, fun i u hu => ?_⟩
  have := g i u hu
  rwa [add_off] at this

def isInt (x : Int) (cs : List Value) : Prop := cs = [.int .i64 x]
section
variable {H : Type} {enc : TypeId × Value → H} {W : World} {base : Nat} {sp : Nat → Bool} {held : Bool}
theorem int_dec (fuel : Nat) (cs : List Value) (y : DataW H × List MemPlace) (h : DataW.trod enc Tryd.prog W base sp held fuel 3 cs = some y) : ∃ x, isInt x cs := by
  obtain ⟨a, e, _, _⟩ := DataW.trod_int Tryd.underlying3 h
  exact ⟨a, e⟩
theorem open_ids {A : Option Addr} {n cap : Nat} {d : DataW H} {ps : List MemPlace} (h : DataW.Trod enc Tryd.prog W base sp held 22 (.slice A n cap) d ps) : ∃ ids, n = ids.length ∧ IdsAt W (.slice A n cap) ids := by
  obtain ⟨xs, hr, _⟩ := open_row (size := 1) isInt Tryd.underlying22 (by kernel_rfl) int_dec h
  refine ⟨xs, hr.1.symm, A, cap, by rw [hr.1], by rw [hr.1]; exact hr.2.1, fun j hj => ?_⟩
  obtain ⟨b, o, cs, e, hl, _, hc, hg⟩ := row_at hr (by decide) hj
  refine ⟨b, o, e, hl, ?_⟩
  have := hg 0 (.int .i64 xs[j]) (by rw [hc]; rfl)
  simpa using this
/-- A match, its cells. -/
def isM (W : World) (m : M) (cs : List Value) : Prop := ∃ u, cs = [.string m.1, u] ∧ IdsAt W u m.2
set_option maxRecDepth 100000 in
theorem match_dec (fuel : Nat) (cs : List Value) (y : DataW H × List MemPlace) (h : DataW.trod enc Tryd.prog W base sp held fuel 24 cs = some y) : ∃ x, isM W x cs := by
  obtain ⟨y0, y1, n, _, hl, t0, t1⟩ := Go.ChangeShapes.trod_struct2 Tryd.underlying24 h
  have hc : Tryd.prog.cellsOf 24 = 2 := by kernel_rfl
  have c9 : Tryd.prog.cellsOf 9 = 1 := by kernel_rfl
  have c22 : Tryd.prog.cellsOf 22 = 1 := by kernel_rfl
  rw [hc] at hl
  obtain ⟨k0, k1, rfl⟩ : ∃ k0 k1, cs = [k0, k1] := by
    match cs, hl with
    | [k0, k1], _ => exact ⟨k0, k1, rfl⟩
  simp only [c9, c22, List.drop_zero, List.drop_succ_cons, List.take_succ_cons, List.take_zero] at t0 t1
  obtain ⟨s, es, _, ws⟩ := DataW.trod_string Tryd.underlying9 t0
  simp only [List.cons.injEq, and_true] at es
  subst es
  obtain ⟨A, m, c, rfl⟩ : ∃ A m c, k1 = .slice A m c := by
    rcases open_slice Tryd.underlying22 t1 with ⟨hcs, _⟩ | ⟨x, l, c, m, n, D, Pl, hcs, _⟩
    · simp at hcs
      exact ⟨_, _, _, hcs⟩
    · simp at hcs
      exact ⟨_, _, _, hcs⟩
  obtain ⟨ids, e, hi⟩ := open_ids (enc := enc) (d := y1.1) (ps := y1.2) ⟨n, t1⟩
  exact ⟨(s, ids), _, rfl, hi⟩
theorem open_matches {A : Option Addr} {n cap : Nat} {d : DataW H} {ps : List MemPlace} (h : DataW.Trod enc Tryd.prog W base sp held 26 (.slice A n cap) d ps) : ∃ L : List M, Reads W (.slice A n cap) L := by
  obtain ⟨xs, hr, _⟩ := open_row (size := 2) (isM W) Tryd.underlying26 (by kernel_rfl) match_dec h
  refine ⟨xs, A, cap, by rw [hr.1], by rw [hr.1]; exact hr.2.1, fun j hj => ?_⟩
  obtain ⟨b, o, cs, e, hl, _, ⟨u, hc, hi⟩, hg⟩ := row_at hr (by decide) hj
  refine ⟨b, o, u, e, hl, ?_, ?_, hi⟩
  · have := hg 0 (.string xs[j].1) (by rw [hc]; rfl)
    simpa using this
  · have := hg 1 u (by rw [hc]; rfl)
    rwa [← Nat.add_assoc] at this
theorem open_match {cs : Array Value} {d : DataW H} {ps : List MemPlace} (h : DataW.Trod enc Tryd.prog W base sp held 24 (.agg cs) d ps) : ∃ (m : M) (u : Value), cs = #[.string m.1, u] ∧ IdsAt W u m.2 := by
  obtain ⟨fuel, hf⟩ := h
  obtain ⟨m, u, e, hi⟩ := match_dec fuel _ _ hf
  refine ⟨m, u, ?_, hi⟩
  simp [Value.cells] at e
  cases cs
  simp at e
  rw [e]
end
end Go.Proofs.YtmhpogajklihdaaDoor.C
