/- How matches that came in lie. -/
import Derived.Test.YtmhpogajklihdaaDoorCOpen0
import Derived.Test.YtmhpogajklihdaaDoorCRow
import Derived.WideShapes
import Derived.Laws.LoneSync
import Derived.OpenShut
import Derived.Lib.SmallJoins
namespace Go.Proofs.YtmhpogajklihdaaDoor.C
open Go.RowKit Go.Deep Go.Lib Go.WideShapes Go.Proofs.YtmhpogajklihdaaDoorW.PrintWords

theorem add_off (b o n : Nat) : (⟨b, o, none⟩ : Addr).add n = ⟨b, o + n, none⟩ := by
  unfold Addr.add
  split
  · rename_i e; subst e; rfl
  · rfl
theorem row_at {α : Type} {R : α → List Value → Prop} {size : Nat} {w : World} {A : Option Addr} {n : Nat} {xs : List α} (h : ReadsRow R size w A n xs) (hs : 0 < size) {j : Nat} (hj : j < xs.length) :
    ∃ b o cs, A = some ⟨b, o, none⟩ ∧ b < w.heap.size ∧ cs.length = size ∧ R xs[j] cs ∧ ∀ i u, cs[i]? = some u → w.cell? ⟨b, o + (j * size + i), none⟩ = some u := by
  obtain ⟨h1, _, h2⟩ := h
  obtain ⟨ad, rfl, h3⟩ := h2 (by omega)
  obtain ⟨c0, l0, _, r0⟩ := h3 0 xs[0] (List.getElem?_eq_getElem (by omega))
  obtain ⟨u0, hu0⟩ : ∃ u, c0[0]? = some u := ⟨c0[0], List.getElem?_eq_getElem (by omega)⟩
  have hc := r0 0 u0 hu0
  rw [Nat.zero_mul, Nat.add_zero] at hc
  have hz : ad.add 0 = ad := by unfold Addr.add; simp
  rw [hz] at hc
  obtain ⟨_, _, _, _, hsp⟩ := World.shape?_of_cell? hc
  have hlt := World.block_lt_of_cell? _ _ hc
  obtain ⟨b, o, sp⟩ := ad
  dsimp only at hsp
  subst hsp
  obtain ⟨c, l, r, g⟩ := h3 j xs[j] (List.getElem?_eq_getElem hj)
  refine ⟨b, o, c, rfl, hlt, l, r, fun i u hu => ?_⟩
  have := g i u hu
  rwa [add_off] at this

def isInt (x : Int) (cs : List Value) : Prop := cs = [.int .i64 x]
section
variable {H : Type} {enc : TypeId × Value → H} {W : World} {base : Nat} {sp : Nat → Bool} {held : Bool}
theorem int_dec (fuel : Nat) (cs : List Value) (y : DataW H × List MemPlace) (h : DataW.trod enc Tryd.prog W base sp held fuel 3 cs = some y) : ∃ x, isInt x cs := by
  obtain ⟨a, e, _, _⟩ := DataW.trod_int Tryd.underlying3 h
  exact ⟨a, e⟩
theorem open_ids {A : Option Addr} {n cap : Nat} {d : DataW H} {ps : List MemPlace} (h : DataW.Trod enc Tryd.prog W base sp held 22 (.slice A n cap) d ps) : ∃ ids, n = ids.length ∧ IdsAt W (.slice A n cap) ids := by
  obtain ⟨xs, hr, _⟩ := open_row (size := 1) isInt Tryd.underlying22 (by kernel_rfl) int_dec h
  refine ⟨xs, hr.1.symm, A, cap, by rw [hr.1], by rw [hr.1]; exact hr.2.1, fun j hj => ?_⟩
  obtain ⟨b, o, cs, e, hl, _, hc, hg⟩ := row_at hr (by decide) hj
  refine ⟨b, o, e, hl, ?_⟩
  have := hg 0 (.int .i64 xs[j]) (by rw [hc]; rfl)
  simpa using this
/-- A match, its cells. -/
def isM (W : World) (m : M) (cs : List Value) : Prop := ∃ u, cs = [.string m.1, u] ∧ IdsAt W u m.2
set_option maxRecDepth 100000 in
theorem match_dec (fuel : Nat) (cs : List Value) (y : DataW H × List MemPlace) (h : DataW.trod enc Tryd.prog W base sp held fuel 24 cs = some y) : ∃ x, isM W x cs := by
  obtain ⟨y0, y1, n, _, hl, t0, t1⟩ := Go.ChangeShapes.trod_struct2 Tryd.underlying24 h
  have hc : Tryd.prog.cellsOf 24 = 2 := by kernel_rfl
  have c9 : Tryd.prog.cellsOf 9 = 1 := by kernel_rfl
  have c22 : Tryd.prog.cellsOf 22 = 1 := by kernel_rfl
  rw [hc] at hl
  obtain ⟨k0, k1, rfl⟩ : ∃ k0 k1, cs = [k0, k1] := by
    match cs, hl with
    | [k0, k1], _ => exact ⟨k0, k1, rfl⟩
  simp only [c9, c22, List.drop_zero, List.drop_succ_cons, List.take_succ_cons, List.take_zero] at t0 t1
  obtain ⟨s, es, _, ws⟩ := DataW.trod_string Tryd.underlying9 t0
  simp only [List.cons.injEq, and_true] at es
  subst es
  obtain ⟨A, m, c, rfl⟩ : ∃ A m c, k1 = .slice A m c := by
    rcases open_slice Tryd.underlying22 t1 with ⟨hcs, _⟩ | ⟨x, l, c, m, n, D, Pl, hcs, _⟩
    · simp at hcs
      exact ⟨_, _, _, hcs⟩
    · simp at hcs
      exact ⟨_, _, _, hcs⟩
  obtain ⟨ids, e, hi⟩ := open_ids (enc := enc) (d := y1.1) (ps := y1.2) ⟨n, t1⟩
  exact ⟨(s, ids), _, rfl, hi⟩
theorem open_matches {A : Option Addr} {n cap : Nat} {d : DataW H} {ps : List MemPlace} (h : DataW.Trod enc Tryd.prog W base sp held 26 (.slice A n cap) d ps) : ∃ L : List M, Reads W (.slice A n cap) L := by
  obtain ⟨xs, hr, _⟩ := open_row (size := 2) (isM W) Tryd.underlying26 (by kernel_rfl) match_dec h
  refine ⟨xs, A, cap, by rw [hr.1], by rw [hr.1]; exact hr.2.1, fun j hj => ?_⟩
  obtain ⟨b, o, cs, e, hl, _, ⟨u, hc, hi⟩, hg⟩ := row_at hr (by decide) hj
  refine ⟨b, o, u, e, hl, ?_, ?_, hi⟩
  · have := hg 0 (.string xs[j].1) (by rw [hc]; rfl)
    simpa using this
  · have := hg 1 u (by rw [hc]; rfl)
    rwa [← Nat.add_assoc] at this
theorem open_match {cs : Array Value} {d : DataW H} {ps : List MemPlace} (h : DataW.Trod enc Tryd.prog W base sp held 24 (.agg cs) d ps) : ∃ (m : M) (u : Value), cs = #[.string m.1, u] ∧ IdsAt W u m.2 := by
  obtain ⟨fuel, hf⟩ := h
  obtain ⟨m, u, e, hi⟩ := match_dec fuel _ _ hf
  refine ⟨m, u, ?_, hi⟩
  simp [Value.cells] at e
  cases cs
  simp at e
  rw [e]
end
end Go.Proofs.YtmhpogajklihdaaDoor.C
