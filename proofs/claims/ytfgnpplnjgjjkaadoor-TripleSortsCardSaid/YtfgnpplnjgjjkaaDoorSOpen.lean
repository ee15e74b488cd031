/- How triples that came in lie. -/
import Derived.Test.YtfgnpplnjgjjkaaDoorSOpen0
import Derived.Test.YtfgnpplnjgjjkaaDoorSIter
import Derived.Test.YtfgnpplnjgjjkaaDoorKOpen
import Derived.WideShapes
import Derived.Laws.LoneSync
import Derived.OpenShut
import Derived.Lib.SmallJoins
namespace Go.Proofs.YtfgnpplnjgjjkaaDoor.T
open Go.RowKit Go.Deep Go.Lib Go.WideShapes Go.ChangeShapes Go.ChangeAt Go.Proofs.YtfgnpplnjgjjkaaDoorW.PrintWords

theorem add_off (b o n : Nat) : (⟨b, o, none⟩ : Addr).add n = ⟨b, o + n, none⟩ := by
  unfold Addr.add
  split
  · rename_i e; subst e; rfl
  · rfl
theorem row_at {α : Type} {R : α → List Value → Prop} {size : Nat} {w : World} {A : Option Addr} {n : Nat} {xs : List α} (h : ReadsRow R size w A n xs) (hs : 0 < size) {j : Nat} (hj : j < xs.length) :
    ∃ b o cs, A = some ⟨b, o, none⟩ ∧ b < w.heap.size ∧ cs.length = size ∧ R xs[j] cs ∧ ∀ i u, cs[i]? = some u → w.cell? ⟨b, o + (j * size + i), none⟩ = some u := by
  obtain ⟨h1, _, h2⟩ := h
  obtain ⟨ad, rfl, h3⟩ := h2 (by omega)
  obtain ⟨c0, l0, _, r0⟩ := h3 0 xs[0] (List.getElem?_eq_getElem (by omega))
  obtain ⟨u0, hu0⟩ : ∃ u, c0[0]? = some u := ⟨c0[0], List.getElem?_eq_getElem (by omega)⟩
  have hc := r0 0 u0 hu0
  rw [Nat.zero_mul, Nat.add_zero] at hc
  have hz : ad.add 0 = ad := by unfold Addr.add; simp
  rw [hz] at hc
  obtain ⟨_, _, _, _, hsp⟩ := World.shape?_of_cell? hc
  have hlt := World.block_lt_of_cell? _ _ hc
  obtain ⟨b, o, sp⟩ := ad
  dsimp only at hsp
  subst hsp
  obtain ⟨c, l, r, g⟩ := h3 j xs[j] (List.getElem?_eq_getElem hj)
  refine ⟨b, o, c, rfl, hlt, l, r, fun i u hu => ?_⟩
  have := g i u hu
  rwa [add_off] at this

def isT (x : Tr) (cs : List Value) : Prop := cs = cs3 x
section
variable {H : Type} {enc : TypeId × Value → H} {W : World} {base : Nat} {sp : Nat → Bool} {held : Bool}
set_option maxRecDepth 100000 in
theorem tr_dec (fuel : Nat) (cs : List Value) (y : DataW H × List MemPlace) (h : DataW.trod enc Tryd.prog W base sp held fuel 23 cs = some y) : ∃ x, isT x cs := by
  have hc : Tryd.prog.cellsOf 23 = 3 := by kernel_rfl
  have hl : cs.length = 3 := by
    obtain ⟨_, _, _, _, hl, _⟩ := DataW.trod_array Tryd.underlying23 h
    rw [hc] at hl
    exact hl
  obtain ⟨c0, c1, c2, rfl⟩ : ∃ c0 c1 c2, cs = [c0, c1, c2] := by
    match cs, hl with
    | [c0, c1, c2], _ => exact ⟨c0, c1, c2, rfl⟩
  obtain ⟨y0, y1, y2, n, _, h0, h1, h2⟩ := trod_array3 Tryd.underlying23 (by kernel_rfl) h
  obtain ⟨a, ea, _, _⟩ := DataW.trod_int Tryd.underlying3 h0
  obtain ⟨b, eb, _, _⟩ := DataW.trod_int Tryd.underlying3 h1
  obtain ⟨c, ec, _, _⟩ := DataW.trod_int Tryd.underlying3 h2
  simp only [List.cons.injEq, and_true] at ea eb ec
  subst ea eb ec
  exact ⟨(a, b, c), rfl⟩
theorem open_triples {A : Option Addr} {n cap : Nat} {d : DataW H} {ps : List MemPlace} (h : DataW.Trod enc Tryd.prog W base sp held 27 (.slice A n cap) d ps) : ∃ l : List Tr, n = l.length ∧ RT W.heap.size W (.slice A n cap) l := by
  obtain ⟨xs, hr, _⟩ := open_row (size := 3) isT Tryd.underlying27 (by kernel_rfl) tr_dec h
  refine ⟨xs, hr.1.symm, A, cap, by rw [hr.1], by rw [hr.1]; exact hr.2.1, fun j hj => ?_⟩
  obtain ⟨b, o, cs, e, hl, _, hc, hg⟩ := row_at hr (by decide) hj
  refine ⟨b, o, e, hl, hl, ?_, ?_, ?_⟩
  · have := hg 0 (.int .i64 xs[j].1) (by rw [hc]; rfl)
    simpa using this
  · have := hg 1 (.int .i64 xs[j].2.1) (by rw [hc]; rfl)
    rwa [← Nat.add_assoc] at this
  · have := hg 2 (.int .i64 xs[j].2.2) (by rw [hc]; rfl)
    rwa [← Nat.add_assoc] at this
end
end Go.Proofs.YtfgnpplnjgjjkaaDoor.T
