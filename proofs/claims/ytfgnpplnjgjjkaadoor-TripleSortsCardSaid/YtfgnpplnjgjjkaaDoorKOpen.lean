/- How a triple that came in lies. -/
import Derived.Test.YtfgnpplnjgjjkaaDoorRows
import Derived.ProofKit
import Derived.WideShapes
import Derived.Laws.IdiomArrays
namespace Go.Proofs.YtfgnpplnjgjjkaaDoor.K
open Go.ChangeShapes Go.WideShapes Go.ChangeAt Go.RowKit

theorem okWide_array {P : Program} {w : World} {r : Reach} {base : Nat} {t : TypeId} {v : Value} {n : Nat} {e : TypeId} (ht : P.underlying t = some (.array n e)) (h : Value.okWide P w r base t v) : ∃ cs, v = .agg cs ∧ cs.size = P.cellsOf t := by
  simp only [Value.okWide, ht] at h
  obtain ⟨cs, h1, h2, _⟩ := h
  exact ⟨cs, h1, h2⟩
set_option maxRecDepth 100000 in
theorem open_triple {H : Type} {enc : TypeId × Value → H} {W : World} {base : Nat} {sp : Nat → Bool} {held : Bool} {r : Reach} {b0 : Nat} {v : Value} {d : DataW H} {ps : List MemPlace}
    (hv : Value.okWide Tryd.prog W r b0 23 v) (h : DataW.Trod enc Tryd.prog W base sp held 23 v d ps) : ∃ a b c, v = .agg #[.int .i64 a, .int .i64 b, .int .i64 c] := by
  obtain ⟨cs, rfl, hs⟩ := okWide_array Tryd.underlying23 hv
  have hc : Tryd.prog.cellsOf 23 = 3 := by kernel_rfl
  rw [hc] at hs
  obtain ⟨fuel, hf⟩ := h
  obtain ⟨c0, c1, c2, rfl⟩ : ∃ c0 c1 c2, cs = #[c0, c1, c2] := by
    obtain ⟨l⟩ := cs
    match l, hs with
    | [c0, c1, c2], _ => exact ⟨c0, c1, c2, rfl⟩
  obtain ⟨y0, y1, y2, n, _, h0, h1, h2⟩ := trod_array3 Tryd.underlying23 (by kernel_rfl) (show DataW.trod enc Tryd.prog W base sp held fuel 23 [c0, c1, c2] = some (d, ps) from hf)
  obtain ⟨a, ea, _, _⟩ := DataW.trod_int Tryd.underlying3 h0
  obtain ⟨b, eb, _, _⟩ := DataW.trod_int Tryd.underlying3 h1
  obtain ⟨c, ec, _, _⟩ := DataW.trod_int Tryd.underlying3 h2
  simp only [List.cons.injEq, and_true] at ea eb ec
  subst ea eb ec
  exact ⟨a, b, c, rfl⟩
end Go.Proofs.YtfgnpplnjgjjkaaDoor.K
