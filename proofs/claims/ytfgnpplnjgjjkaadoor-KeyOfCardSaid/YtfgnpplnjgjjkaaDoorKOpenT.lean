/- How terms that came in lie. -/
import Derived.Test.YtfgnpplnjgjjkaaDoorKOpen
import Derived.ChangeSame
import Derived.ChangeArms
namespace Go.Proofs.YtfgnpplnjgjjkaaDoor.K
open Go.ChangeShapes Go.WideShapes Go.ChangeAt Go.RowKit

theorem open_term {H : Type} {enc : TypeId × Value → H} {W : World} {base : Nat} {sp : Nat → Bool} {held : Bool} {fuel : Nat} {c0 c1 : Value} {x : DataW H × List MemPlace}
    (h : DataW.trod enc Tryd.prog W base sp held fuel 33 [c0, c1] = some x) : ∃ (b : Bool) (n : Int), c0 = .bool b ∧ c1 = .int .i64 n := by
  obtain ⟨y0, y1, n, _, _, h0, h1⟩ := trod_struct2 Tryd.underlying33 h
  obtain ⟨b, eb, _⟩ := DataW.trod_bool Tryd.underlying4 h0
  obtain ⟨a, ea, _, _⟩ := DataW.trod_int Tryd.underlying3 h1
  have e4 : Tryd.prog.cellsOf 4 = 1 := by kernel_rfl
  have e3 : Tryd.prog.cellsOf 3 = 1 := by kernel_rfl
  simp only [e4] at eb
  simp only [e3] at ea
  simp at ea eb
  exact ⟨b, a, eb, ea⟩
set_option maxRecDepth 100000 in
theorem open_terms {H : Type} {enc : TypeId × Value → H} {W : World} {base : Nat} {sp : Nat → Bool} {held : Bool} {r : Reach} {b0 : Nat} {v : Value} {d : DataW H} {ps : List MemPlace}
    (hv : Value.okWide Tryd.prog W r b0 34 v) (h : DataW.Trod enc Tryd.prog W base sp held 34 v d ps) : ∃ (v0 v1 v2 : Bool) (n0 n1 n2 : Int), v = .agg #[.bool v0, .int .i64 n0, .bool v1, .int .i64 n1, .bool v2, .int .i64 n2] := by
  obtain ⟨cs, rfl, hs⟩ := okWide_array Tryd.underlying34 hv
  have hc : Tryd.prog.cellsOf 34 = 6 := by kernel_rfl
  rw [hc] at hs
  obtain ⟨fuel, hf⟩ := h
  obtain ⟨c0, c1, c2, c3, c4, c5, rfl⟩ : ∃ c0 c1 c2 c3 c4 c5, cs = #[c0, c1, c2, c3, c4, c5] := by
    obtain ⟨l⟩ := cs
    match l, hs with
    | [c0, c1, c2, c3, c4, c5], _ => exact ⟨c0, c1, c2, c3, c4, c5, rfl⟩
  cases fuel with
  | zero => simp [DataW.trod] at hf
  | succ fuel =>
  have hf' : DataW.trod enc Tryd.prog W base sp held (fuel + 1) 34 [c0, c1, c2, c3, c4, c5] = some (d, ps) := hf
  have e33 : Tryd.prog.cellsOf 33 = 2 := by kernel_rfl
  simp only [DataW.trod, Tryd.underlying34, e33, hc] at hf'
  split at hf'
  · obtain ⟨xs, hm, _⟩ := Option.map_eq_some_iff.1 hf'
    simp only [List.range_succ, List.range_zero, List.nil_append, List.cons_append, List.mapM_cons, List.mapM_nil, Option.bind_eq_bind, Option.bind_eq_some_iff, Option.pure_def] at hm
    obtain ⟨x0, h0, _, ⟨x1, h1, _, ⟨x2, h2, _⟩, _⟩, _⟩ := hm
    obtain ⟨v0, n0, rfl, rfl⟩ := open_term h0
    obtain ⟨v1, n1, rfl, rfl⟩ := open_term h1
    obtain ⟨v2, n2, rfl, rfl⟩ := open_term h2
    exact ⟨v0, v1, v2, n0, n1, n2, rfl⟩
  · cases hf'
end Go.Proofs.YtfgnpplnjgjjkaaDoor.K
