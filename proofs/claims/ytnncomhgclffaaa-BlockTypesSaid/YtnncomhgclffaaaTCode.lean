/- Triples as keys of a map. -/
import Derived.Test.YtnncomhgclffaaaLListTA
import Derived.DeepKeys4
namespace Go.Proofs.Ytnncomhgclffaaa.BT
open Go.RowKit Go.Proofs.YtnncomhgclffaaaW.PrintWords Go.Proofs.YtnncomhgclffaaaL Go.Proofs.Ytnncomhgclffaaa.LL Go.Proofs.Ytnncomhgclffaaa.LT

theorem laidOut : laidOutB Try.prog = true := by kernel_rfl
def tri (x : P2) : Value := .agg #[.int .i64 x.1, .int .i64 x.2.1, .int .i64 x.2.2]
def Good (x : P2) : Prop := (Lit.int .i64 x.1).wf = true ∧ (Lit.int .i64 x.2.1).wf = true ∧ (Lit.int .i64 x.2.2).wf = true
theorem key_law : WideMaps.KeyLaw Try.prog 60 := deep_law_laid laidOut (m := 4) (by decide) (of_decide_eq_true (by kernel_rfl)) (by kernel_rfl) (by rw [Try.underlying60])
theorem key_of (x : P2) (h : Good x) : keyOf Try.prog 60 (tri x) = some (.string (keyBytes [.int .i64 x.1, .int .i64 x.2.1, .int .i64 x.2.2])) := by
  obtain ⟨h1, h2, h3⟩ := h
  have hk : Try.prog.keyType 60 = true := by kernel_rfl
  have hc : Try.prog.cellsOf 60 = 3 := by kernel_rfl
  have hc3 : Try.prog.cellsOf 3 = 1 := by kernel_rfl
  obtain ⟨n, hn⟩ : ∃ n, Try.prog.types.size = n + 1 := ⟨Try.prog.types.size - 1, by kernel_rfl⟩
  have hl : Try.prog.keyLits (Try.prog.types.size + 1) 60 (tri x).cells.toList = some [.int .i64 x.1, .int .i64 x.2.1, .int .i64 x.2.2] := by
    rw [hn]
    simp [Program.keyLits, Try.underlying60, Try.underlying3, hc, hc3, tri, Value.cells, h1, h2, h3, List.range_succ]
  have hf : (tri x).formed Try.prog 60 = true := by simp [Value.formed, tri, Try.underlying60, hc]
  unfold keyOf
  rw [Try.underlying60]
  simp only [hk, hl, hf, Bool.and_self, if_true, Option.map_some]
def triCode : KeyCode Try.prog 60 P2 where
  enc := tri
  good := Good
  lit := fun x => .string (keyBytes [.int .i64 x.1, .int .i64 x.2.1, .int .i64 x.2.2])
  keyed := Maps.Keyed.of_law key_law
  of := key_of
  inj := fun x y h => by
    obtain ⟨x1, x2, x3⟩ := x
    obtain ⟨y1, y2, y3⟩ := y
    simp [tri] at h
    obtain ⟨rfl, rfl, rfl⟩ := h
    rfl
end Go.Proofs.Ytnncomhgclffaaa.BT
