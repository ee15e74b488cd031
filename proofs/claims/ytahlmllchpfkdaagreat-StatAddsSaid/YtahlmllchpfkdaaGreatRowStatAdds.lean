/- The law StatAdds answers true whatever two reports come, and leaves its arguments alone; no conditions. -/
import Derived.Test.YtahlmllchpfkdaaGreatRows
import Derived.Test.YtahlmllchpfkdaaGreatSLaw
import Derived.WalkKit
import Derived.ProofKit
import Derived.OpenShut
import Derived.ShutString
import Derived.ChangeOld
import Derived.Below
import Derived.SizedLaws
import Derived.Lib.SmallJoins
namespace Go.Proofs.YtahlmllchpfkdaaGreat.statAdds
open Go.ChangeShapes Go.WideShapes Go.ChangeAt Go.RowKit
open Go.ChangeMaps (open_string shut_string)
set_option linter.unusedVariables false
theorem own : ownKnob Tryz.prog.godebug = none := by kernel_rfl
theorem laidOut : laidOutB Tryz.prog = true := by kernel_rfl
set_option maxRecDepth 100000 in
theorem rep_open {H : Type} {enc : TypeId × Value → H} {W : World} {base base' : Nat} {sp : Nat → Bool} {held : Bool} {v : Value} {d : DataW H} {p : List MemPlace} (hv : Value.okWide Tryz.prog W .any base 23 v) (h : DataW.Trod enc Tryz.prog W base' sp held 23 v d p) : ∃ a b c d e f g, v = S.rep a b c d e f g := by
  obtain ⟨cs, rfl, hsz⟩ := okWide_struct Tryz.underlying23 hv
  have hC : Tryz.prog.cellsOf 23 = 7 := by kernel_rfl
  have c3 : Tryz.prog.cellsOf 3 = 1 := by kernel_rfl
  rw [hC] at hsz
  obtain ⟨l, rfl⟩ : ∃ l : List Value, cs = l.toArray := ⟨cs.toList, by simp⟩
  obtain ⟨v0, v1, v2, v3, v4, v5, v6, rfl⟩ : ∃ v0 v1 v2 v3 v4 v5 v6, l = [v0, v1, v2, v3, v4, v5, v6] := by
    match l, hsz with
    | [v0, v1, v2, v3, v4, v5, v6], _ => exact ⟨_, _, _, _, _, _, _, rfl⟩
  obtain ⟨fuel, hf⟩ := h
  obtain ⟨xs, n, _, _, _, hxl, hfl⟩ := DataW.trod_struct Tryz.underlying23 hf
  have hxl : xs.length = 7 := hxl
  have at_ : ∀ i, i < 7 → ∃ x, xs[i]? = some x := fun i hi => ⟨_, List.getElem?_eq_getElem (by omega)⟩
  obtain ⟨x0, e0⟩ := at_ 0 (by omega)
  obtain ⟨x1, e1⟩ := at_ 1 (by omega)
  obtain ⟨x2, e2⟩ := at_ 2 (by omega)
  obtain ⟨x3, e3⟩ := at_ 3 (by omega)
  obtain ⟨x4, e4⟩ := at_ 4 (by omega)
  obtain ⟨x5, e5⟩ := at_ 5 (by omega)
  obtain ⟨x6, e6⟩ := at_ 6 (by omega)
  have k0 : DataW.trod enc Tryz.prog W base' sp held n 3 (([v0, v1, v2, v3, v4, v5, v6].drop 0).take (Tryz.prog.cellsOf 3)) = xs[0]? := hfl 0 _ rfl
  have k1 : DataW.trod enc Tryz.prog W base' sp held n 3 (([v0, v1, v2, v3, v4, v5, v6].drop 1).take (Tryz.prog.cellsOf 3)) = xs[1]? := hfl 1 _ rfl
  have k2 : DataW.trod enc Tryz.prog W base' sp held n 3 (([v0, v1, v2, v3, v4, v5, v6].drop 2).take (Tryz.prog.cellsOf 3)) = xs[2]? := hfl 2 _ rfl
  have k3 : DataW.trod enc Tryz.prog W base' sp held n 3 (([v0, v1, v2, v3, v4, v5, v6].drop 3).take (Tryz.prog.cellsOf 3)) = xs[3]? := hfl 3 _ rfl
  have k4 : DataW.trod enc Tryz.prog W base' sp held n 3 (([v0, v1, v2, v3, v4, v5, v6].drop 4).take (Tryz.prog.cellsOf 3)) = xs[4]? := hfl 4 _ rfl
  have k5 : DataW.trod enc Tryz.prog W base' sp held n 3 (([v0, v1, v2, v3, v4, v5, v6].drop 5).take (Tryz.prog.cellsOf 3)) = xs[5]? := hfl 5 _ rfl
  have k6 : DataW.trod enc Tryz.prog W base' sp held n 3 (([v0, v1, v2, v3, v4, v5, v6].drop 6).take (Tryz.prog.cellsOf 3)) = xs[6]? := hfl 6 _ rfl
  simp only [c3, List.drop_zero, List.drop_succ_cons, List.take_succ_cons, List.take_zero, e0, e1, e2, e3, e4, e5, e6] at k0 k1 k2 k3 k4 k5 k6
  obtain ⟨a0, q0, _, _⟩ := DataW.trod_int Tryz.underlying3 k0
  obtain ⟨a1, q1, _, _⟩ := DataW.trod_int Tryz.underlying3 k1
  obtain ⟨a2, q2, _, _⟩ := DataW.trod_int Tryz.underlying3 k2
  obtain ⟨a3, q3, _, _⟩ := DataW.trod_int Tryz.underlying3 k3
  obtain ⟨a4, q4, _, _⟩ := DataW.trod_int Tryz.underlying3 k4
  obtain ⟨a5, q5, _, _⟩ := DataW.trod_int Tryz.underlying3 k5
  obtain ⟨a6, q6, _, _⟩ := DataW.trod_int Tryz.underlying3 k6
  simp only [List.cons.injEq, and_true] at q0 q1 q2 q3 q4 q5 q6
  subst q0 q1 q2 q3 q4 q5 q6
  exact ⟨_, _, _, _, _, _, _, rfl⟩
set_option maxRecDepth 100000 in
theorem lifted (os : Os) (started : os.Started) (H : Type) (enc : TypeId × Value → H) :
    ReturnsInHanded {} Tryz.checked os 3 .any (Rows.statAddsSpec.pre6 enc Tryz.prog Tryz.f3 Rows.statAddsRow.domain false) (Rows.statAddsSpec.post enc Tryz.prog Tryz.f3 false true false false) := by
  refine returnsInHanded_of_change_sized (C := Tryz.checked) own started (by kernel_rfl) Tryz.func3
    (ChangeSpec.witness6 (enc := enc) (C := Tryz.checked) false ⟨#[], #[.agg #[.int .i64 0, .int .i64 0, .int .i64 0, .int .i64 0, .int .i64 0, .int .i64 0, .int .i64 0], .agg #[.int .i64 0, .int .i64 0, .int .i64 0, .int .i64 0, .int .i64 0, .int .i64 0, .int .i64 0]], []⟩ 8 (by kernel_rfl) (by kernel_rfl) (by kernel_rfl) (by kernel_rfl)) ?_
  intro W base args ds gs before hval0 hW hcnd hsz0 _
  have hsz : (DataW.weightsEach Tryz.prog (Tryz.f3.params.toList ++ Rows.statAddsSpec.plain.varTypes Tryz.prog) (ds ++ gs)).all (· ≤ reachBytes) = true := hsz0
  have hval : ∀ (j : Nat) t v, Tryz.f3.params[j]? = some t → args[j]? = some v → Value.okWide Tryz.prog W .any base t v := hval0
  have hW' := hW
  obtain ⟨p, q, hA0, hV, rfl, hfz, hnd⟩ := hW
  have hA : DataW.TrodAll enc Tryz.prog W 0 (fun _ => true) true Tryz.f3.params.toList args.toList ds p := hA0
  rw [Tryz.params3] at hA hval hsz
  obtain ⟨v0, vs0, d0, ds0, p0, q0, hargs, rfl, rfl, h0, r0⟩ := trodAll_cons hA
  obtain ⟨v1, vs1, d1, ds1, p1, q1, rfl, rfl, rfl, h1, r1⟩ := trodAll_cons r0
  obtain ⟨rfl, rfl, rfl⟩ := trodAll_nil r1
  obtain rfl : args = #[v0, v1] := by cases args; simp_all
  obtain ⟨rfl, rfl⟩ := trodVars_none hV
  have k0 := h0
  have lt0 : ∀ x ∈ p0, x.block < W.heap.size := by obtain ⟨m, hm⟩ := k0; exact DataW.trod_lt m _ _ _ hm
  have k1 := h1
  have lt1 : ∀ x ∈ p1, x.block < W.heap.size := by obtain ⟨m, hm⟩ := k1; exact DataW.trod_lt m _ _ _ hm
  obtain ⟨a, b, c, d, e, f, g, rfl⟩ := rep_open (hval 0 23 v0 rfl rfl) h0
  obtain ⟨a', b', c', d', e', f', g', rfl⟩ := rep_open (hval 1 23 v1 rfl rfl) h1
  clear hA0 hval0 hsz0 hsz
  refine (S.adds_walk a b c d e f g a' b' c' d' e' f' g' W).mono fun e W' ⟨he, bel⟩ => ?_
  subst he
  exact ⟨_, rfl, _, _, _, [], _, [], hW', trodAll_mk1 (shut_bool Tryz.underlying4 _), (trodAll_cons_mk (Below.trod laidOut (by kernel_rfl) (of_decide_eq_true (by kernel_rfl)) k0 bel lt0) (trodAll_cons_mk (Below.trod laidOut (by kernel_rfl) (of_decide_eq_true (by kernel_rfl)) k1 bel lt1) trodAll_mk0)), rfl, bel.frame _, fun h => by cases h⟩
theorem over : Rows.statAddsRow.holds Tryz.pinned (OpenSpec.ofChange Rows.statAddsSpec) :=
  OpenClaim.holds_of_wide 3 Tryz.f3 rfl rfl rfl rfl rfl rfl rfl ⟨rfl, rfl, rfl, rfl, rfl⟩ rfl rfl rfl rfl rfl (by kernel_rfl) Tryz.func3 (by kernel_rfl)
    (of_decide_eq_true (by kernel_rfl)) (by unfold Func.isWrapper; first | (rw [if_pos (by decide +kernel)]; kernel_rfl) | (rw [if_neg (by decide +kernel)]; exact ⟨rfl, rfl⟩))
    (fun os started H enc _ => lifted os started H enc)
/-- The statement. -/
theorem proved : Rows.StatAddsSaid := over
#print axioms proved
end Go.Proofs.YtahlmllchpfkdaaGreat.statAdds
