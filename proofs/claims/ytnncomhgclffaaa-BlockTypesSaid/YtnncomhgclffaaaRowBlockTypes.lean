/- The law BlockTypes answers true whatever triples and strings come, and leaves its arguments alone; no conditions. -/
import Derived.Test.YtnncomhgclffaaaRows
import Derived.Test.YtnncomhgclffaaaTLaw
import Derived.Test.YtnncomhgclffaaaLOpen
import Derived.Laws.IdiomArrays
import Derived.WalkKit
import Derived.ProofKit
import Derived.OpenShut
import Derived.ShutString
import Derived.ChangeOld
import Derived.Below
import Derived.SizedLaws
import Derived.Lib.SmallJoins
namespace Go.Proofs.Ytnncomhgclffaaa.blockTypes
open Go.ChangeShapes Go.WideShapes Go.ChangeAt Go.RowKit
open Go.Lib Go.Deep
open Go.ChangeMaps (open_string shut_string)
set_option linter.unusedVariables false
theorem own : ownKnob Try.prog.godebug = none := by kernel_rfl
theorem laidOut : laidOutB Try.prog = true := by kernel_rfl
open Go.Proofs.YtnncomhgclffaaaL
set_option maxRecDepth 100000 in
theorem opDecT {H : Type} {enc : TypeId × Value → H} {W : World} {base : Nat} {sp : Nat → Bool} {held : Bool} (fuel : Nat) (cs : List Value) (y : DataW H × List MemPlace) (h : DataW.trod enc Try.prog W base sp held fuel 60 cs = some y) : ∃ x, BT.opT x cs := by
  have hc : Try.prog.cellsOf 60 = 3 := by kernel_rfl
  have hl : cs.length = 3 := by
    obtain ⟨_, _, _, _, hl, _⟩ := DataW.trod_array Try.underlying60 h
    rw [hc] at hl
    exact hl
  obtain ⟨c0, c1, c2, rfl⟩ : ∃ c0 c1 c2, cs = [c0, c1, c2] := by
    match cs, hl with
    | [c0, c1, c2], _ => exact ⟨c0, c1, c2, rfl⟩
  obtain ⟨y0, y1, y2, n, _, h0, h1, h2⟩ := trod_array3 Try.underlying60 (by kernel_rfl) h
  obtain ⟨a, ea, _, wa⟩ := DataW.trod_int Try.underlying3 h0
  obtain ⟨b, eb, _, wb⟩ := DataW.trod_int Try.underlying3 h1
  obtain ⟨c, ec, _, wc⟩ := DataW.trod_int Try.underlying3 h2
  simp only [List.cons.injEq, and_true] at ea eb ec
  subst ea eb ec
  exact ⟨(a, b, c), rfl, wa, wb, wc⟩
theorem opDecV {H : Type} {enc : TypeId × Value → H} {W : World} {base : Nat} {sp : Nat → Bool} {held : Bool} (fuel : Nat) (cs : List Value) (y : DataW H × List MemPlace) (h : DataW.trod enc Try.prog W base sp held fuel 9 cs = some y) : ∃ x, BT.opV x cs := by
  obtain ⟨a, ea, _, ws⟩ := DataW.trod_string Try.underlying9 h
  exact ⟨a, ea, ws⟩
set_option maxRecDepth 100000 in
theorem lifted (os : Os) (started : os.Started) (H : Type) (enc : TypeId × Value → H) :
    ReturnsInHanded {} Try.checked os 13 .any (Rows.blockTypesSpec.pre6 enc Try.prog Try.f13 Rows.blockTypesRow.domain false) (Rows.blockTypesSpec.post enc Try.prog Try.f13 false true false false) := by
  refine returnsInHanded_of_change_sized (C := Try.checked) own started (by kernel_rfl) Try.func13
    (ChangeSpec.witness6 (enc := enc) (C := Try.checked) false ⟨#[], #[.slice none 0 0, .slice none 0 0], []⟩ 8 (by kernel_rfl) (by kernel_rfl) (by kernel_rfl) (by kernel_rfl)) ?_
  intro W base args ds gs before hval0 hW hcnd hsz0 _
  have hsz : (DataW.weightsEach Try.prog (Try.f13.params.toList ++ Rows.blockTypesSpec.plain.varTypes Try.prog) (ds ++ gs)).all (· ≤ reachBytes) = true := hsz0
  have hval : ∀ (j : Nat) t v, Try.f13.params[j]? = some t → args[j]? = some v → Value.okWide Try.prog W .any base t v := hval0
  have hW' := hW
  obtain ⟨p, q, hA0, hV, rfl, hfz, hnd⟩ := hW
  have hA : DataW.TrodAll enc Try.prog W 0 (fun _ => true) true Try.f13.params.toList args.toList ds p := hA0
  rw [Try.params13] at hA hval hsz
  obtain ⟨v0, vs0, d0, ds0, p0, q0, hargs, rfl, rfl, h0, r0⟩ := trodAll_cons hA
  obtain ⟨v1, vs1, d1, ds1, p1, q1, rfl, rfl, rfl, h1, r1⟩ := trodAll_cons r0
  obtain ⟨rfl, rfl, rfl⟩ := trodAll_nil r1
  obtain rfl : args = #[v0, v1] := by cases args; simp_all
  obtain ⟨rfl, rfl⟩ := trodVars_none hV
  have k0 := h0
  have lt0 : ∀ x ∈ p0, x.block < W.heap.size := by obtain ⟨m, hm⟩ := k0; exact DataW.trod_lt m _ _ _ hm
  have k1 := h1
  have lt1 : ∀ x ∈ p1, x.block < W.heap.size := by obtain ⟨m, hm⟩ := k1; exact DataW.trod_lt m _ _ _ hm
  obtain ⟨a0, len0, cap0, rfl⟩ := okWide_slice Try.underlying102 (hval 0 102 v0 rfl rfl)
  obtain ⟨a1, len1, cap1, rfl⟩ := okWide_slice Try.underlying41 (hval 1 41 v1 rfl rfl)
  obtain ⟨xs, hrx, hcx⟩ := open_row (size := 3) BT.opT Try.underlying102 (by kernel_rfl) opDecT h0
  obtain ⟨ys, hry, hcy⟩ := open_row (size := 1) BT.opV Try.underlying41 (by kernel_rfl) opDecV h1
  clear hA0 hval0 hsz0 hsz
  refine (BT.types_walk a0 a1 len0 cap0 len1 cap1 xs ys W hcx hcy hrx hry).mono fun e W' ⟨he, bel⟩ => ?_
  subst he
  exact ⟨_, rfl, _, _, _, [], _, [], hW', trodAll_mk1 (shut_bool Try.underlying4 _), (trodAll_cons_mk (Below.trod laidOut (by kernel_rfl) (of_decide_eq_true (by kernel_rfl)) k0 bel lt0) (trodAll_cons_mk (Below.trod laidOut (by kernel_rfl) (of_decide_eq_true (by kernel_rfl)) k1 bel lt1) trodAll_mk0)), rfl, bel.frame _, fun h => by cases h⟩
theorem over : Rows.blockTypesRow.holds Try.pinned (OpenSpec.ofChange Rows.blockTypesSpec) :=
  OpenClaim.holds_of_wide 13 Try.f13 rfl rfl rfl rfl rfl rfl rfl ⟨rfl, rfl, rfl, rfl, rfl⟩ rfl rfl rfl rfl rfl (by kernel_rfl) Try.func13 (by kernel_rfl)
    (of_decide_eq_true (by kernel_rfl)) (by unfold Func.isWrapper; first | (rw [if_pos (by decide +kernel)]; kernel_rfl) | (rw [if_neg (by decide +kernel)]; exact ⟨rfl, rfl⟩))
    (fun os started H enc _ => lifted os started H enc)
/-- The statement. -/
theorem proved : Rows.BlockTypesSaid := over
#print axioms proved
end Go.Proofs.Ytnncomhgclffaaa.blockTypes
