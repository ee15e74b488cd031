/- How a triple that came in lies (of the program's type). From a row's listed variables, and a world's shape, to what the walks ask. How names and rules that came in lie. -/
import Derived.Test.YtkbkkceeolclmaaGreatDoorRows
import Derived.ProofKit
import Derived.WideShapes
import Derived.Laws.IdiomArrays
import Derived.HandedShaped
import Derived.MakeChecks
import Derived.Stop.LaidErr
import Derived.Stop.Joined
import Derived.Shelf.Vars
import Derived.LaidMore
import Derived.LaidHandle
import Derived.WalkKit
import Derived.Deep.Slices
import Derived.Laws.LoneSync
import Derived.OpenShut
import Derived.Lib.SmallJoins
import Derived.Test.YtkbkkceeolclmaaGreatDoorQ13
import Derived.Test.YtkbkkceeolclmaaGreatDoorQ35
import Derived.Test.YtkbkkceeolclmaaGreatDoorQ11
import Derived.Test.YtkbkkceeolclmaaGreatDoorQ12
set_option linter.unusedVariables false
set_option linter.unusedSimpArgs false
namespace Go.Proofs.YtkbkkceeolclmaaGreatDoor.X
open Go.ChangeShapes Go.WideShapes Go.ChangeAt Go.RowKit
theorem okWide_array {P : Program} {w : World} {r : Reach} {base : Nat} {t : TypeId} {v : Value} {n : Nat} {e : TypeId} (ht : P.underlying t = some (.array n e)) (h : Value.okWide P w r base t v) : ∃ cs, v = .agg cs ∧ cs.size = P.cellsOf t := by
  simp only [Value.okWide, ht] at h
  obtain ⟨cs, h1, h2, _⟩ := h
  exact ⟨cs, h1, h2⟩
set_option maxRecDepth 100000 in
theorem open_triple {H : Type} {enc : TypeId × Value → H} {W : World} {base : Nat} {sp : Nat → Bool} {held : Bool} {r : Reach} {b0 : Nat} {v : Value} {d : DataW H} {ps : List MemPlace}
    (hv : Value.okWide Tryz.prog W r b0 56 v) (h : DataW.Trod enc Tryz.prog W base sp held 56 v d ps) : ∃ a b c, v = .agg #[.int .i64 a, .int .i64 b, .int .i64 c] := by
  obtain ⟨cs, rfl, hs⟩ := okWide_array Tryz.underlying56 hv
  have hc : Tryz.prog.cellsOf 56 = 3 := by kernel_rfl
  rw [hc] at hs
  obtain ⟨fuel, hf⟩ := h
  obtain ⟨c0, c1, c2, rfl⟩ : ∃ c0 c1 c2, cs = #[c0, c1, c2] := by
    obtain ⟨l⟩ := cs
    match l, hs with
    | [c0, c1, c2], _ => exact ⟨c0, c1, c2, rfl⟩
  obtain ⟨y0, y1, y2, n, _, h0, h1, h2⟩ := trod_array3 Tryz.underlying56 (by kernel_rfl) (show DataW.trod enc Tryz.prog W base sp held fuel 56 [c0, c1, c2] = some (d, ps) from hf)
  obtain ⟨a, ea, _, _⟩ := DataW.trod_int Tryz.underlying3 h0
  obtain ⟨b, eb, _, _⟩ := DataW.trod_int Tryz.underlying3 h1
  obtain ⟨c, ec, _, _⟩ := DataW.trod_int Tryz.underlying3 h2
  simp only [List.cons.injEq, and_true] at ea eb ec
  subst ea eb ec
  exact ⟨a, b, c, rfl⟩
end Go.Proofs.YtkbkkceeolclmaaGreatDoor.X
namespace Go.Proofs.YtkbkkceeolclmaaGreatDoor.X
open Go.RowKit Go.Lib
/-- The builder of the kit, the world's shape kept. -/
theorem returns_shaped {H : Type} {enc : TypeId × Value → H} {a : Assume} {C : Checked} {os : Os} {f : FuncId} {fn : Func} {s : ChangeSpec} {conds : List PathCond} {apart fresh handsOn again : Bool} {X : World → Array Value → Prop}
    (hX : ∀ (w w' : World) (args : Array Value), w.heap = w'.heap → X w args → X w' args)
    (own : ownKnob C.prog.godebug = none) (started : os.Started) (noInit : C.prog.inits.idxOf? f = none) (hfn : C.prog.funcs[f]? = some fn)
    (witness : ∃ (w : World) (tape : Tape) (i : Input), w.os = os ∧ (w.forCall tape i).Shaped C.prog ∧ i.vars = [] ∧ Input.okWide C.prog (w.forCall tape i) .any w.heap.size f i ∧
      ((s.pre enc C.prog fn conds apart (w.forCall tape i).memory i.args ∧ X (w.forCall tape i).memory i.args) ∧ sizedMet enc C.prog fn (OpenSpec.ofChange s) apart (w.forCall tape i).memory i.args) ∧ a.holds C.prog (lone (Frame.enter C.prog f i.args .normal) [] (w.forCall tape i)))
    (contract : ∀ (W : World) (base : Nat) (args : Array Value) (ds gs : List (DataW H)) (before : List MemPlace),
      (∀ (j : Nat) t v, fn.params[j]? = some t → args[j]? = some v → Value.okWide C.prog W .any base t v) →
      DataW.Whole enc C.prog fn.params.toList s.vars apart W args.toList ds gs before → X W args → W.ShapedOpen C.prog →
      Calls C.prog f args W fun e W' => ∃ v, e = .returned v ∧ s.post enc C.prog fn apart fresh handsOn again W args v W') :
    ReturnsInHanded a C os f .any (fun w args => (s.pre enc C.prog fn conds apart w args ∧ X w args) ∧ sizedMet enc C.prog fn (OpenSpec.ofChange s) apart w args) (s.post enc C.prog fn apart fresh handsOn again) := by
  refine returnsInHanded_of_calls own started noInit witness ?_
  intro w tape i _ hsh _ hok hpre _
  obtain ⟨_, _, _, fn', hfn', _, _, _, _, hval⟩ := hok
  have e : fn' = fn := Option.some.inj (hfn'.symm.trans hfn)
  subst e
  obtain ⟨⟨⟨ds, gs, before, hw, _⟩, hx⟩, _⟩ := hpre
  have hw' := DataW.Whole.of_heap (w' := w.forCall tape i) (by rfl) hw
  refine (contract (w.forCall tape i) w.heap.size i.args ds gs before hval hw' (hX _ _ _ (by rfl) hx) hsh).mono fun e W' ⟨v, he, hp⟩ => ?_
  subst he
  exact ChangeSpec.post_blind hp
theorem env_of {W : World} (hL : laidMetH Tryz.prog Rows.textRulesRow.laid W) (hS : W.ShapedOpen Tryz.prog) : Env W := by
  have h : laidMet Tryz.prog Rows.textRulesRow.laid W := by rw [← MakeChecks.laidMetH_plain _ _ _ (by kernel_rfl)]; exact hL
  have h2 : laidMet Tryz.prog (("internal/strconv.uint64pow10", tabData .u64 pow10Tab) :: _) W := h.tail.tail
  refine ⟨tabIs_of_head (g := 1) (by kernel_rfl) (t := 195) (e := 179) (n := 20) (by kernel_rfl) (by kernel_rfl) (by kernel_rfl) (by kernel_rfl) (by kernel_rfl) h2, ?_⟩
  exact Go.Proofs.cell_of_shapedOpen_int (zero := #[.int .i64 0]) (t := 3) hS (of_decide_eq_true (by kernel_rfl)) (by kernel_rfl) rfl (by kernel_rfl) (by kernel_rfl) Tryz.underlying3
/-- The cells of a table. -/
def cellsIn (d : DataW Unit) : Array Value := match d with
  | .agg l => (l.map fun x => match x with
    | .lit (.int k z) => Value.int k z
    | _ => undef).toArray
  | _ => #[]
/-- A start: what the door's run leaves, and the pinned table. -/
noncomputable def start (os : Os) : World :=
  { World.doorLaid Tryz.prog 3000 os with heap := (World.doorLaid Tryz.prog 3000 os).heap.setIfInBounds 2 (.cells (cellsIn Rows.laid_unicode_utf8_first) 200 (0, 0)) }
theorem start_met (os : Os) (args : Array Value) : laidMetH Tryz.prog Rows.textRulesRow.laid ((start os).forCall (fun _ _ => 0) ⟨#[], args, []⟩).memory :=
  laidMetH_of_parts3 (fuel := 8) (laidMet_of_run' 8 (by kernel_rfl) (by kernel_rfl)) (by kernel_rfl) (by kernel_rfl)
theorem start_shaped (os : Os) (args : Array Value) : ((start os).forCall (fun _ _ => 0) ⟨#[], args, []⟩).Shaped Tryz.prog := World.shaped_of_RefB (by kernel_rfl) (by kernel_rfl)
end Go.Proofs.YtkbkkceeolclmaaGreatDoor.X
namespace Go.Proofs.YtkbkkceeolclmaaGreatDoor.X
open Go.RowKit Go.Deep Go.Lib Go.TX Go.Proofs.YtkbkkceeolclmaaGreatDoorW.PrintWords
theorem add_add (a : Addr) (m n : Nat) : (a.add m).add n = a.add (m + n) := by
  unfold Addr.add
  by_cases hm : m = 0
  · subst hm; simp
  · by_cases hn : n = 0
    · subst hn; simp [hm]
    · simp [hm, hn, Nat.add_assoc]
/-- The elements of a slice that came in. -/
theorem open_row {α H : Type} {enc : TypeId × Value → H} {P : Program} {W : World} {base : Nat} {sp : Nat → Bool} {held : Bool} {t e : TypeId} {a : Option Addr} {len cap : Nat} {d : DataW H} {ps : List MemPlace} {size : Nat}
    (R : α → List Value → Prop) (ht : P.underlying t = some (.slice e)) (hc : P.cellsOf e = size) (hdec : ∀ fuel cs y, DataW.trod enc P W base sp held fuel e cs = some y → ∃ x, R x cs)
    (h : DataW.Trod enc P W base sp held t (.slice a len cap) d ps) : ∃ xs : List α, ReadsRow R size W a len xs ∧ len ≤ cap := by
  obtain ⟨fuel, hf⟩ := h
  rcases open_slice ht hf with ⟨hcs, _⟩ | ⟨x, l, c, m, n, D, Pl, hcs, _, hl, hm, hmm, _, hel⟩
  · simp [Value.cells] at hcs
    obtain ⟨rfl, rfl, rfl⟩ := hcs
    exact ⟨[], ⟨rfl, Nat.zero_le _, fun h => absurd h (Nat.lt_irrefl 0)⟩, Nat.le_refl _⟩
  · simp [Value.cells] at hcs
    obtain ⟨rfl, rfl, rfl⟩ := hcs
    have hle : len ≤ m := by rw [hmm]; split <;> omega
    have hg : ∀ i : Nat, ∃ q : Option (α × List Value), i < len → ∃ z cs, q = some (z, cs) ∧ R z cs ∧ W.cells? base (x.add (i * P.cellsOf e)) (P.cellsOf e) = some cs := by
      intro i
      by_cases hi : i < len
      · obtain ⟨cs', h1, h2⟩ := hel i (by omega)
        obtain ⟨z, hz⟩ := hdec _ _ _ h2
        exact ⟨some (z, cs'), fun _ => ⟨z, cs', rfl, hz, h1⟩⟩
      · exact ⟨none, fun h => absurd h hi⟩
    obtain ⟨f, hfn⟩ : ∃ f : Nat → Option (α × List Value), ∀ i, i < len → ∃ z cs, f i = some (z, cs) ∧ R z cs ∧ W.cells? base (x.add (i * P.cellsOf e)) (P.cellsOf e) = some cs := ⟨fun i => (hg i).choose, fun i => (hg i).choose_spec⟩
    have hmap : ∀ n, n ≤ len → ∃ xs : List α, xs.length = n ∧ ∀ j p, xs[j]? = some p → j < n ∧ ∃ cs, f j = some (p, cs) := by
      intro n
      induction n with
      | zero => exact fun _ => ⟨[], rfl, fun j p h => by simp at h⟩
      | succ n ih =>
        intro hn
        obtain ⟨xs, hx, hp⟩ := ih (by omega)
        obtain ⟨z, cs, hz, _⟩ := hfn n (by omega)
        refine ⟨xs ++ [z], by simp [hx], fun j p hj => ?_⟩
        by_cases hjn : j < n
        · rw [List.getElem?_append_left (by omega)] at hj
          exact ⟨by omega, (hp j p hj).2⟩
        · have hj2 := (List.getElem?_eq_some_iff.1 hj).1
          simp [hx] at hj2
          obtain rfl : j = n := by omega
          rw [List.getElem?_append_right (by omega), hx, Nat.sub_self] at hj
          simp at hj
          subst hj
          exact ⟨by omega, cs, hz⟩
    obtain ⟨xs, hx, hp⟩ := hmap len (Nat.le_refl _)
    refine ⟨xs, ⟨hx, by unfold maxLen at hm; omega, fun _ => ⟨x, rfl, fun j p hj => ?_⟩⟩, hl⟩
    obtain ⟨hjl, cs, hfj⟩ := hp j p hj
    obtain ⟨z, cs2, h1, h2, h3⟩ := hfn j hjl
    rw [hfj] at h1
    cases h1
    obtain ⟨_, hcl, hcell⟩ := World.cells?_some h3
    rw [hc] at hcl hcell
    refine ⟨cs, hcl, h2, fun i u hu => ?_⟩
    have hi : i < size := by rw [← hcl]; exact (List.getElem?_eq_some_iff.1 hu).1
    rw [← add_add, hcell i hi, hu]
section
variable {H : Type} {enc : TypeId × Value → H} {W : World} {base : Nat} {sp : Nat → Bool} {held : Bool}
set_option maxRecDepth 100000 in
theorem open_names {A : Option Addr} {n cap : Nat} {d : DataW H} {ps : List MemPlace} (h : DataW.Trod enc Tryz.prog W base sp held 22 (.slice A n cap) d ps) : ∃ inp : List (List UInt8), n = inp.length ∧ inp.length ≤ cap ∧ Kd.C Kd.string W A inp.length (inp.map str) := by
  obtain ⟨xs, hr, hcap⟩ := open_row (size := 1) (fun (x : ByteArray) cs => cs = [Value.string x]) Tryz.underlying22 (by kernel_rfl) (fun fuel cs y h => by
    obtain ⟨s, e, _⟩ := DataW.trod_string Tryz.underlying9 h
    exact ⟨s, e⟩) h
  have hm : (xs.map (·.data.toList)).map str = xs := by rw [List.map_map]; exact (List.map_congr_left (fun x _ => by simp)).trans (List.map_id _)
  have hl := hr.1
  refine ⟨xs.map (·.data.toList), by rw [List.length_map]; exact hl.symm, by rw [List.length_map, hl]; exact hcap, ?_⟩
  rw [hm, List.length_map, hl]
  exact hr
end
end Go.Proofs.YtkbkkceeolclmaaGreatDoor.X
