/- How names and rules that came in lie. -/
import Derived.Deep.Slices
import Derived.ProofKit
import Derived.WideShapes
import Derived.Laws.LoneSync
import Derived.OpenShut
import Derived.Lib.SmallJoins
import Derived.Test.YtkbkkceeolclmaaGreatDoorQ16
import Derived.Test.YtkbkkceeolclmaaGreatDoorQ11
import Derived.Test.YtkbkkceeolclmaaGreatDoorQ14
set_option linter.unusedVariables false
set_option linter.unusedSimpArgs false
namespace Go.Proofs.YtkbkkceeolclmaaGreatDoor.X
open Go.RowKit Go.Deep Go.Lib Go.TX Go.Proofs.YtkbkkceeolclmaaGreatDoorW.PrintWords
theorem add_add (a : Addr) (m n : Nat) : (a.add m).add n = a.add (m + n) := by
  unfold Addr.add
  by_cases hm : m = 0
  · subst hm; simp
  · by_cases hn : n = 0
    · subst hn; simp [hm]
    · simp [hm, hn, Nat.add_assoc]
/-- The elements of a slice that came in. -/
theorem open_row {α H : Type} {enc : TypeId × Value → H} {P : Program} {W : World} {base : Nat} {sp : Nat → Bool} {held : Bool} {t e : TypeId} {a : Option Addr} {len cap : Nat} {d : DataW H} {ps : List MemPlace} {size : Nat}
    (R : α → List Value → Prop) (ht : P.underlying t = some (.slice e)) (hc : P.cellsOf e = size) (hdec : ∀ fuel cs y, DataW.trod enc P W base sp held fuel e cs = some y → ∃ x, R x cs)
    (h : DataW.Trod enc P W base sp held t (.slice a len cap) d ps) : ∃ xs : List α, ReadsRow R size W a len xs ∧ len ≤ cap := by
  obtain ⟨fuel, hf⟩ := h
  rcases open_slice ht hf with ⟨hcs, _⟩ | ⟨x, l, c, m, n, D, Pl, hcs, _, hl, hm, hmm, _, hel⟩
  · simp [Value.cells] at hcs
    obtain ⟨rfl, rfl, rfl⟩ := hcs
    exact ⟨[], ⟨rfl, Nat.zero_le _, fun h => absurd h (Nat.lt_irrefl 0)⟩, Nat.le_refl _⟩
  · simp [Value.cells] at hcs
    obtain ⟨rfl, rfl, rfl⟩ := hcs
    have hle : len ≤ m := by rw [hmm]; split <;> omega
    have hg : ∀ i : Nat, ∃ q : Option (α × List Value), i < len → ∃ z cs, q = some (z, cs) ∧ R z cs ∧ W.cells? base (x.add (i * P.cellsOf e)) (P.cellsOf e) = some cs := by
      intro i
      by_cases hi : i < len
      · obtain ⟨cs', h1, h2⟩ := hel i (by omega)
        obtain ⟨z, hz⟩ := hdec _ _ _ h2
        exact ⟨some (z, cs'), fun _ => ⟨z, cs', rfl, hz, h1⟩⟩
      · exact ⟨none, fun h => absurd h hi⟩
    obtain ⟨f, hfn⟩ : ∃ f : Nat → Option (α × List Value), ∀ i, i < len → ∃ z cs, f i = some (z, cs) ∧ R z cs ∧ W.cells? base (x.add (i * P.cellsOf e)) (P.cellsOf e) = some cs := ⟨fun i => (hg i).choose, fun i => (hg i).choose_spec⟩
    have hmap : ∀ n, n ≤ len → ∃ xs : List α, xs.length = n ∧ ∀ j p, xs[j]? = some p → j < n ∧ ∃ cs, f j = some (p, cs) := by
      intro n
      induction n with
      | zero => exact fun _ => ⟨[], rfl, fun j p h => by simp at h⟩
      | succ n ih =>
        intro hn
        obtain ⟨xs, hx, hp⟩ := ih (by omega)
        obtain ⟨z, cs, hz, _⟩ := hfn n (by omega)
        refine ⟨xs ++ [z], by simp [hx], fun j p hj => ?_⟩
        by_cases hjn : j < n
        · rw [List.getElem?_append_left (by omega)] at hj
          exact ⟨by omega, (hp j p hj).2⟩
        · have hj2 := (List.getElem?_eq_some_iff.1 hj).1
          simp [hx] at hj2
          obtain rfl : j = n := by omega
          rw [List.getElem?_append_right (by omega), hx, Nat.sub_self] at hj
          simp at hj
          subst hj
          exact ⟨by omega, cs, hz⟩
    obtain ⟨xs, hx, hp⟩ := hmap len (Nat.le_refl _)
    refine ⟨xs, ⟨hx, by unfold maxLen at hm; omega, fun _ => ⟨x, rfl, fun j p hj => ?_⟩⟩, hl⟩
    obtain ⟨hjl, cs, hfj⟩ := hp j p hj
    obtain ⟨z, cs2, h1, h2, h3⟩ := hfn j hjl
    rw [hfj] at h1
    cases h1
    obtain ⟨_, hcl, hcell⟩ := World.cells?_some h3
    rw [hc] at hcl hcell
    refine ⟨cs, hcl, h2, fun i u hu => ?_⟩
    have hi : i < size := by rw [← hcl]; exact (List.getElem?_eq_some_iff.1 hu).1
    rw [← add_add, hcell i hi, hu]
section
variable {H : Type} {enc : TypeId × Value → H} {W : World} {base : Nat} {sp : Nat → Bool} {held : Bool}
set_option maxRecDepth 100000 in
theorem term_dec (fuel : Nat) (cs : List Value) (y : DataW H × List MemPlace) (h : DataW.trod enc Tryz.prog W base sp held fuel 69 cs = some y) : ∃ t : Tm, cs = [.bool t.1, .int .i64 t.2] := by
  obtain ⟨y0, y1, n, _, hl, t0, t1⟩ := Go.ChangeShapes.trod_struct2 Tryz.underlying69 h
  have hc : Tryz.prog.cellsOf 69 = 2 := by kernel_rfl
  have c4 : Tryz.prog.cellsOf 4 = 1 := by kernel_rfl
  have c3 : Tryz.prog.cellsOf 3 = 1 := by kernel_rfl
  rw [hc] at hl
  obtain ⟨k0, k1, rfl⟩ : ∃ k0 k1, cs = [k0, k1] := by
    match cs, hl with
    | [k0, k1], _ => exact ⟨k0, k1, rfl⟩
  simp only [c4, c3, List.drop_zero, List.drop_succ_cons, List.take_succ_cons, List.take_zero] at t0 t1
  obtain ⟨b, e0, _⟩ := DataW.trod_bool Tryz.underlying4 t0
  obtain ⟨n, e1, _⟩ := DataW.trod_int Tryz.underlying3 t1
  simp only [List.cons.injEq, and_true] at e0 e1
  subst e0 e1
  exact ⟨(b, n), rfl⟩
set_option maxRecDepth 100000 in
theorem t3_dec (fuel : Nat) (cs : List Value) (y : DataW H × List MemPlace) (h : DataW.trod enc Tryz.prog W base sp held fuel 70 cs = some y) : ∃ a b c : Tm, cs = [.bool a.1, .int .i64 a.2, .bool b.1, .int .i64 b.2, .bool c.1, .int .i64 c.2] := by
  obtain ⟨xs, m, _, _, hl, hx, hf⟩ := DataW.trod_array Tryz.underlying70 h
  have hc : Tryz.prog.cellsOf 70 = 6 := by kernel_rfl
  have c2 : Tryz.prog.cellsOf 69 = 2 := by kernel_rfl
  rw [hc] at hl
  obtain ⟨k0, k1, k2, k3, k4, k5, rfl⟩ : ∃ k0 k1 k2 k3 k4 k5, cs = [k0, k1, k2, k3, k4, k5] := by
    match cs, hl with
    | [k0, k1, k2, k3, k4, k5], _ => exact ⟨k0, k1, k2, k3, k4, k5, rfl⟩
  obtain ⟨x0, x1, x2, rfl⟩ : ∃ x0 x1 x2, xs = [x0, x1, x2] := by
    match xs, hx with
    | [x0, x1, x2], _ => exact ⟨x0, x1, x2, rfl⟩
  have t0 := hf 0 (by decide)
  have t1 := hf 1 (by decide)
  have t2 := hf 2 (by decide)
  simp only [c2, Nat.zero_mul, Nat.one_mul, Nat.reduceMul, List.drop_zero, List.drop_succ_cons, List.take_succ_cons, List.take_zero, List.getElem?_cons_zero, List.getElem?_cons_succ] at t0 t1 t2
  obtain ⟨a, e0⟩ := term_dec _ _ _ t0
  obtain ⟨b, e1⟩ := term_dec _ _ _ t1
  obtain ⟨c, e2⟩ := term_dec _ _ _ t2
  simp only [List.cons.injEq, and_true] at e0 e1 e2
  obtain ⟨rfl, rfl⟩ := e0
  obtain ⟨rfl, rfl⟩ := e1
  obtain ⟨rfl, rfl⟩ := e2
  exact ⟨a, b, c, rfl⟩
theorem repL_of {F : Nat → Prop} {b o : Nat} (hF : F b) (hb : b < W.heap.size) : ∀ (l : List Cd) (j : Nat), (∀ i (hi : i < l.length), ∃ cs, Rep evA W F l[i] cs ∧ ∀ q u, cs[q]? = some u → W.cell? ⟨b, o + (j + i) * 8 + q, none⟩ = some u) → RepL evA W F l (some ⟨b, o, none⟩) j
  | [], _, _ => by unfold RepL; trivial
  | x :: l, j, h => by
    unfold RepL
    obtain ⟨cs, h1, h2⟩ := h 0 (by simp)
    refine ⟨⟨b, o, cs, rfl, hF, hb, h1, fun q u hu => by have := h2 q u hu; rwa [Nat.add_zero] at this⟩, repL_of hF hb l (j + 1) fun i hi => ?_⟩
    obtain ⟨cs, h1, h2⟩ := h (i + 1) (by simpa using hi)
    exact ⟨cs, by simpa using h1, fun q u hu => by rw [show j + 1 + i = j + (i + 1) by omega]; exact h2 q u hu⟩
def CondAt (W : World) (cs : List Value) (x : Cd) : Prop := Rep evA W (fun b => b < W.heap.size) x cs
set_option maxRecDepth 100000 in
theorem conds_of (fuel : Nat) (ih : ∀ m, m < fuel → ∀ cs (y : DataW H × List MemPlace), DataW.trod enc Tryz.prog W base sp held m 72 cs = some y → ∃ x, CondAt W cs x) (cs : List Value) (y : DataW H × List MemPlace) (h : DataW.trod enc Tryz.prog W base sp held fuel 23 cs = some y) :
    ∃ (l : List Cd) (A : Option Addr) (cap : Nat), cs = [.slice A l.length cap] ∧ l.length ≤ 9223372036854775807 ∧ RepL evA W (fun b => b < W.heap.size) l A 0 := by
  rcases DataW.trod_slice Tryz.underlying23 h with ⟨rfl, _⟩ | ⟨a, len, cap, elems, rest, n, hn, rfl, _, _, hl, hm, hel, hx, _⟩
  · exact ⟨[], none, 0, rfl, by simp, by unfold RepL; trivial⟩
  · have hc : Tryz.prog.cellsOf 72 = 8 := by kernel_rfl
    rw [hc] at hx
    have hg : ∀ i, i < len → ∃ x cs', W.cells? base (a.add (i * 8)) 8 = some cs' ∧ CondAt W cs' x := fun i hi => by
      have e := hx i hi
      rw [List.getElem?_eq_getElem (by omega)] at e
      obtain ⟨cs', h1, h2⟩ := Option.bind_eq_some_iff.1 e
      obtain ⟨x, h3⟩ := ih n (by omega) _ _ h2
      exact ⟨x, cs', h1, h3⟩
    by_cases h0 : 0 < len
    · obtain ⟨f, hf⟩ : ∃ f : Nat → Cd, ∀ i, i < len → ∃ cs', W.cells? base (a.add (i * 8)) 8 = some cs' ∧ CondAt W cs' (f i) := ⟨fun i => if hi : i < len then (hg i hi).choose else .mk 0 (false, 0) (false, 0) (false, 0) [], fun i hi => by
        simp only [dif_pos hi]
        exact (hg i hi).choose_spec⟩
      obtain ⟨cs0, q1, q2⟩ := hf 0 h0
      obtain ⟨_, hcl, hcell⟩ := World.cells?_some q1
      have hc0 := hcell 0 (by omega)
      have hz : (a.add (0 * 8)).add 0 = a := by unfold Addr.add; simp
      rw [hz, List.getElem?_eq_getElem (by omega)] at hc0
      obtain ⟨_, _, _, _, hsp⟩ := World.shape?_of_cell? hc0
      have hlt := World.block_lt_of_cell? _ _ hc0
      obtain ⟨b, o, spn⟩ := a
      dsimp only at hsp
      subst hsp
      refine ⟨(List.range len).map f, some ⟨b, o, none⟩, cap, by simp, by unfold maxLen at hm; simp; omega, repL_of (F := fun b => b < W.heap.size) hlt hlt _ 0 fun i hi => ?_⟩
      have hi' : i < len := by simpa using hi
      obtain ⟨cs', q3, q4⟩ := hf i hi'
      obtain ⟨_, hcl', hcell'⟩ := World.cells?_some q3
      refine ⟨cs', by have := q4; unfold CondAt at this; simpa using this, fun q u hu => ?_⟩
      have hq : q < 8 := by rw [← hcl']; exact (List.getElem?_eq_some_iff.1 hu).1
      have := hcell' q hq
      rw [add_off, add_off, hu] at this
      rw [Nat.zero_add]
      exact this
    · obtain rfl : len = 0 := by omega
      exact ⟨[], some a, cap, rfl, by simp, by unfold RepL; trivial⟩
theorem struct3' {P : Program} {t : TypeId} {f0 f1 f2 : Field} {fuel : Nat} {cs : List Value} {x : DataW H × List MemPlace} (ht : P.underlying t = some (.struct #[f0, f1, f2])) (h : DataW.trod enc P W base sp held fuel t cs = some x) :
    ∃ y0 y1 y2 n, fuel = n + 1 ∧ cs.length = P.cellsOf t ∧ DataW.trod enc P W base sp held n f0.type ((cs.drop f0.offset).take (P.cellsOf f0.type)) = some y0 ∧
      DataW.trod enc P W base sp held n f1.type ((cs.drop f1.offset).take (P.cellsOf f1.type)) = some y1 ∧ DataW.trod enc P W base sp held n f2.type ((cs.drop f2.offset).take (P.cellsOf f2.type)) = some y2 := by
  obtain ⟨xs, n, hn, _, hl, hlen, hf⟩ := DataW.trod_struct ht h
  match xs, hlen with
  | [y0, y1, y2], _ => exact ⟨y0, y1, y2, n, hn, hl, by simpa using hf 0 f0 rfl, by simpa using hf 1 f1 rfl, by simpa using hf 2 f2 rfl⟩
set_option maxRecDepth 100000 in
theorem cond_dec : ∀ (fuel : Nat) (cs : List Value) (y : DataW H × List MemPlace), DataW.trod enc Tryz.prog W base sp held fuel 72 cs = some y → ∃ x, CondAt W cs x := by
  intro fuel
  induction fuel using Nat.strongRecOn with
  | _ fuel ih =>
    intro cs y h
    obtain ⟨y0, y1, y2, n, hn, hl, t0, t1, t2⟩ := struct3' Tryz.underlying72 h
    have hc : Tryz.prog.cellsOf 72 = 8 := by kernel_rfl
    have c3 : Tryz.prog.cellsOf 3 = 1 := by kernel_rfl
    have c70 : Tryz.prog.cellsOf 70 = 6 := by kernel_rfl
    have c23 : Tryz.prog.cellsOf 23 = 1 := by kernel_rfl
    rw [hc] at hl
    obtain ⟨k0, k1, k2, k3, k4, k5, k6, k7, rfl⟩ : ∃ k0 k1 k2 k3 k4 k5 k6 k7, cs = [k0, k1, k2, k3, k4, k5, k6, k7] := by
      match cs, hl with
      | [k0, k1, k2, k3, k4, k5, k6, k7], _ => exact ⟨k0, k1, k2, k3, k4, k5, k6, k7, rfl⟩
    simp only [c3, c70, c23, List.drop_zero, List.drop_succ_cons, List.take_succ_cons, List.take_zero] at t0 t1 t2
    obtain ⟨k, e0, _⟩ := DataW.trod_int Tryz.underlying3 t0
    obtain ⟨a, b, c, e1⟩ := t3_dec _ _ _ t1
    obtain ⟨l, A, cap, e2, hll, hr⟩ := conds_of n (fun m hm cs y h => ih m (by omega) cs y h) _ _ t2
    simp only [List.cons.injEq, and_true] at e0 e1 e2
    obtain ⟨rfl, rfl, rfl, rfl, rfl, rfl⟩ := e1
    subst e0 e2
    refine ⟨.mk k a b c l, ?_⟩
    unfold CondAt Rep
    exact ⟨A, cap, hll, rfl, hr⟩
set_option maxRecDepth 100000 in
/-- A rule. -/
theorem open_rule {cs : Array Value} {d : DataW H} {ps : List MemPlace} (h : DataW.Trod enc Tryz.prog W base sp held 25 (.agg cs) d ps) : ∃ (nm : List UInt8) (l : List Cd) (A : Option Addr) (cap : Nat), cs = #[.string (str nm), .slice A l.length cap] ∧ l.length ≤ 9223372036854775807 ∧ RepL evA W (fun b => b < W.heap.size) l A 0 := by
  obtain ⟨fuel, hf⟩ := h
  obtain ⟨y0, y1, n, _, hl, t0, t1⟩ := Go.ChangeShapes.trod_struct2 Tryz.underlying25 hf
  have hc : Tryz.prog.cellsOf 25 = 2 := by kernel_rfl
  have c9 : Tryz.prog.cellsOf 9 = 1 := by kernel_rfl
  have c23 : Tryz.prog.cellsOf 23 = 1 := by kernel_rfl
  rw [hc] at hl
  obtain ⟨L⟩ := cs
  simp only [Value.cells] at hl t0 t1
  obtain ⟨k0, k1, rfl⟩ : ∃ k0 k1, L = [k0, k1] := by
    match L, hl with
    | [k0, k1], _ => exact ⟨k0, k1, rfl⟩
  simp only [c9, c23, List.drop_zero, List.drop_succ_cons, List.take_succ_cons, List.take_zero] at t0 t1
  obtain ⟨s, e0, _⟩ := DataW.trod_string Tryz.underlying9 t0
  obtain ⟨l, A, cap, e1, hll, hr⟩ := conds_of n (fun m _ cs y h => cond_dec m cs y h) _ _ t1
  simp only [List.cons.injEq, and_true] at e0 e1
  subst e0 e1
  exact ⟨s.data.toList, l, A, cap, by rw [str_toList], hll, hr⟩
set_option maxRecDepth 100000 in
theorem open_names {A : Option Addr} {n cap : Nat} {d : DataW H} {ps : List MemPlace} (h : DataW.Trod enc Tryz.prog W base sp held 22 (.slice A n cap) d ps) : ∃ inp : List (List UInt8), n = inp.length ∧ inp.length ≤ cap ∧ Kd.C Kd.string W A inp.length (inp.map str) := by
  obtain ⟨xs, hr, hcap⟩ := open_row (size := 1) (fun (x : ByteArray) cs => cs = [Value.string x]) Tryz.underlying22 (by kernel_rfl) (fun fuel cs y h => by
    obtain ⟨s, e, _⟩ := DataW.trod_string Tryz.underlying9 h
    exact ⟨s, e⟩) h
  have hm : (xs.map (·.data.toList)).map str = xs := by rw [List.map_map]; exact (List.map_congr_left (fun x _ => by simp)).trans (List.map_id _)
  have hl := hr.1
  refine ⟨xs.map (·.data.toList), by rw [List.length_map]; exact hl.symm, by rw [List.length_map, hl]; exact hcap, ?_⟩
  rw [hm, List.length_map, hl]
  exact hr
end
end Go.Proofs.YtkbkkceeolclmaaGreatDoor.X
