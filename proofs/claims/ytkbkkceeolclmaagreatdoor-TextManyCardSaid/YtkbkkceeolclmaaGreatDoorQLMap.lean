/- Maps in memory, by a function from keys to values: what a look-up answers, what a store, a delete and a len leave. A library text of this work, over any program -/
import Derived.Maps.OwnSet
import Derived.Maps.Own
import Derived.Maps.OwnOps
import Derived.Maps.Keyed
import Derived.WalkKit
set_option linter.unusedVariables false
set_option linter.unusedSimpArgs false
namespace Go.Proofs.YtkbkkceeolclmaaGreatDoorL
open Go.RowKit Go.Maps Go.MapKept
open Go.ChangeMaps (setBlock heap_setBlock_same heap_setBlock_other)
/-- From w to w' nothing has changed but the blocks of S, and what is new. -/
structure Ch (w w' : World) (S : Nat → Prop) : Prop where
  os : w'.os = w.os
  tape : w'.tape = w.tape
  output : w'.output = w.output
  size : w.heap.size ≤ w'.heap.size
  block : ∀ k, k < w.heap.size → ¬ S k → w'.heap[k]? = w.heap[k]?
theorem Ch.refl (w : World) (S : Nat → Prop) : Ch w w S := ⟨rfl, rfl, rfl, Nat.le_refl _, fun _ _ _ => rfl⟩
theorem Ch.mono {w w' : World} {S S' : Nat → Prop} (h : Ch w w' S) (hs : ∀ k, S k → S' k) : Ch w w' S' := ⟨h.os, h.tape, h.output, h.size, fun k hk hn => h.block k hk (fun e => hn (hs k e))⟩
theorem Ch.then {w w1 w2 : World} {S S2 : Nat → Prop} (h : Ch w w1 S) (k : Ch w1 w2 S2) (hs : ∀ b, b < w.heap.size → S2 b → S b) : Ch w w2 S :=
  ⟨k.os.trans h.os, k.tape.trans h.tape, k.output.trans h.output, Nat.le_trans h.size k.size, fun b hb hn => (k.block b (Nat.lt_of_lt_of_le hb h.size) (fun e => hn (hs b hb e))).trans (h.block b hb hn)⟩
theorem Ch.of_below {w w' : World} (h : Below w.heap.size w w') (S : Nat → Prop) : Ch w w' S := ⟨h.os, h.tape, h.output, h.size, fun k hk _ => h.block k hk⟩
theorem Ch.below {w0 w w' : World} {S : Nat → Prop} {B : Nat} (h : Ch w w' S) (hb : Below B w0 w) (hB : B ≤ w.heap.size) (hs : ∀ b, S b → B ≤ b) : Below B w0 w' :=
  hb.trans ⟨h.os, h.tape, h.output, h.size, fun k hk => h.block k (Nat.lt_of_lt_of_le hk hB) (fun e => by have := hs k e; omega)⟩
theorem Ch.drew {w w' : World} {S : Nat → Prop} (h : Ch w w' S) : Ch w w'.drew S := ⟨h.os, h.tape, h.output, h.size, h.block⟩
theorem Ch.alloc {w w' : World} {S : Nat → Prop} (h : Ch w w' S) (o : Obj) : Ch w (w'.alloc o) S :=
  h.then (S2 := fun _ => False) (Ch.of_below ((Below.refl _ _).alloc (Nat.le_refl _) o) _) (fun _ _ h => h.elim)
theorem Ch.setCell {w w' : World} {S : Nat → Prop} (h : Ch w w' S) (p : Addr) (hp : p.block < w.heap.size → S p.block) (u : Value) : Ch w (w'.setCell p u) S :=
  h.then (S2 := fun b => b = p.block) ⟨rfl, rfl, rfl, by simp [World.setCell], fun k _ hn => Below.heap_setCell w' p u k hn⟩ (fun b hb e => by subst e; exact hp hb)
theorem Ch.grown {w w' w'' : World} {S : Nat → Prop} (h : Ch w w' S) {row : Option Nat} (hg : w'.grownBy w'' row) (hr : ∀ k, row = some k → k < w.heap.size → S k) : Ch w w'' S :=
  h.then (S2 := fun b => row = some b) ⟨hg.os, hg.tape, hg.output, hg.size, fun k hk hn => hg.block k hk (fun e => hn e.symm)⟩ (fun b hb e => hr b e hb)
theorem owns_form {w : World} {base : Nat} {e : TypeId} {size n : Nat} {v : Value} {xs : List Value} (h : w.ownsRow base e size v n xs) : ∃ a cap, v = .slice a n cap := by
  rcases h.2 with ⟨rfl, rfl⟩ | ⟨g, cap, cur, rfl, _⟩
  · exact ⟨_, _, rfl⟩
  · exact ⟨_, _, rfl⟩
theorem owns_form1 {w : World} {base : Nat} {e : TypeId} {size n : Nat} {v : Value} {xs : List Value} (h : w.ownsRow base e size v n xs) (hn : 0 < n) : ∃ g cap, v = .slice (some ⟨g, 0, none⟩) n cap ∧ base ≤ g ∧ g < w.heap.size := by
  rcases h.2 with ⟨rfl, rfl⟩ | ⟨g, cap, cur, rfl, hb, hh, _⟩
  · omega
  · exact ⟨_, _, rfl, hb, (Array.getElem?_eq_some_iff.1 hh).1⟩
/-- A row that the call owns, in a world that parts from the first in other blocks. -/
theorem owns_move {w W : World} {base : Nat} {e : TypeId} {size n : Nat} {v : Value} {xs : List Value} (h : w.ownsRow base e size v n xs) (hk : ∀ b, base ≤ b → b < w.heap.size → v.ownBlock = some b → W.heap[b]? = w.heap[b]?) : W.ownsRow base e size v n xs := by
  refine ⟨h.1, ?_⟩
  rcases h.2 with h2 | ⟨g, cap, cur, rfl, hb, hh, r⟩
  · exact .inl h2
  · exact .inr ⟨g, cap, cur, rfl, hb, (hk g hb (Array.getElem?_eq_some_iff.1 hh).1 rfl).trans hh, r⟩
theorem owns_below {w W : World} {base : Nat} {e : TypeId} {size n : Nat} {v : Value} {xs : List Value} (h : w.ownsRow base e size v n xs) (hk : Below w.heap.size w W) : W.ownsRow base e size v n xs := owns_move h (fun b _ hl _ => hk.block b hl)
/-- How keys of a type are written as values. -/
structure KeyCode (P : Program) (k : TypeId) (κ : Type) where
  enc : κ → Value
  good : κ → Prop
  lit : κ → Lit
  keyed : Keyed P k
  of : ∀ x, good x → keyOf P k (enc x) = some (lit x)
  inj : ∀ x y, enc x = enc y → x = y
/-- Block b is a map of n entries that holds just what m says. -/
def MapIs {P : Program} {k : TypeId} {κ : Type} (c : KeyCode P k κ) (w : World) (b : Nat) (m : κ → Option Value) (n : Nat) : Prop :=
  ∃ es clock, w.heap[b]? = some (.map es clock) ∧ Stamped es clock ∧ es.size = n ∧
    (∀ e ∈ es.toList, ∃ x, c.good x ∧ e.key = c.enc x ∧ m x = some e.val) ∧
    (∀ x v, m x = some v → c.good x ∧ ∃ e ∈ es.toList, e.key = c.enc x ∧ e.val = v)
/-- m with v at x. -/
noncomputable def mset {κ : Type} (m : κ → Option Value) (x : κ) (v : Option Value) : κ → Option Value :=
  open Classical in fun y => if y = x then v else m y
theorem mset_same {κ : Type} (m : κ → Option Value) (x : κ) (v : Option Value) : mset m x v x = v := by simp [mset]
theorem mset_other {κ : Type} (m : κ → Option Value) {x y : κ} (h : y ≠ x) (v : Option Value) : mset m x v y = m y := by simp [mset, h]
section
variable {P : Program} {k e t : TypeId} {κ : Type} {c : KeyCode P k κ} {w : World} {b n : Nat} {m : κ → Option Value}
theorem MapIs.lt (h : MapIs c w b m n) : b < w.heap.size := by
  obtain ⟨es, clock, hb, _⟩ := h
  exact (Array.getElem?_eq_some_iff.1 hb).1
theorem MapIs.of_heap {w' : World} (h : MapIs c w b m n) (hk : w'.heap[b]? = w.heap[b]?) : MapIs c w' b m n := by
  obtain ⟨es, clock, hb, r⟩ := h
  exact ⟨es, clock, hk.trans hb, r⟩
theorem MapIs.no_cell (h : MapIs c w b m n) {o : Obj} (ho : w.heap[b]? = some o) : ∃ es clock, o = .map es clock := by
  obtain ⟨es, clock, hb, _⟩ := h
  rw [hb] at ho
  exact ⟨es, clock, (Option.some.inj ho).symm⟩
theorem MapIs.congr {m' : κ → Option Value} (h : MapIs c w b m n) (hm : ∀ x, m x = m' x) : MapIs c w b m' n := by
  have : m = m' := funext hm
  exact this ▸ h
/-- A map that has just been made. -/
theorem MapIs.made (c : KeyCode P k κ) (w : World) : MapIs c (w.alloc (.map #[] 0)) w.heap.size (fun _ => none) 0 :=
  ⟨#[], 0, (MapKept.heap_alloc w _).1, stamped_empty 0, rfl, by simp, by simp⟩
theorem found {es : Array MapEntry} (h1 : ∀ e ∈ es.toList, ∃ x, c.good x ∧ e.key = c.enc x ∧ m x = some e.val) (w : World) {x : κ} (hx : c.good x) :
    ((Instr.findKey k (c.enc x) es.toList).run P w = .ok none w ∧ (∀ e ∈ es.toList, e.key ≠ c.enc x)) ∨
    ∃ j e, (Instr.findKey k (c.enc x) es.toList).run P w = .ok (some (j, e.val)) w ∧ es.toList[j]? = some e ∧ e.key = c.enc x ∧ m x = some e.val := by
  rcases c.keyed.find w (c.of x hx) es.toList (fun e he => by
      obtain ⟨y, hy, hk, _⟩ := h1 e he
      exact ⟨_, by rw [hk]; exact c.of y hy⟩) with ⟨a, b⟩ | ⟨j, e, a, b, d⟩
  · exact .inl ⟨a, b⟩
  · obtain ⟨y, _, hk, hm⟩ := h1 e (List.mem_of_getElem? b)
    exact .inr ⟨j, e, a, b, d, by rw [d] at hk; rw [c.inj _ _ hk]; exact hm⟩
/-- 'm[k]' and 'v, ok := m[k]'. -/
theorem MapIs.look (h : MapIs c w b m n) (ht : P.underlying t = some (.map k e)) {z : Value} (hz : (zeroValue e).run P w = .ok z w) {x : κ} (hx : c.good x) (comma : Bool) :
    (Instr.lookup t (.map (some b)) (c.enc x) comma).run P w = .ok (if comma then .tuple #[(m x).getD z, .bool (m x).isSome] else (m x).getD z) w := by
  obtain ⟨es, clock, hb, hs, hn, h1, h2⟩ := h
  rcases found (P := P) h1 w hx with ⟨hf, hno⟩ | ⟨j, e0, hf, hj, hk, hm⟩
  · have hm : m x = none := by
      cases hm : m x with
      | none => rfl
      | some v =>
        obtain ⟨_, e0, he, hk, _⟩ := h2 x v hm
        exact absurd hk (hno e0 he)
    simp [Instr.lookup, run_underlying ht, MapKept.run_getObj_map hb, c.keyed.check w _ (c.of x hx), hf, hz, Result.andThen, hm]
  · simp [Instr.lookup, run_underlying ht, MapKept.run_getObj_map hb, c.keyed.check w _ (c.of x hx), hf, Result.andThen, hm]
theorem grownBy_setBlock {es : Array MapEntry} {clock : Nat} (hb : w.heap[b]? = some (.map es clock)) (o : Obj) : w.grownBy (setBlock w b o) (some b) :=
  ⟨rfl, rfl, rfl, by simp [setBlock], fun i _ hi => heap_setBlock_other hb _ (fun e => hi (by rw [e]))⟩
/-- 'm[k] = v'. -/
theorem MapIs.store (h : MapIs c w b m n) (ht : P.underlying t = some (.map k e)) {x : κ} (hx : c.good x) (v : Value) :
    ∃ w', (Instr.mapUpdate t (.map (some b)) (c.enc x) v).run P w = .ok () w' ∧ MapIs c w' b (mset m x (some v)) (if (m x).isSome then n else n + 1) ∧ w.grownBy w' (some b) ∧ w'.heap.size = w.heap.size := by
  obtain ⟨es, clock, hb, hs, hn, h1, h2⟩ := h
  rcases found (P := P) h1 w hx with ⟨hf, hno⟩ | ⟨j, e0, hf, hj, hk, hm⟩
  · have hm : m x = none := by
      cases hm : m x with
      | none => rfl
      | some v =>
        obtain ⟨_, e0, he, hk, _⟩ := h2 x v hm
        exact absurd hk (hno e0 he)
    refine ⟨setBlock w b (.map (es.push ⟨c.enc x, v, clock⟩) (clock + 1)), ?_, ⟨_, _, heap_setBlock_same hb _, stamped_push hs hno, by simp [hn, hm], ?_, ?_⟩, grownBy_setBlock hb _, by simp [setBlock]⟩
    · simp [Instr.mapUpdate, run_underlying ht, MapKept.run_getObj_map hb, c.keyed.check w false (c.of x hx), hf, MapKept.run_setObj_map _ hb, Result.andThen, setBlock]
    · intro y hy
      simp only [Array.toList_push, List.mem_append, List.mem_singleton] at hy
      rcases hy with hy | rfl
      · obtain ⟨z, hz, hzk, hzm⟩ := h1 y hy
        refine ⟨z, hz, hzk, ?_⟩
        rw [mset_other _ (fun e => hno y hy (by rw [hzk, e])), hzm]
      · exact ⟨x, hx, rfl, mset_same _ _ _⟩
    · intro y u hy
      by_cases hyx : y = x
      · subst hyx
        rw [mset_same] at hy
        cases hy
        exact ⟨hx, ⟨c.enc y, v, clock⟩, by simp, rfl, rfl⟩
      · rw [mset_other _ hyx] at hy
        obtain ⟨hg, e0, he, h3⟩ := h2 y u hy
        exact ⟨hg, e0, by simp [he], h3⟩
  · have hj' : es[j]? = some e0 := by simpa using hj
    have hjl : j < es.toList.length := (List.getElem?_eq_some_iff.1 hj).1
    have hkeyf : ∀ e', es[j]? = some e' → ({ e' with key := c.enc x, val := v } : MapEntry).key = e'.key := fun e' he' => by rw [hj'] at he'; cases he'; exact hk.symm
    have hlist : (es.modify j (fun e' => { e' with key := c.enc x, val := v })).toList = es.toList.set j { e0 with key := c.enc x, val := v } := by rw [Array.toList_modify, ChangeMaps.modify_eq_set _ _ _ _ hj]
    have hnd : es.toList.Pairwise (fun x y => x.key ≠ y.key) := ((stamped_iff es clock).1 hs).2.2
    have other : ∀ i y, es.toList[i]? = some y → i ≠ j → y.key ≠ c.enc x := by
      intro i y hi hij hyk
      have hil := (List.getElem?_eq_some_iff.1 hi).1
      have e1 := (List.getElem?_eq_some_iff.1 hi).2
      have e2 := (List.getElem?_eq_some_iff.1 hj).2
      rcases Nat.lt_or_gt_of_ne hij with h' | h'
      · exact (List.pairwise_iff_getElem.1 hnd i j hil hjl h') (by rw [e1, e2, hyk, hk])
      · exact (List.pairwise_iff_getElem.1 hnd j i hjl hil h') (by rw [e1, e2, hyk, hk])
    refine ⟨setBlock w b (.map (es.modify j (fun e' => { e' with key := c.enc x, val := v })) clock), ?_, ⟨_, _, heap_setBlock_same hb _, stamped_modify hs _ _ (fun _ _ => rfl) (fun e' _ he' => hkeyf e' he'), by simp [hn, hm], ?_, ?_⟩, grownBy_setBlock hb _, by simp [setBlock]⟩
    · simp [Instr.mapUpdate, run_underlying ht, MapKept.run_getObj_map hb, c.keyed.check w false (c.of x hx), hf, hj', hk, c.keyed.stays w (c.of x hx), MapKept.run_setObj_map _ hb, Result.andThen, setBlock]
    · intro y hy
      rw [hlist] at hy
      obtain ⟨i, hi⟩ := List.mem_iff_getElem?.1 hy
      rw [List.getElem?_set] at hi
      split at hi
      · cases hi
        exact ⟨x, hx, rfl, mset_same _ _ _⟩
      · rename_i hij
        obtain ⟨z, hz, hzk, hzm⟩ := h1 y (List.mem_of_getElem? hi)
        refine ⟨z, hz, hzk, ?_⟩
        rw [mset_other _ (fun e => other i y hi (Ne.symm hij) (by rw [hzk, e])), hzm]
    · intro y u hy
      rw [hlist]
      by_cases hyx : y = x
      · subst hyx
        rw [mset_same] at hy
        cases hy
        exact ⟨hx, { e0 with key := c.enc y, val := v }, List.mem_iff_getElem?.2 ⟨j, by rw [List.getElem?_set]; simpa using hjl⟩, rfl, rfl⟩
      · rw [mset_other _ hyx] at hy
        obtain ⟨hg, e1, he, h3, h4⟩ := h2 y u hy
        obtain ⟨i, hi⟩ := List.mem_iff_getElem?.1 he
        have hij : j ≠ i := fun e => by
          subst e
          rw [hj] at hi
          cases hi
          exact hyx (c.inj _ _ (h3.symm.trans hk))
        exact ⟨hg, e1, List.mem_iff_getElem?.2 ⟨i, by rw [List.getElem?_set]; simp [hij, hi]⟩, h3, h4⟩
/-- 'delete(m, k)'. -/
theorem MapIs.drop (h : MapIs c w b m n) (ht : P.underlying t = some (.map k e)) {x : κ} (hx : c.good x) (ty : TypeId) :
    ∃ w', (Builtin.delete_ #[t, k] ty #[.map (some b), c.enc x]).run P w = .ok (.tuple #[]) w' ∧ MapIs c w' b (mset m x none) (if (m x).isSome then n - 1 else n) ∧ w.grownBy w' (some b) ∧ w'.heap.size = w.heap.size := by
  obtain ⟨es, clock, hb, hs, hn, h1, h2⟩ := h
  rcases found (P := P) h1 w hx with ⟨hf, hno⟩ | ⟨j, e0, hf, hj, hk, hm⟩
  · have hm : m x = none := by
      cases hm : m x with
      | none => rfl
      | some v =>
        obtain ⟨_, e0, he, hk, _⟩ := h2 x v hm
        exact absurd hk (hno e0 he)
    refine ⟨setBlock w b (.map es clock), ?_, ⟨_, _, heap_setBlock_same hb _, hs, by simp [hn, hm], ?_, ?_⟩, grownBy_setBlock hb _, by simp [setBlock]⟩
    · simp [Builtin.delete_, run_underlying ht, MapKept.run_getObj_map hb, c.keyed.check w _ (c.of x hx), hf, MapKept.run_setObj_map _ hb, Result.andThen, setBlock]
    · intro y hy
      obtain ⟨z, hz, hzk, hzm⟩ := h1 y hy
      exact ⟨z, hz, hzk, by rw [mset_other _ (fun e => hno y hy (by rw [hzk, e])), hzm]⟩
    · intro y u hy
      by_cases hyx : y = x
      · subst hyx
        rw [mset_same] at hy
        cases hy
      · rw [mset_other _ hyx] at hy
        exact h2 y u hy
  · have hjl : j < es.toList.length := (List.getElem?_eq_some_iff.1 hj).1
    have hjs : j < es.size := by simpa using hjl
    have hsub : (es.eraseIdxIfInBounds j).toList = es.toList.eraseIdx j := by
      unfold Array.eraseIdxIfInBounds
      rw [dif_pos hjs]
      simp
    have hnd : es.toList.Pairwise (fun x y => x.key ≠ y.key) := ((stamped_iff es clock).1 hs).2.2
    have other : ∀ i y, es.toList[i]? = some y → i ≠ j → y.key ≠ c.enc x := by
      intro i y hi hij hyk
      have hil := (List.getElem?_eq_some_iff.1 hi).1
      have e1 := (List.getElem?_eq_some_iff.1 hi).2
      have e2 := (List.getElem?_eq_some_iff.1 hj).2
      rcases Nat.lt_or_gt_of_ne hij with h' | h'
      · exact (List.pairwise_iff_getElem.1 hnd i j hil hjl h') (by rw [e1, e2, hyk, hk])
      · exact (List.pairwise_iff_getElem.1 hnd j i hjl hil h') (by rw [e1, e2, hyk, hk])
    refine ⟨setBlock w b (.map (es.eraseIdxIfInBounds j) clock), ?_, ⟨_, _, heap_setBlock_same hb _, stamped_erase hs j, ?_, ?_, ?_⟩, grownBy_setBlock hb _, by simp [setBlock]⟩
    · simp [Builtin.delete_, run_underlying ht, MapKept.run_getObj_map hb, c.keyed.check w _ (c.of x hx), hf, MapKept.run_setObj_map _ hb, Result.andThen, setBlock]
    · have := congrArg List.length hsub
      rw [List.length_eraseIdx, if_pos hjl] at this
      simp only [Array.length_toList] at this
      simp [hm, this, hn]
    · intro y hy
      rw [hsub] at hy
      obtain ⟨i, hij, hi⟩ := List.mem_eraseIdx_iff_getElem?.1 hy
      obtain ⟨z, hz, hzk, hzm⟩ := h1 y (List.mem_of_getElem? hi)
      exact ⟨z, hz, hzk, by rw [mset_other _ (fun e => other i y hi hij (by rw [hzk, e])), hzm]⟩
    · intro y u hy
      rw [hsub]
      by_cases hyx : y = x
      · subst hyx
        rw [mset_same] at hy
        cases hy
      · rw [mset_other _ hyx] at hy
        obtain ⟨hg, e1, he, h3, h4⟩ := h2 y u hy
        obtain ⟨i, hi⟩ := List.mem_iff_getElem?.1 he
        have hij : i ≠ j := fun e => by
          subst e
          rw [hj] at hi
          cases hi
          exact hyx (c.inj _ _ (h3.symm.trans hk))
        exact ⟨hg, e1, List.mem_eraseIdx_iff_getElem?.2 ⟨i, hij, hi⟩, h3, h4⟩
end
section
variable {P : Program} {k e t : TypeId} {κ : Type} {c : KeyCode P k κ} {w : World} {b n : Nat} {m : κ → Option Value}
variable {ops : Array Oper} {rest : List Oper} {o : Oper} {a : Act} {Q : Exit → Act → World → Prop}
theorem MapIs.len (h : MapIs c w b m n) (ht : P.underlying t = some (.map k e)) (ty : TypeId) : (Builtin.len_ #[t] ty #[.map (some b)]).run P w = .ok (.int .i64 n) w := by
  obtain ⟨es, clock, hb, hs, hn, _⟩ := h
  simp [Builtin.len_, run_underlying ht, MapKept.run_getObj_map hb, goInt, Result.andThen, hn]
end
end Go.Proofs.YtkbkkceeolclmaaGreatDoorL
