/- A range over a function whose rounds may turn what lay ahead of the loop, told by what has come so far. A library text of this work. -/
import Derived.RangeFuncNested
import Derived.RangeFuncBox
import Derived.RangeFuncBound
import Derived.RangeFuncCalls
import Derived.RangeFuncLeaves
namespace Go.XRange
open Go.RowKit

/-- An iterator: it hands on x behind pre only if G; where it ends by itself S holds of what has come; ahead of each round, and where it ends, L holds. -/
def Iter {α : Type} (F : Fence) (n : Nat) (P : Program) (g : Nat) (lb : Array Value) (encs : α → Array Value) (G : List α → α → Prop) (S : List α → Prop) (L : List α → World → Prop) (w : World) : Prop :=
  ∀ (l : Nat) (J Jx : List α → World → Prop) (W : World), Below w.heap.size w W → AbidesFrom W.heap.size J → (∀ pre W, J pre W → L pre W) →
    (∀ pre x W1, J pre W1 → G pre x → YieldAt F (n - 1) P l (encs x) W1 fun e W' =>
      (e = .returned (.bool true) ∧ J (pre ++ [x]) W') ∨ (e = .returned (.bool false) ∧ Jx (pre ++ [x]) W')) →
    J [] W →
    CallsIn F n P g (#[.func (.yield l) #[] #[]] ++ lb) W fun e W' => (∃ v, e = .returned v) ∧ ((∃ xs, S xs ∧ J xs W') ∨ ∃ pre, Jx pre W')

/-- How a round may be left. -/
abbrev Left {α : Type} (B : Nat) (I : List α → World → Prop) (Ix : Code → List α → World → Prop) (xs : List α) (W : World) : Exit → Act → World → Prop := ownPostG B (fun _ _ => True) I Ix xs W

section
variable {F : Fence} {n : Nat} {P : Program}

theorem wpIn_range {α : Type} {g : Operand} {ps : Array Tmp} {assign body : Code} {Q : Exit → Act → World → Prop} {a : Act} {w : World}
    (hro : F.round = none) (h1 : 1 ≤ n) {gf : Nat} {lb : Array Value} (hg : a.eval g = .func (.func gf) #[] lb) (hFg : F.fn gf) (eg : ∀ args w, (callFunc gf args).run P w = .ok (.enter gf args) w)
    {encs : α → Array Value} {G : List α → α → Prop} {S : List α → Prop} {L : List α → World → Prop} (hseq : Iter F (n - 1) P gf lb encs G S L w) (hps : ∀ x, (encs x).size = ps.size)
    (I : List α → World → Prop) (Ix : Code → List α → World → Prop) (hI : OwnFrom w.heap.size I) (hIx : ∀ c, OwnFrom w.heap.size (Ix c)) (hIL : ∀ pre W, I pre W → L pre W) (h0 : I [] w) (a₁ : α → Act)
    (hassign : ∀ (l : Nat) (x : α) (W : World) (K : Act → World → Prop), K (a₁ x) W →
      assign.wpIn (F.inRound l) (n - 1 - 1) P (Exit.then K (fun _ _ _ => False)) { tmps := (ps.zip (encs x)).foldl (fun t (p, v) => t.setIfInBounds p v) a.tmps, defers := [] } W)
    (hbody : ∀ (l : Nat) (pre : List α) (x : α) (W : World), I pre W → G pre x → body.wpIn (F.inRound l) (n - 1 - 1) P (Left w.heap.size I Ix (pre ++ [x]) W) (a₁ x) W)
    (hdone : ∀ (D : Nat) (xs : List α) (W : World), w.heap.size ≤ D → S xs → I xs W → W.heap[D]? = some (.deferred (some [])) → Q .normal { a with defers := { target := .collected D, args := #[] } :: a.defers } W)
    (hstop : ∀ (D : Nat) (c : Code) (pre : List α) (W : World), w.heap.size ≤ D → Ix c pre W → W.heap[D]? = some (.deferred (some [])) → c.wpIn F n P Q { a with defers := { target := .collected D, args := #[] } :: a.defers } W) :
    (Code.rangeFunc g ps assign body).wpIn F n P Q a w := by
  refine wpIn_rangeFunc fun fn hfn => ?_
  rw [hro]
  -- the two records: the loop's own at 'w.heap.size + 1', the calls put off at 'w.heap.size'
  let st (s : LoopState) (pe : Option Code) : Obj := .loop { state := s, pending := pe, fn, tmps := a.tmps, params := ps, assign, body, defers := w.heap.size }
  generalize hZ : (w.alloc (.deferred (some []))).alloc (st .ready none) = Z
  have zl : Z.heap[w.heap.size + 1]? = some (st .ready none) := by
    have e := World.alloc_heap_new (w.alloc (.deferred (some []))) (st .ready none)
    rw [World.size_alloc, hZ] at e
    exact e
  have zd : Z.heap[w.heap.size]? = some (.deferred (some [])) := by
    rw [← hZ]
    exact (Below.heap_alloc _ _ _ (by simp)).trans (World.alloc_heap_new w _)
  have zI : I [] Z := by rw [← hZ]; exact hI.alloc _ (hI.alloc _ h0)
  have zb : Below w.heap.size w Z := by rw [← hZ]; exact ((Below.refl _ w).alloc (Nat.le_refl _) _).alloc (by simp) _
  have zs : Z.heap.size = w.heap.size + 1 + 1 := by rw [← hZ]; simp
  refine ⟨w.heap.size + 1, [{ target := .collected w.heap.size, args := #[] }], Z, { target := .fn (.func gf) lb, args := #[.func (.yield (w.heap.size + 1)) #[] #[]] }, Z, gf,
    #[.func (.yield (w.heap.size + 1)) #[] #[]] ++ lb, Z, ?_, ?_, ?_, ?_, fun _ => h1, ?_⟩
  · rw [← hZ]; exact run_enterLoop_outer _ _ _ _ _
  · simp only [resolve, hg]
    simp [go_sem]
  · intro f' hf'
    simp [Target.leads] at hf'
    exact hf' ▸ hFg
  · simp [invoke, go_sem, eg]
  · let J : List α → World → Prop := fun pre W => I pre W ∧ W.heap[w.heap.size + 1]? = some (st .ready none) ∧ W.heap[w.heap.size]? = some (.deferred (some []))
    let Jx : List α → World → Prop := fun pre W => ∃ c, Ix c pre W ∧ W.heap[w.heap.size + 1]? = some (st .done (some c)) ∧ W.heap[w.heap.size]? = some (.deferred (some []))
    have ab : AbidesFrom Z.heap.size J := fun s A B row hs hgr hr => by
      have far : ∀ r, row = some r → w.heap.size ≤ r ∧ ∃ o : Obj, A.heap[r]? = some o ∧ o.isCells = false := fun r e => by
        obtain ⟨h1, o, h2, h3⟩ := hr r e
        exact ⟨by omega, o, h2, Obj.not_cells_of_walk h3⟩
      exact ⟨hI s A B row hs.1 hgr far, (grownBy_keeps hgr (fun r e => (hr r e).2) hs.2.1 rfl).trans hs.2.1, (grownBy_keeps hgr (fun r e => (hr r e).2) hs.2.2 rfl).trans hs.2.2⟩
    have round : ∀ pre x W1, J pre W1 → G pre x → YieldAt F (n - 1 - 1) P (w.heap.size + 1) (encs x) W1 fun e W' => (e = .returned (.bool true) ∧ J (pre ++ [x]) W') ∨ (e = .returned (.bool false) ∧ Jx (pre ++ [x]) W') := fun pre x W hJ hG => by
      obtain ⟨hi, hl, hd⟩ := hJ
      have hlt := (Array.getElem?_eq_some_iff.1 hl).1
      refine ⟨fn, _, assign, body, run_yield (P := P) (args := encs x) hl (hps x), roundIn_of_wpIn hfn (hassign _ x W _ ⟨_, run_beginRound hl rfl, ?_⟩)⟩
      generalize hY : W.putObj (w.heap.size + 1) (st .busy none) = Y
      have yl : Y.heap[w.heap.size + 1]? = some (st .busy none) := by rw [← hY]; exact World.putObj_heap_same hlt
      have yd : Y.heap[w.heap.size]? = some (.deferred (some [])) := by rw [← hY]; exact (World.putObj_heap_other (by omega)).trans hd
      have yi : I pre Y := by rw [← hY]; exact hI.putObj _ hi (by omega) hl rfl
      have yG := hbody (w.heap.size + 1) pre x Y yi hG
      refine wpIn_mono yG fun e a3 V hp => ?_
      -- what the record is behind the round
      have back : ∀ jump : Option Code, KeepsFrom w.heap.size Y V → (Instr.endRound (w.heap.size + 1) jump).run P V = .ok (.bool jump.isNone) (V.putObj (w.heap.size + 1) (st (if jump.isNone then .ready else .done) jump)) ∧
          V.heap[w.heap.size + 1]? = some (st .busy none) ∧ (V.putObj (w.heap.size + 1) (st (if jump.isNone then .ready else .done) jump)).heap[w.heap.size + 1]? = some (st (if jump.isNone then .ready else .done) jump) ∧
          (V.putObj (w.heap.size + 1) (st (if jump.isNone then .ready else .done) jump)).heap[w.heap.size]? = some (.deferred (some [])) := fun jump hk => by
        have vl := hk.same _ _ (by omega) yl rfl
        exact ⟨run_endRound (P := P) jump vl, vl, World.putObj_heap_same (Array.getElem?_eq_some_iff.1 vl).1, (World.putObj_heap_other (by omega)).trans (hk.same _ _ (Nat.le_refl _) yd rfl)⟩
      cases e with
      | normal =>
        obtain ⟨hk, _, hi3⟩ := hp
        obtain ⟨r1, r2, r3, r4⟩ := back none hk
        exact ⟨_, _, r1, .inl ⟨rfl, hI.putObj _ hi3 (by omega) r2 rfl, r3, r4⟩⟩
      | ret =>
        obtain ⟨hk, hi3⟩ := hp
        obtain ⟨r1, r2, r3, r4⟩ := back (some .ret) hk
        exact ⟨_, _, r1, .inr ⟨rfl, .ret, (hIx _).putObj _ hi3 (by omega) r2 rfl, r3, r4⟩⟩
      | exit id =>
        obtain ⟨hk, hi3⟩ := hp
        obtain ⟨r1, r2, r3, r4⟩ := back (some (.exit id)) hk
        exact ⟨_, _, r1, .inr ⟨rfl, .exit id, (hIx _).putObj _ hi3 (by omega) r2 rfl, r3, r4⟩⟩
      | goto t =>
        obtain ⟨hk, hi3⟩ := hp
        obtain ⟨r1, r2, r3, r4⟩ := back (some (.goto t)) hk
        exact ⟨_, _, r1, .inr ⟨rfl, .goto t, (hIx _).putObj _ hi3 (by omega) r2 rfl, r3, r4⟩⟩
      | panic ch => exact hp.elim
      | outgrown => exact hp.elim
    refine (hseq (w.heap.size + 1) J Jx Z zb ab (fun pre W h => hIL pre W h.1) round ⟨zI, zl, zd⟩).mono ?_
    rintro e V ⟨⟨v, rfl⟩, ⟨xs, hS, hi, hl, hd⟩ | ⟨pre, c, hi, hl, hd⟩⟩
    · exact ⟨none, _, run_endLoop (P := P) hl (by simp), hdone _ xs _ (Nat.le_refl _) hS (hI.putObj _ hi (by omega) hl rfl) ((World.putObj_heap_other (by omega)).trans hd)⟩
    · exact ⟨some c, _, run_endLoop (P := P) hl (by simp), hstop _ c pre _ (Nat.le_refl _) ((hIx c).putObj _ hi (by omega) hl rfl) ((World.putObj_heap_other (by omega)).trans hd)⟩
end
end Go.XRange
