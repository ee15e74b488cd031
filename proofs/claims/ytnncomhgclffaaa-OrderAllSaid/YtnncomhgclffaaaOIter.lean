/- A range over a function that hands on rows of its own: the rounds may write into the row at hand and into what lay ahead of the loop, and nothing else. -/
import Derived.RangeFuncNested
import Derived.RangeFuncBox
import Derived.RangeFuncBound
import Derived.RangeFuncCalls
import Derived.RangeFuncLeaves
namespace Go.OIter
open Go.RowKit

/-- What hangs on the blocks below B alone. -/
def Low {β : Type} (B : Nat) (I : β → World → Prop) : Prop := ∀ s A C, I s A → Below B A C → I s C
theorem Low.mono {β : Type} {B B' : Nat} {I : β → World → Prop} (h : Low B I) (hb : B ≤ B') : Low B' I := fun s A C hs hc => h s A C hs (hc.mono hb)

/-- From B on only the row v may have been turned. -/
def Fr (B : Nat) (v : Value) (A C : World) : Prop := A.heap.size ≤ C.heap.size ∧ ∀ b, B ≤ b → b < A.heap.size → some b ≠ v.ownBlock → C.heap[b]? = A.heap[b]?
theorem Fr.refl (B : Nat) (v : Value) (A : World) : Fr B v A A := ⟨Nat.le_refl _, fun _ _ _ _ => rfl⟩
theorem Fr.trans {B : Nat} {v : Value} {A C D : World} (h : Fr B v A C) (k : Fr B v C D) : Fr B v A D :=
  ⟨Nat.le_trans h.1 k.1, fun b hb hl hv => (k.2 b hb (Nat.lt_of_lt_of_le hl h.1) hv).trans (h.2 b hb hl hv)⟩

/-- An element: a list, and the row that holds it. -/
abbrev El := List Int × Value

/-- What holds of an element ahead of its round. -/
def Got (os : List (List Int)) (n e B : Nat) (pre : List El) (x : El) (W : World) : Prop :=
  os[pre.length]? = some x.1 ∧ x.1.length = n ∧ (∃ g cap, x.2 = .slice (some ⟨g, 0, none⟩) n cap) ∧ W.ownsRow B e 1 x.2 n (x.1.map (.int .i64))

def Iter (F : Fence) (m : Nat) (P : Program) (g : Nat) (lb : Array Value) (os : List (List Int)) (n e : Nat) (w : World) : Prop :=
  ∀ (l : Nat) (J Jx : List El → World → Prop) (W : World), Below w.heap.size w W → Low W.heap.size J →
    (∀ pre x W1, J pre W1 → Got os n e W.heap.size pre x W1 → YieldAt F (m - 1) P l #[x.2] W1 fun e W' =>
      (e = .returned (.bool true) ∧ J (pre ++ [x]) W' ∧ Fr W.heap.size x.2 W1 W') ∨ (e = .returned (.bool false) ∧ Jx (pre ++ [x]) W')) →
    J [] W →
    CallsIn F m P g (#[.func (.yield l) #[] #[]] ++ lb) W fun e W' => (∃ v, e = .returned v) ∧ ((∃ xs, xs.length = os.length ∧ J xs W') ∨ ∃ pre, Jx pre W')

/-- How a round may be left. -/
def Left (B : Nat) (v : Value) (I : List El → World → Prop) (Ix : Code → List El → World → Prop) (xs : List El) (W : World) : Exit → Act → World → Prop
  | .normal, _, W' => Fr B v W W' ∧ I xs W'
  | .ret, _, W' => Fr B v W W' ∧ Ix .ret xs W'
  | .exit id, _, W' => Fr B v W W' ∧ Ix (.exit id) xs W'
  | .goto t, _, W' => Fr B v W W' ∧ Ix (.goto t) xs W'
  | .panic _, _, _ => False
  | .outgrown, _, _ => False

theorem below_put {B : Nat} (W : World) (l : Nat) (o : Obj) (h : B ≤ l) : Below B W (W.putObj l o) := by
  have hg := grownBy_putObj' W l o
  exact ⟨rfl, rfl, rfl, by simp [World.putObj], fun k hk => World.putObj_heap_other (by omega)⟩

section
variable {F : Fence} {n : Nat} {P : Program}

theorem wpIn_range {g : Operand} {ps : Array Tmp} {assign body : Code} {Q : Exit → Act → World → Prop} {a : Act} {w : World} {k e : Nat} {os : List (List Int)}
    (hro : F.round = none) (h1 : 1 ≤ n) {gf : Nat} {lb : Array Value} (hg : a.eval g = .func (.func gf) #[] lb) (hFg : F.fn gf) (eg : ∀ args w, (callFunc gf args).run P w = .ok (.enter gf args) w)
    (hseq : Iter F (n - 1) P gf lb os k e w) (hps : ps.size = 1)
    (I : List El → World → Prop) (Ix : Code → List El → World → Prop) (hI : Low w.heap.size I) (hIx : ∀ c, Low w.heap.size (Ix c)) (h0 : I [] w) (a₁ : El → Act)
    (hassign : ∀ (l : Nat) (x : El) (W : World) (K : Act → World → Prop), K (a₁ x) W →
      assign.wpIn (F.inRound l) (n - 1 - 1) P (Exit.then K (fun _ _ _ => False)) { tmps := (ps.zip #[x.2]).foldl (fun t (p, v) => t.setIfInBounds p v) a.tmps, defers := [] } W)
    (hbody : ∀ (l : Nat) (pre : List El) (x : El) (W : World), I pre W → Got os k e (w.heap.size + 1 + 1) pre x W → body.wpIn (F.inRound l) (n - 1 - 1) P (Left w.heap.size x.2 I Ix (pre ++ [x]) W) (a₁ x) W)
    (hdone : ∀ (D : Nat) (xs : List El) (W : World), w.heap.size ≤ D → xs.length = os.length → I xs W → W.heap[D]? = some (.deferred (some [])) → Q .normal { a with defers := { target := .collected D, args := #[] } :: a.defers } W)
    (hstop : ∀ (D : Nat) (c : Code) (pre : List El) (W : World), w.heap.size ≤ D → Ix c pre W → W.heap[D]? = some (.deferred (some [])) → c.wpIn F n P Q { a with defers := { target := .collected D, args := #[] } :: a.defers } W) :
    (Code.rangeFunc g ps assign body).wpIn F n P Q a w := by
  refine wpIn_rangeFunc fun fn hfn => ?_
  rw [hro]
  let st (s : LoopState) (pe : Option Code) : Obj := .loop { state := s, pending := pe, fn, tmps := a.tmps, params := ps, assign, body, defers := w.heap.size }
  generalize hZ : (w.alloc (.deferred (some []))).alloc (st .ready none) = Z
  have zl : Z.heap[w.heap.size + 1]? = some (st .ready none) := by
    have e := World.alloc_heap_new (w.alloc (.deferred (some []))) (st .ready none)
    rw [World.size_alloc, hZ] at e
    exact e
  have zd : Z.heap[w.heap.size]? = some (.deferred (some [])) := by
    rw [← hZ]
    exact (Below.heap_alloc _ _ _ (by simp)).trans (World.alloc_heap_new w _)
  have zb : Below w.heap.size w Z := by rw [← hZ]; exact ((Below.refl _ w).alloc (Nat.le_refl _) _).alloc (by simp) _
  have zI : I [] Z := hI _ _ _ h0 zb
  have zs : Z.heap.size = w.heap.size + 1 + 1 := by rw [← hZ]; simp
  refine ⟨w.heap.size + 1, [{ target := .collected w.heap.size, args := #[] }], Z, { target := .fn (.func gf) lb, args := #[.func (.yield (w.heap.size + 1)) #[] #[]] }, Z, gf,
    #[.func (.yield (w.heap.size + 1)) #[] #[]] ++ lb, Z, ?_, ?_, ?_, ?_, fun _ => h1, ?_⟩
  · rw [← hZ]; exact run_enterLoop_outer _ _ _ _ _
  · simp only [resolve, hg]
    simp [go_sem]
  · intro f' hf'
    simp [Target.leads] at hf'
    exact hf' ▸ hFg
  · simp [invoke, go_sem, eg]
  · let J : List El → World → Prop := fun pre W => I pre W ∧ W.heap[w.heap.size + 1]? = some (st .ready none) ∧ W.heap[w.heap.size]? = some (.deferred (some []))
    let Jx : List El → World → Prop := fun pre W => ∃ c, Ix c pre W ∧ W.heap[w.heap.size + 1]? = some (st .done (some c)) ∧ W.heap[w.heap.size]? = some (.deferred (some []))
    have lJ : Low Z.heap.size J := fun s A C hs hc =>
      ⟨hI s A C hs.1 (hc.mono (by omega)), (hc.block _ (by omega)).trans hs.2.1, (hc.block _ (by omega)).trans hs.2.2⟩
    have round : ∀ pre x W1, J pre W1 → Got os k e Z.heap.size pre x W1 → YieldAt F (n - 1 - 1) P (w.heap.size + 1) #[x.2] W1 fun e W' =>
        (e = .returned (.bool true) ∧ J (pre ++ [x]) W' ∧ Fr Z.heap.size x.2 W1 W') ∨ (e = .returned (.bool false) ∧ Jx (pre ++ [x]) W') := fun pre x W hJ hG => by
      obtain ⟨hi, hl, hd⟩ := hJ
      rw [zs] at hG
      have hlt := (Array.getElem?_eq_some_iff.1 hl).1
      refine ⟨fn, _, assign, body, run_yield (P := P) (args := #[x.2]) hl (by simpa using hps.symm), roundIn_of_wpIn hfn (hassign _ x W _ ⟨_, run_beginRound hl rfl, ?_⟩)⟩
      generalize hY : W.putObj (w.heap.size + 1) (st .busy none) = Y
      have yl : Y.heap[w.heap.size + 1]? = some (st .busy none) := by rw [← hY]; exact World.putObj_heap_same hlt
      have yd : Y.heap[w.heap.size]? = some (.deferred (some [])) := by rw [← hY]; exact (World.putObj_heap_other (by omega)).trans hd
      have ysz : Y.heap.size = W.heap.size := by rw [← hY]; simp [World.putObj]
      have yi : I pre Y := by rw [← hY]; exact hI _ _ _ hi (below_put _ _ _ (by omega))
      have yo : ∀ b, b ≠ w.heap.size + 1 → Y.heap[b]? = W.heap[b]? := fun b hb => by rw [← hY]; exact World.putObj_heap_other hb
      obtain ⟨g1, g2, ⟨g, cap, g3⟩, g4⟩ := hG
      have hgB : ∀ b, b < w.heap.size + 1 + 1 → some b ≠ x.2.ownBlock := fun b hb e => by
        rcases g4.2 with ⟨h, _⟩ | ⟨g', cap', cur, h, hB, _⟩
        · rw [g3] at h; cases h
        · rw [h] at e
          simp only [Value.ownBlock, Option.some.injEq] at e
          omega
      have yG : Got os k e (w.heap.size + 1 + 1) pre x Y := by
        refine ⟨g1, g2, ⟨g, cap, g3⟩, g4.1, ?_⟩
        rcases g4.2 with h | ⟨g', cap', cur, h, hB, hh, q⟩
        · exact .inl h
        · exact .inr ⟨g', cap', cur, h, hB, (yo g' (by omega)).trans hh, q⟩
      have yB := hbody (w.heap.size + 1) pre x Y yi yG
      refine wpIn_mono yB fun e a3 V hp => ?_
      have back : ∀ jump : Option Code, Fr w.heap.size x.2 Y V → (Instr.endRound (w.heap.size + 1) jump).run P V = .ok (.bool jump.isNone) (V.putObj (w.heap.size + 1) (st (if jump.isNone then .ready else .done) jump)) ∧
          V.heap[w.heap.size + 1]? = some (st .busy none) ∧ (V.putObj (w.heap.size + 1) (st (if jump.isNone then .ready else .done) jump)).heap[w.heap.size + 1]? = some (st (if jump.isNone then .ready else .done) jump) ∧
          (V.putObj (w.heap.size + 1) (st (if jump.isNone then .ready else .done) jump)).heap[w.heap.size]? = some (.deferred (some [])) ∧
          Fr Z.heap.size x.2 W (V.putObj (w.heap.size + 1) (st (if jump.isNone then .ready else .done) jump)) := fun jump hk => by
        have vl := (hk.2 (w.heap.size + 1) (by omega) (by omega) (hgB _ (by omega))).trans yl
        refine ⟨run_endRound (P := P) jump vl, vl, World.putObj_heap_same (Array.getElem?_eq_some_iff.1 vl).1, (World.putObj_heap_other (by omega)).trans ((hk.2 w.heap.size (by omega) (by omega) (hgB _ (by omega))).trans yd), ?_, fun b hb hlb hv => ?_⟩
        · have := hk.1
          simp [World.putObj]
          omega
        · exact (World.putObj_heap_other (by omega)).trans ((hk.2 b (by omega) (by omega) hv).trans (yo b (by omega)))
      cases e with
      | normal =>
        obtain ⟨hk, hi3⟩ := hp
        obtain ⟨r1, r2, r3, r4, r5⟩ := back none hk
        exact ⟨_, _, r1, .inl ⟨rfl, ⟨hI _ _ _ hi3 (below_put _ _ _ (by omega)), r3, r4⟩, r5⟩⟩
      | ret =>
        obtain ⟨hk, hi3⟩ := hp
        obtain ⟨r1, r2, r3, r4, r5⟩ := back (some .ret) hk
        exact ⟨_, _, r1, .inr ⟨rfl, .ret, hIx _ _ _ _ hi3 (below_put _ _ _ (by omega)), r3, r4⟩⟩
      | exit id =>
        obtain ⟨hk, hi3⟩ := hp
        obtain ⟨r1, r2, r3, r4, r5⟩ := back (some (.exit id)) hk
        exact ⟨_, _, r1, .inr ⟨rfl, .exit id, hIx _ _ _ _ hi3 (below_put _ _ _ (by omega)), r3, r4⟩⟩
      | goto t =>
        obtain ⟨hk, hi3⟩ := hp
        obtain ⟨r1, r2, r3, r4, r5⟩ := back (some (.goto t)) hk
        exact ⟨_, _, r1, .inr ⟨rfl, .goto t, hIx _ _ _ _ hi3 (below_put _ _ _ (by omega)), r3, r4⟩⟩
      | panic ch => exact hp.elim
      | outgrown => exact hp.elim
    refine (hseq (w.heap.size + 1) J Jx Z zb lJ round ⟨zI, zl, zd⟩).mono ?_
    rintro e V ⟨⟨v, rfl⟩, ⟨xs, hS, hi, hl, hd⟩ | ⟨pre, c, hi, hl, hd⟩⟩
    · exact ⟨none, _, run_endLoop (P := P) hl (by simp), hdone _ xs _ (Nat.le_refl _) hS (hI _ _ _ hi (below_put _ _ _ (by omega))) ((World.putObj_heap_other (by omega)).trans hd)⟩
    · exact ⟨some c, _, run_endLoop (P := P) hl (by simp), hstop _ c pre _ (Nat.le_refl _) (hIx c _ _ _ hi (below_put _ _ _ (by omega))) ((World.putObj_heap_other (by omega)).trans hd)⟩
end
end Go.OIter
