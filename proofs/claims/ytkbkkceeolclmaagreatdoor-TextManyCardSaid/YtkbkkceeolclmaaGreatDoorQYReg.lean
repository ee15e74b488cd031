/- A region that draws its order, of whose operations one (number c, if there is one) may write; the others may make memory but turn nothing that there was: one wa -/
import Derived.Orders
import Derived.Still
import Derived.Deep.Quiet
import Derived.Tactics
import Derived.Below
import Derived.Test.YtkbkkceeolclmaaGreatDoorProg
set_option linter.unusedVariables false
set_option linter.unusedSimpArgs false
namespace Go.YReg
/-- What is known of a slot: its very value, or a fact on the value in the world at hand. -/
inductive Fact where
  | det (v : Value)
  | nd (R : Value → World → Prop)
def Fact.holds : Fact → Value → World → Prop
  | .det v, u, _ => u = v
  | .nd R, u, w => R u w
def envOf (ρ : Nat → Value) : Operand → Value
  | .tmp t => ρ t
  | .const v => v
  | .global g => .pointer (some ⟨g, 0, none⟩)
  | .func f => .func (.func f) #[] #[]
theorem eval_env (a : Act) : a.eval = envOf fun t => a.tmps.getD t undef := by
  funext x
  cases x <;> rfl
abbrev Known := List (Nat × Fact)
/-- What is known of slot t. -/
def look : Known → Nat → Option Fact
  | [], _ => none
  | (t', F) :: l, t => bif Nat.beq t' t then some F else look l t
/-- Its value, where it is known. -/
def val (K : Known) (t : Nat) : Value :=
  match look K t with
  | some (.det v) => v
  | _ => undef
def argTmps (o : Oper) : List Nat := o.op.operands.toList.filterMap fun | .tmp t => some t | _ => none
/-- The slot of the guard, and what it must hold. -/
def guardTmp (ops : Array Oper) (o : Oper) : Option (Nat × Bool) :=
  match o.guard with
  | none => none
  | some (g, want) =>
    match (ops[g]?).bind (·.dst) with
    | some t => some (t, want)
    | none => none
def boolOf : Value → Option Bool
  | .bool b => some b
  | _ => none
/-- Is the operation wanted? By what the slots hold. -/
def wantE (ops : Array Oper) (o : Oper) (ρ : Nat → Value) : Bool :=
  match o.guard with
  | none => true
  | some (_, want) =>
    match guardTmp ops o with
    | some (t, _) => boolOf (ρ t) == some want
    | none => false
theorem wantE_spec (ops : Array Oper) (o : Oper) (a : Act) : Region.wanted o (yielded ops a.tmps) = wantE ops o fun t => a.tmps.getD t undef := by
  unfold Region.wanted wantE guardTmp
  cases hg : o.guard with
  | none => rfl
  | some p =>
    obtain ⟨g, want⟩ := p
    simp only []
    unfold yielded
    cases hd : (ops[g]?).bind (·.dst) with
    | none => simp
    | some t =>
      simp only [Option.bind_some]
      rw [Array.getD_eq_getD_getElem?]
      cases ht : a.tmps[t]? with
      | none => simp [boolOf, undef]
      | some v => cases v <;> simp [boolOf]
/-- What an operation comes to. -/
def upE (P : Program) (E : World → World → Prop) (w : World) (F : Fact) : Result Next → Prop
  | .ok (.value u) w' => E w w' ∧ F.holds u w'
  | .ok .skip w' => E w w' ∧ F.holds undef w'
  | .ok (.enter f args) w' => Calls P f args w' fun e w'' => ∃ u, e = .returned u ∧ E w w'' ∧ F.holds u w''
  | _ => False
def stepE (P : Program) (ops : Array Oper) (E : World → World → Prop) (o : Oper) (ρ : Nat → Value) (w : World) (F : Fact) : Prop :=
  if wantE ops o ρ then upE P E w F ((execOp (envOf ρ) o).run P w) else F.holds undef w
def Fact.up (E : World → World → Prop) (F : Fact) : Prop := ∀ u w w', F.holds u w → E w w' → F.holds u w'
theorem up_det (E : World → World → Prop) (v : Value) : (Fact.det v).up E := fun _ _ _ h _ => h
/-- All that a slot is known for holds of it. -/
def knows (K : Known) (ρ : Nat → Value) (w : World) (t : Nat) : Prop :=
  match look K t with
  | some F => F.holds (ρ t) w
  | none => True
def looks (ops : Array Oper) (o : Oper) : List Nat := argTmps o ++ (match guardTmp ops o with | some (t, _) => [t] | none => [])
def addK (K : Known) (o : Oper) (F : Fact) : Known :=
  match o.dst with
  | some d => (d, F) :: K
  | none => K
def addFin (fin : (Nat → Value) → Act) (o : Oper) : Fact → (Nat → Value) → Act
  | .det v => fun ρ => (fin ρ).put o.dst v
  | .nd _ => fun ρ => (fin ρ).put o.dst (match o.dst with | some d => ρ d | none => undef)
def addNd (nds : (Nat → Value) → World → Prop) (o : Oper) : Fact → (Nat → Value) → World → Prop
  | .det _ => nds
  | .nd R => match o.dst with | some d => fun ρ w => nds ρ w ∧ R (ρ d) w | none => nds
/-- What is known of the world ahead of operation i, and what it may do: number c may write (G), the others not (E). -/
def base (E G : World → World → Prop) (c : Option Nat) (i : Nat) : World → World → Prop := if c = some i then E else G
def rel (E G : World → World → Prop) (c : Option Nat) (i : Nat) : World → World → Prop := if c = some i then G else E
def dec : Option Nat → Option Nat
  | some (n + 1) => some n
  | _ => none
theorem dec_some {c : Option Nat} {j : Nat} : dec c = some j ↔ c = some (j + 1) := by
  cases c with
  | none => simp [dec]
  | some n => cases n <;> simp [dec]
theorem base_dec (E G : World → World → Prop) (c : Option Nat) (j : Nat) : base E G (dec c) j = base E G c (j + 1) := by
  unfold base
  by_cases h : c = some (j + 1)
  · rw [if_pos h, if_pos (dec_some.2 h)]
  · rw [if_neg h, if_neg (fun e => h (dec_some.1 e))]
theorem rel_dec (E G : World → World → Prop) (c : Option Nat) (j : Nat) : rel E G (dec c) j = rel E G c (j + 1) := by
  unfold rel
  by_cases h : c = some (j + 1)
  · rw [if_pos h, if_pos (dec_some.2 h)]
  · rw [if_neg h, if_neg (fun e => h (dec_some.1 e))]
/-- The walk in the order of the text. -/
def walk (P : Program) (ops : Array Oper) (E G : World → World → Prop) (w0 : World) (Q : Act → World → Prop) : Option Nat → List Oper → Known → ((Nat → Value) → Act) → ((Nat → Value) → World → Prop) → Prop
  | _, [], _, fin, nds => ∀ ρ w, G w0 w → nds ρ w → Q (fin ρ) w
  | c, o :: l, K, fin, nds => ∃ F : Fact, F.up (base E G c 0) ∧ (∀ ρ w, base E G c 0 w0 w → (∀ t ∈ looks ops o, knows K ρ w t) → stepE P ops (rel E G c 0) o ρ w F) ∧ walk P ops E G w0 Q (dec c) l (addK K o F) (addFin fin o F) (addNd nds o F)
/-- The edges of a region let the walk serve: slots are written once; whoever reads a slot that an operation writes waits for it if that stands ahead, and is waited for if it stands behind; no select. -/
def preds (o : Oper) : List Nat := (o.after.toList.filter fun e => Region.binds .any e).map (·.on)
def okPair (ops : Array Oper) (n : Nat) (i j : Nat) : Bool :=
  match ops[i]?, ops[j]? with
  | some oi, some oj =>
    match oj.dst with
    | none => true
    | some d => Nat.blt d n && (i == j || oi.dst != some d) && (!(looks ops oi).contains d || (if j < i then (preds oi).contains j else i == j || (preds oj).contains i))
  | _, _ => true
def okPreds (ops : Array Oper) (i : Nat) : Bool :=
  match ops[i]? with
  | some o => (preds o).all fun j => Nat.blt j i
  | none => true
def okRegion (ops : Array Oper) (n : Nat) : Bool := (List.range ops.size).all fun i => okPreds ops i && (List.range ops.size).all fun j => okPair ops n i j
def kAt : Known → List Oper → (Nat → Fact) → Nat → Known
  | K, _, _, 0 => K
  | K, [], _, _ + 1 => K
  | K, o :: l, Fs, j + 1 => kAt (addK K o (Fs 0)) l (fun n => Fs (n + 1)) j
def finAt : ((Nat → Value) → Act) → List Oper → (Nat → Fact) → (Nat → Value) → Act
  | fin, [], _ => fin
  | fin, o :: l, Fs => finAt (addFin fin o (Fs 0)) l fun n => Fs (n + 1)
def ndAt : ((Nat → Value) → World → Prop) → List Oper → (Nat → Fact) → (Nat → Value) → World → Prop
  | nds, [], _ => nds
  | nds, o :: l, Fs => ndAt (addNd nds o (Fs 0)) l fun n => Fs (n + 1)
section
theorem look_add_same {K : Known} {o : Oper} {F : Fact} {t : Nat} (h : o.dst = some t) : look (addK K o F) t = some F := by
  unfold addK
  rw [h]
  simp [look, Nat.beq_refl]
theorem look_add_other {K : Known} {o : Oper} {F : Fact} {t : Nat} (h : o.dst ≠ some t) : look (addK K o F) t = look K t := by
  unfold addK
  cases hd : o.dst with
  | none => rfl
  | some d =>
    have hne : Nat.beq d t = false := by
      cases hb : Nat.beq d t with
      | false => rfl
      | true => exact absurd (by rw [hd, Nat.eq_of_beq_eq_true hb]) h
    simp [look, hne]
theorem look_kAt_other : ∀ (l : List Oper) (K : Known) (Fs : Nat → Fact) (j t : Nat), (∀ (k : Nat) (o : Oper), k < j → l[k]? = some o → o.dst ≠ some t) → look (kAt K l Fs j) t = look K t
  | _, _, _, 0, _, _ => by simp [kAt]
  | [], _, _, _ + 1, _, _ => rfl
  | o :: l, K, Fs, j + 1, t, h => by
    show look (kAt (addK K o (Fs 0)) l _ j) t = _
    rw [look_kAt_other l _ _ j t (fun k o' hk ho => h (k + 1) o' (by omega) (by simpa using ho)), look_add_other (h 0 o (by omega) rfl)]
theorem look_kAt_same : ∀ (l : List Oper) (K : Known) (Fs : Nat → Fact) (j t k : Nat) (o : Oper), (∀ (k k' : Nat) (o o' : Oper), l[k]? = some o → l[k']? = some o' → o.dst = some t → o'.dst = some t → k = k') → k < j → l[k]? = some o → o.dst = some t → look (kAt K l Fs j) t = some (Fs k)
  | _, _, _, 0, _, _, _, _, hk, _, _ => absurd hk (Nat.not_lt_zero _)
  | [], _, _, _ + 1, _, _, _, _, _, ho, _ => by simp at ho
  | x :: l, K, Fs, j + 1, t, 0, o, hu, hk, ho, hd => by
    show look (kAt (addK K x (Fs 0)) l _ j) t = _
    obtain rfl : x = o := by simpa using ho
    rw [look_kAt_other l _ _ j t (fun k o' _ ho' e => by have := hu 0 (k + 1) x o' rfl (by simpa using ho') hd e; omega), look_add_same hd]
  | x :: l, K, Fs, j + 1, t, k + 1, o, hu, hk, ho, hd => by
    show look (kAt (addK K x (Fs 0)) l _ j) t = _
    exact look_kAt_same l _ _ j t k o (fun a b o1 o2 h1 h2 e1 e2 => by have := hu (a + 1) (b + 1) o1 o2 (by simpa using h1) (by simpa using h2) e1 e2; omega) (by omega) (by simpa using ho) hd
theorem getD_put_same {a : Act} {d : Nat} {v : Value} (h : d < a.tmps.size) : (a.put (some d) v).tmps.getD d undef = v := by
  simp [Act.put, Array.getD_eq_getD_getElem?, h]
theorem getD_put_other {a : Act} {x : Option Nat} {t : Nat} {v : Value} (h : x ≠ some t) : (a.put x v).tmps.getD t undef = a.tmps.getD t undef := by
  cases x with
  | none => rfl
  | some d =>
    have hne : d ≠ t := fun e => h (by rw [e])
    simp [Act.put, Array.getD_eq_getD_getElem?, Array.getElem?_setIfInBounds_ne hne]
theorem size_put (a : Act) (x : Option Nat) (v : Value) : (a.put x v).tmps.size = a.tmps.size := by
  cases x <;> simp [Act.put]
theorem defers_put (a : Act) (x : Option Nat) (v : Value) : (a.put x v).defers = a.defers := by
  cases x <;> rfl
theorem addFin_put (fin : (Nat → Value) → Act) (o : Oper) (F : Fact) (ρ : Nat → Value) : ∃ v, addFin fin o F ρ = (fin ρ).put o.dst v ∧ ∀ d w, o.dst = some d → F.holds (ρ d) w → v = ρ d := by
  cases F with
  | det v => exact ⟨v, rfl, fun d w _ h => h.symm⟩
  | nd R => exact ⟨_, rfl, fun d w h _ => by rw [h]⟩
theorem finAt_spec (ρ : Nat → Value) : ∀ (l : List Oper) (fin : (Nat → Value) → Act) (Fs : Nat → Fact) (w : World) (n : Nat), (fin ρ).tmps.size = n → (∀ (k : Nat) (o : Oper) (d : Nat), l[k]? = some o → o.dst = some d → d < n ∧ (Fs k).holds (ρ d) w) →
    (finAt fin l Fs ρ).tmps.size = n ∧ (finAt fin l Fs ρ).defers = (fin ρ).defers ∧ (∀ t, (∀ (k : Nat) (o : Oper), l[k]? = some o → o.dst ≠ some t) → (finAt fin l Fs ρ).tmps.getD t undef = (fin ρ).tmps.getD t undef) ∧
      ∀ (k : Nat) (o : Oper) (d : Nat), l[k]? = some o → o.dst = some d → (finAt fin l Fs ρ).tmps.getD d undef = ρ d
  | [], fin, Fs, w, n, hn, _ => ⟨hn, rfl, fun _ _ => rfl, fun k o d h => by simp at h⟩
  | x :: l, fin, Fs, w, n, hn, h => by
    obtain ⟨v, e, hv⟩ := addFin_put fin x (Fs 0) ρ
    obtain ⟨i1, i2, i3, i4⟩ := finAt_spec ρ l (addFin fin x (Fs 0)) (fun n => Fs (n + 1)) w n (by rw [e, size_put]; exact hn) (fun k o d ho hd => h (k + 1) o d (by simpa using ho) hd)
    refine ⟨i1, i2.trans (by rw [e, defers_put]), fun t ht => ?_, fun k o d ho hd => ?_⟩
    · show (finAt (addFin fin x (Fs 0)) l _ ρ).tmps.getD t undef = _
      rw [i3 t (fun k o ho => ht (k + 1) o (by simpa using ho)), e, getD_put_other (ht 0 x rfl)]
    · show (finAt (addFin fin x (Fs 0)) l _ ρ).tmps.getD d undef = _
      by_cases hex : ∃ (k : Nat) (o : Oper), l[k]? = some o ∧ o.dst = some d
      · obtain ⟨k', o', h1, h2⟩ := hex
        exact i4 k' o' d h1 h2
      · rw [i3 d (fun k o h1 h2 => hex ⟨k, o, h1, h2⟩)]
        cases k with
        | succ k => exact absurd ⟨k, o, by simpa using ho, hd⟩ hex
        | zero =>
          obtain rfl : x = o := by simpa using ho
          obtain ⟨hl, hF⟩ := h 0 x d rfl hd
          rw [e, hd, getD_put_same (by omega)]
          exact hv d w hd hF
theorem ndAt_spec (ρ : Nat → Value) (w : World) : ∀ (l : List Oper) (nds : (Nat → Value) → World → Prop) (Fs : Nat → Fact), nds ρ w → (∀ (k : Nat) (o : Oper) (d : Nat), l[k]? = some o → o.dst = some d → (Fs k).holds (ρ d) w) → ndAt nds l Fs ρ w
  | [], _, _, h, _ => h
  | x :: l, nds, Fs, h, hF => by
    refine ndAt_spec ρ w l _ _ ?_ (fun k o d ho hd => hF (k + 1) o d (by simpa using ho) hd)
    unfold addNd
    have h0 := hF 0 x
    cases hx : Fs 0 with
    | det v => exact h
    | nd R =>
      rw [hx] at h0
      cases hd : x.dst with
      | none => simpa [hd] using h
      | some d => exact ⟨h, h0 d rfl hd⟩
theorem act_ext {a b : Act} (h1 : a.tmps.size = b.tmps.size) (h2 : a.defers = b.defers) (h3 : ∀ t, a.tmps.getD t undef = b.tmps.getD t undef) : a = b := by
  cases a with
  | mk at' ad =>
    cases b with
    | mk bt bd =>
      simp only [Act.mk.injEq] at *
      refine ⟨Array.ext h1 fun i h4 h5 => ?_, h2⟩
      have := h3 i
      simpa [Array.getD_eq_getD_getElem?, h4, h5] using this
end
/-- The edges, as facts. -/
structure Fits (ops : Array Oper) (n : Nat) : Prop where
  lt : ∀ {i : Nat} {o : Oper} {d : Nat}, ops[i]? = some o → o.dst = some d → d < n
  uniq : ∀ {i j : Nat} {o o' : Oper} {d : Nat}, ops[i]? = some o → ops[j]? = some o' → o.dst = some d → o'.dst = some d → i = j
  ahead : ∀ {i j : Nat} {o o' : Oper} {d : Nat}, ops[i]? = some o → ops[j]? = some o' → o'.dst = some d → d ∈ looks ops o → j < i → j ∈ preds o
  behind : ∀ {i j : Nat} {o o' : Oper} {d : Nat}, ops[i]? = some o → ops[j]? = some o' → o'.dst = some d → d ∈ looks ops o → ¬ j < i → i = j ∨ i ∈ preds o'
  small : ∀ {i j : Nat} {o : Oper}, ops[i]? = some o → j ∈ preds o → j < i
theorem fits_of {ops : Array Oper} {n : Nat} (h : okRegion ops n = true) : Fits ops n := by
  have pair : ∀ {i j : Nat} {o o' : Oper}, ops[i]? = some o → ops[j]? = some o' → okPair ops n i j = true := fun {i j o o'} hi hj => by
    have h1 := List.all_eq_true.1 h i (List.mem_range.2 (Array.getElem?_eq_some_iff.1 hi).1)
    rw [Bool.and_eq_true] at h1
    exact List.all_eq_true.1 h1.2 j (List.mem_range.2 (Array.getElem?_eq_some_iff.1 hj).1)
  have parts : ∀ {i j : Nat} {o o' : Oper} {d : Nat}, ops[i]? = some o → ops[j]? = some o' → o'.dst = some d → d < n ∧ (i = j ∨ o.dst ≠ some d) ∧ (d ∉ looks ops o ∨ if j < i then j ∈ preds o else i = j ∨ i ∈ preds o') := fun {i j o o' d} hi hj hd => by
    have h1 := pair hi hj
    unfold okPair at h1
    rw [hi, hj] at h1
    simp only [hd, Bool.and_eq_true, Bool.or_eq_true, beq_iff_eq, bne_iff_ne, Bool.not_eq_true', Nat.blt_eq] at h1
    refine ⟨h1.1.1, h1.1.2, h1.2.imp (fun e m => ?_) (fun e => ?_)⟩
    · rw [List.contains_eq_mem] at e
      exact of_decide_eq_false e m
    · by_cases hlt : j < i
      · rw [if_pos hlt] at e ⊢
        simpa using e
      · rw [if_neg hlt] at e ⊢
        simpa using e
  refine ⟨fun {i o d} hi hd => (parts hi hi hd).1, fun {i j o o' d} hi hj h1 h2 => (parts hi hj h2).2.1.resolve_right (fun e => e h1), fun {i j o o' d} hi hj hd hl hlt => ?_, fun {i j o o' d} hi hj hd hl hlt => ?_, fun {i j o} hi hj => ?_⟩
  · have := (parts hi hj hd).2.2.resolve_left (fun e => e hl)
    rwa [if_pos hlt] at this
  · have := (parts hi hj hd).2.2.resolve_left (fun e => e hl)
    rwa [if_neg hlt] at this
  · have h1 := List.all_eq_true.1 h i (List.mem_range.2 (Array.getElem?_eq_some_iff.1 hi).1)
    rw [Bool.and_eq_true] at h1
    have h2 := h1.1
    unfold okPreds at h2
    rw [hi] at h2
    exact Nat.blt_eq.mp (List.all_eq_true.1 h2 j hj)
/-- What holds when just the listed operations have come up. -/
structure Inv (ops : Array Oper) (a0 : Act) (E G : World → World → Prop) (c : Option Nat) (w0 : World) (Fs : Nat → Fact) (listed : Array Bool) (a : Act) (w : World) : Prop where
  e : G w0 w
  e0 : (∀ j, c = some j → listed.getD j false = false) → E w0 w
  df : a.defers = a0.defers
  sz : a.tmps.size = a0.tmps.size
  old : ∀ t, (∀ (k : Nat) (o : Oper), listed.getD k false = true → ops[k]? = some o → o.dst ≠ some t) → a.tmps.getD t undef = a0.tmps.getD t undef
  new : ∀ (k : Nat) (o : Oper) (d : Nat), listed.getD k false = true → ops[k]? = some o → o.dst = some d → (Fs k).holds (a.tmps.getD d undef) w
  closed : ∀ (k : Nat) (o : Oper), listed.getD k false = true → ops[k]? = some o → ∀ j ∈ preds o, listed.getD j false = true
  lsz : listed.size = ops.size
section
variable {P : Program} {ops : Array Oper} {E G : World → World → Prop} {c : Option Nat} {w0 : World} {a0 : Act} {K0 : Known} {Fs : Nat → Fact}
theorem getD_false_of {l : Array Bool} {i : Nat} (h : l.getD i true = false) : l.getD i false = false ∧ ∃ (hi : i < l.size), l[i] = false := by
  rw [Array.getD_eq_getD_getElem?] at h ⊢
  rcases Nat.lt_or_ge i l.size with h' | h'
  · simp [h'] at h ⊢
    exact h
  · simp [Array.getElem?_eq_none h'] at h
theorem preds_listed {o : Oper} {listed : Array Bool} (h : ∀ e ∈ o.after, Region.binds .any e = true → listed.getD e.on false = true) : ∀ j ∈ preds o, listed.getD j false = true := fun j hj => by
  unfold preds at hj
  obtain ⟨e, he, rfl⟩ := List.mem_map.1 hj
  obtain ⟨h1, h2⟩ := List.mem_filter.1 he
  exact h e (Array.mem_toList_iff.1 h1) h2
/-- Whoever comes up knows what it looks at. -/
theorem Inv.knows {listed : Array Bool} {a : Act} {w : World} (hf : Fits ops a0.tmps.size) (h : Inv ops a0 E G c w0 Fs listed a w) (h0 : ∀ t F, look K0 t = some F → ∀ w, G w0 w → F.holds (a0.tmps.getD t undef) w)
    {i : Nat} {o : Oper} (hi : ops[i]? = some o) (hn : listed.getD i false = false) (hp : ∀ j ∈ preds o, listed.getD j false = true) :
    ∀ t ∈ looks ops o, YReg.knows (kAt K0 ops.toList Fs i) (fun t => a.tmps.getD t undef) w t := fun t ht => by
  have toL : ∀ (k : Nat) (x : Oper), ops.toList[k]? = some x ↔ ops[k]? = some x := fun k x => by rw [Array.getElem?_toList]
  by_cases hex : ∃ (k : Nat) (x : Oper), k < i ∧ ops[k]? = some x ∧ x.dst = some t
  · obtain ⟨k, x, hk, hx, hd⟩ := hex
    unfold YReg.knows
    rw [look_kAt_same ops.toList K0 Fs i t k x (fun a b o1 o2 h1 h2 e1 e2 => hf.uniq ((toL a o1).1 h1) ((toL b o2).1 h2) e1 e2) hk ((toL k x).2 hx) hd]
    exact h.new k x t (hp k (hf.ahead hi hx hd ht hk)) hx hd
  · unfold YReg.knows
    rw [look_kAt_other ops.toList K0 Fs i t (fun k x hk hx hd => hex ⟨k, x, hk, (toL k x).1 hx, hd⟩)]
    have ho : a.tmps.getD t undef = a0.tmps.getD t undef := h.old t fun k x hk hx hd => by
      have hlt : ¬ k < i := fun hlt => hex ⟨k, x, hlt, hx, hd⟩
      rcases hf.behind hi hx hd ht hlt with e | e
      · rw [e] at hn; rw [hn] at hk; cases hk
      · have := h.closed k x hk hx i e
        rw [hn] at this; cases this
    cases hl : look K0 t with
    | none => trivial
    | some F => show F.holds (a.tmps.getD t undef) w; rw [ho]; exact h0 t F hl w h.e
theorem Inv.put {listed : Array Bool} {a : Act} {w w' : World} {i : Nat} {o : Oper} {u : Value} (hf : Fits ops a0.tmps.size) (ht : ∀ a b c, E a b → E b c → E a c) (htG : ∀ a b c, G a b → G b c → G a c) (hsub : ∀ a b, E a b → G a b) (hup : ∀ (k : Nat) (x : Oper), ops[k]? = some x → (Fs k).up (base E G c k)) (h : Inv ops a0 E G c w0 Fs listed a w)
    (hi : ops[i]? = some o) (hp : ∀ j ∈ preds o, listed.getD j false = true) (hE : rel E G c i w w') (hu : (Fs i).holds u w') :
    Inv ops a0 E G c w0 Fs (listed.setIfInBounds i true) (a.put o.dst u) w' := by
  have hil : i < listed.size := by rw [h.lsz]; exact (Array.getElem?_eq_some_iff.1 hi).1
  have self : (listed.setIfInBounds i true).getD i false = true := by simp [Array.getD_eq_getD_getElem?, hil]
  have was : ∀ k, (listed.setIfInBounds i true).getD k false = true → k ≠ i → listed.getD k false = true := fun k hk hne => by
    rwa [getD_set_ne false (Ne.symm hne)] at hk
  have hG : G w w' := by
    unfold rel at hE
    split at hE
    · exact hE
    · exact hsub _ _ hE
  refine ⟨htG _ _ _ h.e hG, fun hj => ?_, (defers_put _ _ _).trans h.df, (size_put _ _ _).trans h.sz, fun t hk => ?_, fun k x d hk hx hd => ?_, fun k x hk hx j hj => ?_, by simpa using h.lsz⟩
  · by_cases e : c = some i
    · have := hj i e
      rw [self] at this
      cases this
    · unfold rel at hE
      rw [if_neg e] at hE
      refine ht _ _ _ (h.e0 fun j hc => ?_) hE
      have := hj j hc
      rwa [getD_set_ne false (fun q => e (by rw [hc, q]))] at this
  · rw [getD_put_other (hk i o self hi)]
    exact h.old t fun k x hk' hx => hk k x (getD_set_true hk') hx
  · by_cases e : k = i
    · subst e
      rw [hi] at hx
      cases hx
      rw [hd, getD_put_same (by rw [h.sz]; exact hf.lt hi hd)]
      exact hu
    · rw [getD_put_other (fun e2 => e (hf.uniq hx hi hd e2))]
      have hu2 := hup k x hx
      unfold base at hu2
      by_cases ec : c = some k
      · rw [if_pos ec] at hu2
        unfold rel at hE
        rw [if_neg (fun q => e (by rw [ec] at q; exact Option.some.inj q))] at hE
        exact hu2 _ _ _ (h.new k x d (was k hk e) hx hd) hE
      · rw [if_neg ec] at hu2
        exact hu2 _ _ _ (h.new k x d (was k hk e) hx hd) hG
  · by_cases e : k = i
    · subst e
      rw [hi] at hx
      cases hx
      exact getD_set_true (hp j hj)
    · exact getD_set_true (h.closed k x (was k hk e) hx j hj)
/-- All have come up once none may. -/
theorem all_listed {listed : Array Bool} (hs : ∀ {i j : Nat} {o : Oper}, ops[i]? = some o → j ∈ preds o → j < i) (hl : listed.size = ops.size) (h : Region.ready .any ops listed = []) : ∀ k, k < ops.size → listed.getD k false = true := by
  intro k
  induction k using Nat.strongRecOn with
  | ind k ih =>
    intro hk
    have ho : ops[k]? = some ops[k] := by simp [hk]
    cases hb : listed.getD k false with
    | true => rfl
    | false =>
      have hr : k ∈ Region.ready .any ops listed := mem_ready.2 ⟨by simp [Array.getD_eq_getD_getElem?, hl, hk] at hb ⊢; exact hb, _, ho, fun e he hbi => by
        have hj : e.on ∈ preds ops[k] := List.mem_map.2 ⟨e, List.mem_filter.2 ⟨Array.mem_toList_iff.2 he, hbi⟩, rfl⟩
        have hlt := hs ho hj
        exact ih e.on hlt (by omega)⟩
      rw [h] at hr
      cases hr
end

/-- Whoever must have come up ahead of operation i, and i. -/
def mark (ops : Array Oper) (i : Nat) : List Nat :=
  (List.range i).reverse.foldl (fun acc k => if acc.any (fun m => match ops[m]? with | some o => (preds o).contains k | none => false) then k :: acc else acc) [i]
def okTail (ops : Array Oper) (N : Nat) : Bool := Nat.blt N ops.size && (List.range ops.size).all fun i => Nat.blt i N || (List.range i).all fun j => (mark ops i).contains j
section
variable {P : Program} {ops : Array Oper} {E G : World → World → Prop} {c : Option Nat} {w0 : World} {a0 : Act} {K0 : Known} {Fs : Nat → Fact} {N : Nat}
theorem mark_listed {listed : Array Bool} (hc : ∀ (k : Nat) (o : Oper), listed.getD k false = true → ops[k]? = some o → ∀ j ∈ preds o, listed.getD j false = true) {i : Nat} {oi : Oper} (hi : ops[i]? = some oi) (hp : ∀ j ∈ preds oi, listed.getD j false = true) :
    ∀ j ∈ mark ops i, j = i ∨ listed.getD j false = true := by
  unfold mark
  generalize (List.range i).reverse = l
  suffices h : ∀ (l : List Nat) (acc : List Nat), (∀ j ∈ acc, j = i ∨ listed.getD j false = true) → ∀ j ∈ l.foldl (fun acc k => if acc.any (fun m => match ops[m]? with | some o => (preds o).contains k | none => false) then k :: acc else acc) acc, j = i ∨ listed.getD j false = true from
    h l [i] (fun j hj => .inl (List.mem_singleton.1 hj))
  intro l
  induction l with
  | nil => intro acc h; exact h
  | cons k l ih =>
    intro acc h
    rw [List.foldl_cons]
    refine ih _ ?_
    split
    · rename_i hany
      intro j hj
      rcases List.mem_cons.1 hj with rfl | hj
      · obtain ⟨m, hm, hmk⟩ := List.any_eq_true.1 hany
        cases ho : ops[m]? with
        | none => rw [ho] at hmk; cases hmk
        | some o =>
          rw [ho] at hmk
          have hmem : j ∈ preds o := by simpa using hmk
          rcases h m hm with rfl | hl
          · rw [hi] at ho; cases ho; exact .inr (hp j hmem)
          · exact .inr (hc m o hl ho j hmem)
      · exact h j hj
    · exact h
theorem tail_below (hT : okTail ops N = true) {listed : Array Bool} (hc : ∀ (k : Nat) (o : Oper), listed.getD k false = true → ops[k]? = some o → ∀ j ∈ preds o, listed.getD j false = true) {i : Nat} {oi : Oper} (hi : ops[i]? = some oi) (hN : N ≤ i)
    (hp : ∀ j ∈ preds oi, listed.getD j false = true) : ∀ j, j < i → listed.getD j false = true := fun j hj => by
  unfold okTail at hT
  rw [Bool.and_eq_true] at hT
  have h1 := List.all_eq_true.1 hT.2 i (List.mem_range.2 (Array.getElem?_eq_some_iff.1 hi).1)
  rw [Bool.or_eq_true] at h1
  rcases h1 with h1 | h1
  · have := Nat.blt_eq.mp h1; omega
  · have h2 := List.all_eq_true.1 h1 j (List.mem_range.2 hj)
    have hm : j ∈ mark ops i := by simpa using h2
    rcases mark_listed hc hi hp j hm with e | e
    · omega
    · exact e
/-- Just the first m have come up. -/
def First (ops : Array Oper) (m : Nat) (listed : Array Bool) : Prop := listed.size = ops.size ∧ ∀ k, k < ops.size → listed.getD k false = decide (k < m)
theorem wpAny_tail {Q : Exit → Act → World → Prop} (hsm : ∀ {i j : Nat} {o : Oper}, ops[i]? = some o → j ∈ preds o → j < i) (hT : okTail ops N = true) : ∀ (fuel m : Nat) (listed : Array Bool) (a : Act) (w : World), N ≤ m → m ≤ ops.size → ops.size ≤ fuel + m → First ops m listed →
    wpList P ops Q (ops.toList.drop m) a w → wpAny P .any ops Q fuel listed a w := by
  have closed : ∀ {m : Nat} {listed : Array Bool}, First ops m listed → ∀ (k : Nat) (o : Oper), listed.getD k false = true → ops[k]? = some o → ∀ j ∈ preds o, listed.getD j false = true := fun {m listed} hF k o hk ho j hj => by
    have hk' := (Array.getElem?_eq_some_iff.1 ho).1
    rw [hF.2 k hk'] at hk
    have := of_decide_eq_true hk
    have := hsm ho hj
    rw [hF.2 j (by omega)]
    exact decide_eq_true (by omega)
  have only : ∀ {m : Nat} {listed : Array Bool}, N ≤ m → First ops m listed → ∀ i ∈ Region.ready .any ops listed, i = m := fun {m listed} hm hF i hi => by
    obtain ⟨h1, o, ho, hall⟩ := mem_ready.1 hi
    have hlt := (Array.getElem?_eq_some_iff.1 ho).1
    obtain ⟨hn, _⟩ := getD_false_of h1
    rw [hF.2 i hlt] at hn
    have hge := of_decide_eq_false hn
    rcases Nat.lt_or_ge m i with h | h
    · have := tail_below hT (closed hF) ho (by omega) (preds_listed hall) m h
      rw [hF.2 m (by omega)] at this
      have := of_decide_eq_true this
      omega
    · omega
  intro fuel
  induction fuel with
  | zero =>
    intro m listed a w hN hm hf hF h
    have e : m = ops.size := by omega
    subst e
    rw [List.drop_eq_nil_of_le (by simp)] at h
    refine ⟨List.eq_nil_iff_forall_not_mem.2 fun i hi => ?_, h⟩
    have := only hN hF i hi
    obtain ⟨_, o, ho, _⟩ := mem_ready.1 hi
    have := (Array.getElem?_eq_some_iff.1 ho).1
    omega
  | succ fuel ih =>
    intro m listed a w hN hm hf hF h
    by_cases hlt : m < ops.size
    · have ho : ops[m]? = some ops[m] := by simp [hlt]
      have hd : ops.toList.drop m = ops[m] :: ops.toList.drop (m + 1) := by
        rw [List.drop_eq_getElem_cons (by simpa using hlt)]
        simp
      rw [hd] at h
      have hr : m ∈ Region.ready .any ops listed := mem_ready.2 ⟨by
        have := hF.2 m hlt
        rw [Array.getD_eq_getD_getElem?] at this ⊢
        simp [hF.1, hlt] at this ⊢
        exact this, _, ho, fun e he hb => by
        have hj : e.on ∈ preds ops[m] := List.mem_map.2 ⟨e, List.mem_filter.2 ⟨Array.mem_toList_iff.2 he, hb⟩, rfl⟩
        have := hsm ho hj
        rw [hF.2 _ (by omega)]
        exact decide_eq_true this⟩
      refine ⟨fun e => (by rw [e] at hr; cases hr), fun i hi => ?_⟩
      have hi := only hN hF i hi
      rw [hi]
      have hF' : First ops (m + 1) (listed.setIfInBounds m true) := by
        refine ⟨by simpa using hF.1, fun k hk => ?_⟩
        by_cases e : k = m
        · subst e
          simp [Array.getD_eq_getD_getElem?, hF.1, hlt]
        · rw [getD_set_ne false (fun q => e q.symm), hF.2 k hk]
          by_cases q : k < m
          · rw [decide_eq_true q, decide_eq_true (by omega)]
          · rw [decide_eq_false q, decide_eq_false (by omega)]
      unfold wpOp
      rw [ho]
      simp only []
      unfold wpList at h
      by_cases hw : Region.wanted ops[m] (yielded ops a.tmps) = true
      · rw [if_pos hw] at h ⊢
        exact h.imp (Oper.wp_mono fun a w h' => ih (m + 1) _ a w (by omega) (by omega) (by omega) hF' h') id
      · rw [if_neg hw] at h ⊢
        exact ih (m + 1) _ _ _ (by omega) (by omega) (by omega) hF' h
    · have e : m = ops.size := by omega
      subst e
      rw [List.drop_eq_nil_of_le (by simp)] at h
      refine ⟨fun _ => h, fun i hi => ?_⟩
      have := only hN hF i hi
      obtain ⟨_, o, ho, _⟩ := mem_ready.1 hi
      have := (Array.getElem?_eq_some_iff.1 ho).1
      omega
theorem wpAny_of_inv_tail {Q' : Exit → Act → World → Prop} (hT : okTail ops N = true) (hf : Fits ops a0.tmps.size) (ht : ∀ a b c, E a b → E b c → E a c) (htG : ∀ a b c, G a b → G b c → G a c) (hsub : ∀ a b, E a b → G a b) (hr : ∀ w, E w w)
    (h0 : ∀ t F, look K0 t = some F → ∀ w, G w0 w → F.holds (a0.tmps.getD t undef) w)
    (hup : ∀ (j : Nat) (o : Oper), ops[j]? = some o → (Fs j).up (base E G c j))
    (hstep : ∀ (j : Nat) (o : Oper), j < N → ops[j]? = some o → ∀ ρ w, base E G c j w0 w → (∀ t ∈ looks ops o, YReg.knows (kAt K0 ops.toList Fs j) ρ w t) → stepE P ops (rel E G c j) o ρ w (Fs j))
    (hfin : ∀ ρ w, G w0 w → ndAt (fun _ _ => True) (ops.toList.take N) Fs ρ w → wpList P ops Q' (ops.toList.drop N) (finAt (fun _ => a0) (ops.toList.take N) Fs ρ) w) :
    ∀ (fuel : Nat) (listed : Array Bool) (a : Act) (w : World), listed.toList.count false ≤ fuel → (∀ k, N ≤ k → listed.getD k false = false) → Inv ops a0 E G c w0 Fs listed a w → wpAny P .any ops Q' fuel listed a w := by
  have hNs : N < ops.size := by
    unfold okTail at hT
    rw [Bool.and_eq_true] at hT
    exact Nat.blt_eq.mp hT.1
  have toL : ∀ (k : Nat) (x : Oper), (ops.toList.take N)[k]? = some x → k < N ∧ ops[k]? = some x := fun k x h => by
    rw [List.getElem?_take] at h
    split at h
    · rename_i hk; exact ⟨hk, by rwa [Array.getElem?_toList] at h⟩
    · cases h
  intro fuel
  have hrr : ∀ i w, rel E G c i w w := fun i w => by
    unfold rel
    split
    · exact hsub _ _ (hr w)
    · exact hr w
  induction fuel with
  | zero =>
    intro listed a w hc hn h
    exfalso
    have hl : N < listed.size := by rw [h.lsz]; exact hNs
    have hx := hn N (Nat.le_refl _)
    rw [Array.getD_eq_getD_getElem?] at hx
    simp [hl] at hx
    have : false ∈ listed.toList := by rw [← hx]; exact Array.getElem_mem_toList hl
    have := List.count_pos_iff.2 this
    omega
  | succ fuel ih =>
    intro listed a w hc hn h
    by_cases hall : ∀ j, j < N → listed.getD j false = true
    · -- all that stand ahead have come up
      have hF : First ops N listed := ⟨h.lsz, fun k hk => by
        by_cases q : k < N
        · rw [hall k q, decide_eq_true q]
        · rw [hn k (by omega), decide_eq_false q]⟩
      have hnew : ∀ (k : Nat) (o : Oper) (d : Nat), (ops.toList.take N)[k]? = some o → o.dst = some d → (Fs k).holds (a.tmps.getD d undef) w := fun k o d ho hd => by
        obtain ⟨hk, ho'⟩ := toL k o ho
        exact h.new k o d (hall k hk) ho' hd
      have hs := finAt_spec (fun t => a.tmps.getD t undef) (ops.toList.take N) (fun _ => a0) Fs w a0.tmps.size rfl (fun k o d ho hd => ⟨hf.lt (toL k o ho).2 hd, hnew k o d ho hd⟩)
      have hq := hfin (fun t => a.tmps.getD t undef) w h.e (ndAt_spec _ w _ _ Fs trivial hnew)
      have e : a = finAt (fun _ => a0) (ops.toList.take N) Fs fun t => a.tmps.getD t undef := by
        refine act_ext (h.sz.trans hs.1.symm) (h.df.trans hs.2.1.symm) fun t => ?_
        by_cases hex : ∃ (k : Nat) (o : Oper), (ops.toList.take N)[k]? = some o ∧ o.dst = some t
        · obtain ⟨k, o, h1, h2⟩ := hex
          exact (hs.2.2.2 k o t h1 h2).symm
        · rw [hs.2.2.1 t (fun k o h1 h2 => hex ⟨k, o, h1, h2⟩)]
          refine h.old t fun k o hk h1 h2 => ?_
          have hkN : k < N := by
            rcases Nat.lt_or_ge k N with q | q
            · exact q
            · rw [hn k q] at hk; cases hk
          refine hex ⟨k, o, ?_, h2⟩
          rw [List.getElem?_take, if_pos hkN, Array.getElem?_toList]
          exact h1
      rw [← e] at hq
      have hcount : ops.size ≤ (fuel + 1) + N := by
        have h1 : listed.toList.drop N = List.replicate (ops.size - N) false := by
          apply List.ext_getElem
          · simp [h.lsz]
          · intro k h1 h2
            have hk : N + k < listed.size := by simp at h1; omega
            have := hn (N + k) (by omega)
            rw [Array.getD_eq_getD_getElem?] at this
            simp [hk] at this
            simpa using this
        have h2 : (listed.toList.drop N).count false = ops.size - N := by rw [h1]; simp
        have h3 : (listed.toList.drop N).count false ≤ listed.toList.count false := (List.drop_sublist N listed.toList).count_le false
        omega
      exact wpAny_tail hf.small hT (fuel + 1) N listed a w (Nat.le_refl _) (by omega) hcount hF hq
    · have hready : ∀ i ∈ Region.ready .any ops listed, i < N := fun i hi => by
        obtain ⟨h1, o, ho, hb⟩ := mem_ready.1 hi
        rcases Nat.lt_or_ge i N with q | q
        · exact q
        · exact absurd (fun j hj => tail_below hT h.closed ho q (preds_listed hb) j (by omega)) hall
      refine ⟨fun he => ?_, fun i hi => ?_⟩
      · have := all_listed hf.small h.lsz he N hNs
        rw [hn N (Nat.le_refl _)] at this
        cases this
      · have hiN := hready i hi
        obtain ⟨h1, o, ho, hb⟩ := mem_ready.1 hi
        obtain ⟨hnl, hl, he⟩ := getD_false_of h1
        have hp := preds_listed hb
        have hc' : (listed.setIfInBounds i true).toList.count false ≤ fuel := by
          have hl' : i < listed.toList.length := by simpa using hl
          have he' : listed.toList[i] = false := by simpa using he
          have hpos : 0 < listed.toList.count false := List.count_pos_iff.2 (by rw [← he']; exact List.getElem_mem hl')
          rw [Array.toList_setIfInBounds, List.count_set hl', he']
          generalize listed.toList.count false = m at hc hpos
          have e1 : (if (false == false) = true then 1 else 0) = 1 := rfl
          have e2 : (if (true == false) = true then 1 else 0) = 0 := rfl
          rw [e1, e2]
          omega
        have hn' : ∀ k, N ≤ k → (listed.setIfInBounds i true).getD k false = false := fun k hk => by
          rw [getD_set_ne false (by omega)]
          exact hn k hk
        have hbase : base E G c i w0 w := by
          unfold base
          split
          · rename_i ec
            exact h.e0 fun j hj => by
              rw [ec] at hj
              cases hj
              exact hnl
          · exact h.e
        have hst := hstep i o hiN ho (fun t => a.tmps.getD t undef) w hbase (h.knows hf h0 ho hnl hp)
        have next : ∀ u w', rel E G c i w w' → (Fs i).holds u w' → wpAny P .any ops Q' fuel (listed.setIfInBounds i true) (a.put o.dst u) w' := fun u w' hE hu => ih _ _ _ hc' hn' (h.put hf ht htG hsub hup ho hp hE hu)
        unfold wpOp
        rw [ho]
        simp only []
        unfold stepE at hst
        rw [wantE_spec]
        by_cases hw : wantE ops o (fun t => a.tmps.getD t undef) = true
        · rw [if_pos hw] at hst
          rw [if_pos hw]
          refine .inl ?_
          unfold Oper.wp
          rw [eval_env]
          generalize (execOp (envOf fun t => a.tmps.getD t undef) o).run P w = r at hst
          cases r with
          | ok n w' =>
            cases n <;> simp only [upE] at hst <;> simp only [Oper.upon]
            case value u => exact next u w' hst.1 hst.2
            case skip => exact next undef w' hst.1 hst.2
            case enter f args =>
              exact hst.mono fun e w'' ⟨u, he, hE, hu⟩ => by subst he; exact next u w'' hE hu
          | halt x w' => simp only [upE] at hst
        · rw [if_neg hw] at hst
          rw [if_neg hw]
          exact next undef w (hrr i w) hst
theorem walk_family_take {Q : Act → World → Prop} : ∀ (c : Option Nat) (l : List Oper) (K : Known) (fin : (Nat → Value) → Act) (nds : (Nat → Value) → World → Prop), walk P ops E G w0 Q c l K fin nds →
    ∃ Fs : Nat → Fact, (∀ j, (Fs j).up (base E G c j)) ∧ (∀ j o, l[j]? = some o → ∀ ρ w, base E G c j w0 w → (∀ t ∈ looks ops o, knows (kAt K l Fs j) ρ w t) → stepE P ops (rel E G c j) o ρ w (Fs j)) ∧
      ∀ ρ w, G w0 w → ndAt nds l Fs ρ w → Q (finAt fin l Fs ρ) w
  | c, [], K, fin, nds, h => ⟨fun _ => .det undef, fun _ => up_det _ _, fun j o hj => by simp at hj, h⟩
  | c, o :: l, K, fin, nds, h => by
    obtain ⟨F, h1, h2, h3⟩ := h
    obtain ⟨Fs, g0, g1, g2⟩ := walk_family_take (dec c) l _ _ _ h3
    refine ⟨fun n => match n with | 0 => F | n + 1 => Fs n, fun j => by cases j with | zero => exact h1 | succ j => rw [← base_dec]; exact g0 j, fun j o' hj => ?_, g2⟩
    cases j with
    | zero =>
      simp at hj
      subst hj
      exact h2
    | succ j =>
      rw [← base_dec, ← rel_dec]
      exact g1 j o' (by simpa using hj)
theorem kAt_take : ∀ (l : List Oper) (K : Known) (Fs : Nat → Fact) (j n : Nat), j ≤ n → kAt K (l.take n) Fs j = kAt K l Fs j
  | _, _, _, 0, _, _ => by simp [kAt]
  | [], _, _, _ + 1, _, _ => by simp [kAt]
  | o :: l, K, Fs, j + 1, n + 1, h => by
    show kAt (addK K o (Fs 0)) (l.take n) _ j = kAt (addK K o (Fs 0)) l _ j
    exact kAt_take l _ _ j n (by omega)
/-- **One walk of what stands ahead, in the order of the text; then the tail, as it stands.** -/
theorem wp_region_tail {id : Nat} {Q : Exit → Act → World → Prop} {w : World} {l : List Oper} (N : Nat) (c : Option Nat) (E G : World → World → Prop) (hr : ∀ w, E w w) (ht : ∀ a b c, E a b → E b c → E a c) (htG : ∀ a b c, G a b → G b c → G a c) (hsub : ∀ a b, E a b → G a b) (hm : P.follows .mixedOrders = true) (hB : okRegion l.toArray a0.tmps.size = true) (hT : okTail l.toArray N = true)
    (K0 : Known) (h0 : ∀ t F, look K0 t = some F → ∀ w', G w.drew w' → F.holds (a0.tmps.getD t undef) w')
    (h : walk P l.toArray E G w.drew (fun a w => wpList P l.toArray Q (l.drop N) a w) c (l.take N) K0 (fun _ => a0) (fun _ _ => True)) : (Code.region id l.toArray true).wp P Q a0 w := by
  obtain ⟨Fs, h1, h2, h3⟩ := walk_family_take c _ K0 _ _ h
  refine wp_region_any hm ?_
  refine wpAny_of_inv_tail (Fs := Fs) (K0 := K0) (a0 := a0) (E := E) (G := G) (c := c) (w0 := w.drew) hT (fits_of hB) ht htG hsub hr h0 (fun j _ _ => h1 j) (fun j o hj ho ρ w' hE hk => ?_) (by simpa using h3) _ _ _ _ ?_ (fun k hk => ?_) ⟨hsub _ _ (hr _), fun _ => hr _, rfl, rfl, fun _ _ => rfl, fun k o d hk => absurd hk ?_, fun k o hk => absurd hk ?_, by simp⟩
  · refine h2 j o ?_ ρ w' hE ?_
    · rw [List.getElem?_take, if_pos hj]
      simpa using ho
    · rw [kAt_take _ _ _ _ _ (by omega)]
      exact hk
  · simp
  · rw [Array.getD_eq_getD_getElem?, Array.getElem?_replicate]
    split <;> rfl
  · rw [Array.getD_eq_getD_getElem?, Array.getElem?_replicate]
    split <;> simp
  · rw [Array.getD_eq_getD_getElem?, Array.getElem?_replicate]
    split <;> simp
end

def wantB (ops : Array Oper) (K : Known) (o : Oper) : Bool :=
  match o.guard with
  | none => true
  | some (_, want) =>
    match guardTmp ops o with
    | some (t, _) =>
      match look K t with
      | some (.det v) => boolOf v == some want
      | _ => false
    | none => false
/-- The guard's slot is known, or there is none. -/
def guardKnown (ops : Array Oper) (K : Known) (o : Oper) : Bool :=
  match guardTmp ops o with
  | some (t, _) =>
    match look K t with
    | some (.det _) => true
    | _ => false
  | none => true
section
variable {P : Program} {ops : Array Oper} {E G : World → World → Prop} {c0 : Option Nat} {w0 : World} {Q : Act → World → Prop} {o : Oper} {l : List Oper} {K : Known} {fin : (Nat → Value) → Act} {nds : (Nat → Value) → World → Prop}
theorem want_of (hw : guardKnown ops K o = true) {ρ : Nat → Value} {w : World} (h : ∀ t ∈ looks ops o, knows K ρ w t) : wantE ops o ρ = wantB ops K o := by
  unfold wantE wantB guardKnown at *
  cases hg : o.guard with
  | none => rfl
  | some p =>
    obtain ⟨g, want⟩ := p
    simp only []
    cases ht : guardTmp ops o with
    | none => rfl
    | some q =>
      obtain ⟨t, b⟩ := q
      rw [ht] at hw
      simp only [] at hw ⊢
      have hk := h t (by unfold looks; rw [ht]; exact List.mem_append_right _ (by simp))
      unfold knows at hk
      cases hl : look K t with
      | none => rw [hl] at hw; cases hw
      | some F =>
        rw [hl] at hw hk
        cases F with
        | nd R => cases hw
        | det v =>
          have hk' : ρ t = v := hk
          simp [hk']
/-- Passed over. -/
theorem walk_skip (hs : c0 ≠ some 0) (d : Nat) (hd : o.dst = some d) (hg : guardKnown ops K o = true) (hw : wantB ops K o = false) (k : walk P ops E G w0 Q (dec c0) l ((d, .det undef) :: K) (fun ρ => (fin ρ).put (some d) undef) nds) : walk P ops E G w0 Q c0 (o :: l) K fin nds := by
  refine ⟨.det undef, up_det _ _, fun ρ w hE hk => ?_, ?_⟩
  · unfold base at hE
    unfold rel
    rw [if_neg hs] at hE ⊢
    unfold stepE
    rw [want_of hg hk, hw]
    exact rfl
  · unfold addK addFin addNd
    rw [hd]
    exact k
/-- One operation, its slots by facts. -/
theorem walk_step (hs : c0 ≠ some 0) (F : Fact) (hup : F.up G) (d : Nat) (hd : o.dst = some d) (hg : guardKnown ops K o = true) (hw : wantB ops K o = true)
    (h : ∀ ρ w, G w0 w → (∀ t ∈ argTmps o, knows K ρ w t) → upE P E w F ((execOp (envOf ρ) o).run P w))
    (k : walk P ops E G w0 Q (dec c0) l ((d, F) :: K) (addFin fin o F) (addNd nds o F)) : walk P ops E G w0 Q c0 (o :: l) K fin nds := by
  refine ⟨F, by unfold base; rw [if_neg hs]; exact hup, fun ρ w hE hk => ?_, ?_⟩
  · unfold base at hE
    unfold rel
    rw [if_neg hs] at hE ⊢
    unfold stepE
    rw [want_of hg hk, hw]
    exact h ρ w hE fun t ht => hk t (by unfold looks; exact List.mem_append_left _ ht)
  · unfold addK
    rw [hd]
    exact k
variable (hr : ∀ w, E w w)
theorem walk_det (hs : c0 ≠ some 0) (c : Value) (d : Nat) (hd : o.dst = some d) (hg : guardKnown ops K o = true) (hw : wantB ops K o = true)
    (h : ∀ ρ w, G w0 w → (∀ t ∈ argTmps o, knows K ρ w t) → upE P E w (.det c) ((execOp (envOf ρ) o).run P w))
    (k : walk P ops E G w0 Q (dec c0) l ((d, .det c) :: K) (fun ρ => (fin ρ).put (some d) c) nds) : walk P ops E G w0 Q c0 (o :: l) K fin nds :=
  walk_step hs (.det c) (up_det _ _) d hd hg hw h (by unfold addFin addNd; rw [hd]; exact k)
theorem walk_nd (hs : c0 ≠ some 0) (R : Value → World → Prop) (hup : (Fact.nd R).up G) (d : Nat) (hd : o.dst = some d) (hg : guardKnown ops K o = true) (hw : wantB ops K o = true)
    (h : ∀ ρ w, G w0 w → (∀ t ∈ argTmps o, knows K ρ w t) → upE P E w (.nd R) ((execOp (envOf ρ) o).run P w))
    (k : walk P ops E G w0 Q (dec c0) l ((d, .nd R) :: K) (fun ρ => (fin ρ).put (some d) (ρ d)) (fun ρ w => nds ρ w ∧ R (ρ d) w)) : walk P ops E G w0 Q c0 (o :: l) K fin nds :=
  walk_step hs (.nd R) hup d hd hg hw h (by unfold addFin addNd; rw [hd]; exact k)
theorem walk_1 (hs : c0 ≠ some 0) (hr : ∀ w, E w w) {t1 : Nat} {v1 : Value} (ha : argTmps o = [t1]) (h1 : look K t1 = some (.det v1)) {c : Value} (h : ∀ ρ w, G w0 w → ρ t1 = v1 → (execOp (envOf ρ) o).run P w = .ok (.value c) w) (d : Nat) (hd : o.dst = some d) (hg : guardKnown ops K o = true) (hw : wantB ops K o = true)
    (k : walk P ops E G w0 Q (dec c0) l ((d, .det c) :: K) (fun ρ => (fin ρ).put (some d) c) nds) : walk P ops E G w0 Q c0 (o :: l) K fin nds :=
  walk_det hs c d hd hg hw (fun ρ w hE hk => by
    have k1 := hk t1 (by rw [ha]; simp)
    unfold knows at k1
    rw [h1] at k1
    rw [h ρ w hE k1]; exact ⟨hr w, rfl⟩) k
theorem walk_2 (hs : c0 ≠ some 0) (hr : ∀ w, E w w) {t1 t2 : Nat} {v1 v2 : Value} (ha : argTmps o = [t1, t2]) (h1 : look K t1 = some (.det v1)) (h2 : look K t2 = some (.det v2)) {c : Value} (h : ∀ ρ w, G w0 w → ρ t1 = v1 → ρ t2 = v2 → (execOp (envOf ρ) o).run P w = .ok (.value c) w) (d : Nat) (hd : o.dst = some d) (hg : guardKnown ops K o = true) (hw : wantB ops K o = true)
    (k : walk P ops E G w0 Q (dec c0) l ((d, .det c) :: K) (fun ρ => (fin ρ).put (some d) c) nds) : walk P ops E G w0 Q c0 (o :: l) K fin nds :=
  walk_det hs c d hd hg hw (fun ρ w hE hk => by
    have k1 := hk t1 (by rw [ha]; simp)
    have k2 := hk t2 (by rw [ha]; simp)
    unfold knows at k1 k2
    rw [h1] at k1
    rw [h2] at k2
    rw [h ρ w hE k1 k2]; exact ⟨hr w, rfl⟩) k
theorem run_1 (hs : c0 ≠ some 0) (hr : ∀ w, E w w) {t1 : Nat} {v1 : Value} (ha : argTmps o = [t1]) (h1 : look K t1 = some (.det v1)) (d : Nat) (hd : o.dst = some d) (hg : guardKnown ops K o = true) (hw : wantB ops K o = true)
    (k : ∃ c, (∀ ρ w, G w0 w → ρ t1 = v1 → (execOp (envOf ρ) o).run P w = .ok (.value c) w) ∧ walk P ops E G w0 Q (dec c0) l ((d, .det c) :: K) (fun ρ => (fin ρ).put (some d) c) nds) : walk P ops E G w0 Q c0 (o :: l) K fin nds := by
  obtain ⟨c, h, k⟩ := k
  exact walk_1 hs hr ha h1 h d hd hg hw k
theorem run_2 (hs : c0 ≠ some 0) (hr : ∀ w, E w w) {t1 t2 : Nat} {v1 v2 : Value} (ha : argTmps o = [t1, t2]) (h1 : look K t1 = some (.det v1)) (h2 : look K t2 = some (.det v2)) (d : Nat) (hd : o.dst = some d) (hg : guardKnown ops K o = true) (hw : wantB ops K o = true)
    (k : ∃ c, (∀ ρ w, G w0 w → ρ t1 = v1 → ρ t2 = v2 → (execOp (envOf ρ) o).run P w = .ok (.value c) w) ∧ walk P ops E G w0 Q (dec c0) l ((d, .det c) :: K) (fun ρ => (fin ρ).put (some d) c) nds) : walk P ops E G w0 Q c0 (o :: l) K fin nds := by
  obtain ⟨c, h, k⟩ := k
  exact walk_2 hs hr ha h1 h2 h d hd hg hw k
theorem execOp_eq {op : Op} (h : o.op = op) (ρ : Nat → Value) : execOp (envOf ρ) o = execOp (envOf ρ) { o with op := op } := by subst h; rfl
theorem walk_move (hs : c0 ≠ some 0) (hr : ∀ w, E w w) {t1 : Nat} {v1 : Value} (ho : o.op = .move (.tmp t1)) (h1 : look K t1 = some (.det v1)) (d : Nat) (hd : o.dst = some d) (hg : guardKnown ops K o = true) (hw : wantB ops K o = true)
    (k : walk P ops E G w0 Q (dec c0) l ((d, .det v1) :: K) (fun ρ => (fin ρ).put (some d) v1) nds) : walk P ops E G w0 Q c0 (o :: l) K fin nds :=
  walk_1 hs hr (t1 := t1) (v1 := v1) (by unfold argTmps; rw [ho]; rfl) h1 (fun ρ w _ e => by rw [execOp_eq ho, ← e]; rfl) d hd hg hw k
/-- A Go function with a body. -/
def enters (P : Program) (f : FuncId) : Bool :=
  match P.funcs[f]? with
  | some fn => !(fn.name == "runtime.NumGoroutine") && !fn.body.isNone
  | none => false
theorem run_enters {f : FuncId} (h : enters P f = true) (args : Array Value) (w : World) : (callFunc f args).run P w = .ok (.enter f args) w := by
  unfold enters at h
  unfold callFunc
  cases hf : P.funcs[f]? with
  | none => rw [hf] at h; cases h
  | some fn =>
    rw [hf] at h
    simp only [Bool.and_eq_true, Bool.not_eq_true', beq_eq_false_iff_ne, ne_eq] at h
    have h2 : ¬ fn.body = none := by
      intro e
      rw [e] at h
      exact absurd h.2 (by simp)
    simp [go_sem, hf, h.1, h2]
/-- A call. -/
theorem walk_fcall (hs : c0 ≠ some 0) (f : FuncId) (hf : enters P f = true) (ats : Array TypeId) (xs : Array Operand) (ho : o.op = .call { callee := .value (.func f), args := xs, argTypes := ats }) (F : Fact) (hup : F.up G) (d : Nat) (hd : o.dst = some d) (hg : guardKnown ops K o = true) (hw : wantB ops K o = true)
    (h : ∀ ρ w, G w0 w → (∀ t ∈ argTmps o, knows K ρ w t) → Calls P f (xs.map (envOf ρ)) w fun e w' => ∃ u, e = .returned u ∧ E w w' ∧ F.holds u w')
    (k : walk P ops E G w0 Q (dec c0) l ((d, F) :: K) (addFin fin o F) (addNd nds o F)) : walk P ops E G w0 Q c0 (o :: l) K fin nds :=
  walk_step hs F hup d hd hg hw (fun ρ w hE hk => by
    rw [execOp_eq ho]
    have e : (execOp (envOf ρ) { o with op := .call { callee := .value (.func f), args := xs, argTypes := ats } }).run P w = .ok (.enter f (xs.map (envOf ρ))) w := by
      have e2 := run_enters hf (xs.map (envOf ρ)) w
      simpa [execOp, resolve, envOf, Deferred.ofValue, invoke] using e2
    rw [e]
    exact h ρ w hE hk) k
end
def argVal (K : Known) : Operand → Option Value
  | .tmp t =>
    match look K t with
    | some (.det v) => some v
    | _ => none
  | .const v => some v
  | .global g => some (.pointer (some ⟨g, 0, none⟩))
  | .func f => some (.func (.func f) #[] #[])
def argVals (K : Known) (xs : Array Operand) : List (Option Value) := xs.toList.map (argVal K)
section
variable {P : Program} {ops : Array Oper} {E G : World → World → Prop} {c0 : Option Nat} {w0 : World} {Q : Act → World → Prop} {o : Oper} {l : List Oper} {K : Known} {fin : (Nat → Value) → Act} {nds : (Nat → Value) → World → Prop}
theorem args_eq {ρ : Nat → Value} {w : World} {f : FuncId} {xs : Array Operand} {ats : Array TypeId} (ho : o.op = .call { callee := .value (.func f), args := xs, argTypes := ats }) (hk : ∀ t ∈ argTmps o, knows K ρ w t) {vs : Array Value} (hv : argVals K xs = vs.toList.map some) : xs.map (envOf ρ) = vs := by
  apply Array.toList_inj.1
  rw [Array.toList_map]
  unfold argVals at hv
  have hmem : ∀ x ∈ xs.toList, ∀ v, argVal K x = some v → envOf ρ x = v := fun x hx v e => by
    cases x with
    | tmp t =>
      have ht : t ∈ argTmps o := by
        unfold argTmps
        rw [ho]
        exact List.mem_filterMap.2 ⟨.tmp t, by simpa [Op.operands, Call.operands] using Array.mem_toList_iff.1 hx, rfl⟩
      have h1 := hk t ht
      unfold knows at h1
      simp only [argVal] at e
      cases hl : look K t with
      | none => rw [hl] at e; cases e
      | some F =>
        rw [hl] at h1 e
        cases F with
        | det u => cases e; exact h1
        | nd R => cases e
    | const u => cases e; rfl
    | global g => cases e; rfl
    | func g => cases e; rfl
  revert hv hmem
  generalize xs.toList = a
  generalize vs.toList = b
  intro hv hmem
  induction a generalizing b with
  | nil => cases b with
    | nil => rfl
    | cons y b => simp at hv
  | cons x a ih => cases b with
    | nil => simp at hv
    | cons y b =>
      simp only [List.map_cons, List.cons.injEq] at hv ⊢
      exact ⟨hmem x (by simp) y hv.1, ih b hv.2 fun x hx => hmem x (by simp [hx])⟩
theorem walk_calld (hs : c0 ≠ some 0) {f : FuncId} {vs : Array Value} {c : Value} (h : ∀ w, G w0 w → Calls P f vs w fun e w' => ∃ u, e = .returned u ∧ E w w' ∧ u = c) {xs : Array Operand} {ats : Array TypeId} (ho : o.op = .call { callee := .value (.func f), args := xs, argTypes := ats })
    (hf : enters P f = true) (hv : argVals K xs = vs.toList.map some) (d : Nat) (hd : o.dst = some d) (hg : guardKnown ops K o = true) (hw : wantB ops K o = true)
    (k : walk P ops E G w0 Q (dec c0) l ((d, .det c) :: K) (fun ρ => (fin ρ).put (some d) c) nds) : walk P ops E G w0 Q c0 (o :: l) K fin nds :=
  walk_fcall hs f hf ats xs ho (.det c) (up_det _ _) d hd hg hw (fun ρ w hE hk => by rw [args_eq ho hk hv]; exact h w hE) (by unfold addFin addNd; rw [hd]; exact k)
theorem walk_calln (hs : c0 ≠ some 0) {f : FuncId} {vs : Array Value} {R : Value → World → Prop} (hup : ∀ u w w', R u w → G w w' → R u w') (h : ∀ w, G w0 w → Calls P f vs w fun e w' => ∃ u, e = .returned u ∧ E w w' ∧ R u w') {xs : Array Operand} {ats : Array TypeId} (ho : o.op = .call { callee := .value (.func f), args := xs, argTypes := ats })
    (hf : enters P f = true) (hv : argVals K xs = vs.toList.map some) (d : Nat) (hd : o.dst = some d) (hg : guardKnown ops K o = true) (hw : wantB ops K o = true)
    (k : walk P ops E G w0 Q (dec c0) l ((d, .nd R) :: K) (fun ρ => (fin ρ).put (some d) (ρ d)) (fun ρ w => nds ρ w ∧ R (ρ d) w)) : walk P ops E G w0 Q c0 (o :: l) K fin nds :=
  walk_fcall hs f hf ats xs ho (.nd R) hup d hd hg hw (fun ρ w hE hk => by rw [args_eq ho hk hv]; exact h w hE) (by unfold addFin addNd; rw [hd]; exact k)
/-- A call of two values that are known by facts. -/
theorem walk_calld2 (hs : c0 ≠ some 0) {f : FuncId} {c : Value} {R1 R2 : Value → World → Prop} (h : ∀ u1 u2 w, G w0 w → R1 u1 w → R2 u2 w → Calls P f #[u1, u2] w fun e w' => ∃ u, e = .returned u ∧ E w w' ∧ u = c) {t1 t2 : Nat} {ats : Array TypeId} (ho : o.op = .call { callee := .value (.func f), args := #[.tmp t1, .tmp t2], argTypes := ats })
    (hf : enters P f = true) (h1 : look K t1 = some (.nd R1)) (h2 : look K t2 = some (.nd R2)) (d : Nat) (hd : o.dst = some d) (hg : guardKnown ops K o = true) (hw : wantB ops K o = true)
    (k : walk P ops E G w0 Q (dec c0) l ((d, .det c) :: K) (fun ρ => (fin ρ).put (some d) c) nds) : walk P ops E G w0 Q c0 (o :: l) K fin nds :=
  walk_fcall hs f hf ats _ ho (.det c) (up_det _ _) d hd hg hw (fun ρ w hE hk => by
    have k1 := hk t1 (by unfold argTmps; rw [ho]; simp [Op.operands, Call.operands])
    have k2 := hk t2 (by unfold argTmps; rw [ho]; simp [Op.operands, Call.operands])
    unfold knows at k1 k2
    rw [h1] at k1
    rw [h2] at k2
    have e : #[Operand.tmp t1, Operand.tmp t2].map (envOf ρ) = #[ρ t1, ρ t2] := by simp [envOf]
    rw [e]
    exact h _ _ w hE k1 k2) (by unfold addFin addNd; rw [hd]; exact k)
/-- An operation of one value known by a fact. -/
theorem nd_1n (hs : c0 ≠ some 0) (R : Value → World → Prop) (hup : ∀ u w w', R u w → G w w' → R u w') {t1 : Nat} {R1 : Value → World → Prop} (ha : argTmps o = [t1]) (h1 : look K t1 = some (.nd R1))
    (h : ∀ ρ w, G w0 w → R1 (ρ t1) w → ∃ u w', (execOp (envOf ρ) o).run P w = .ok (.value u) w' ∧ E w w' ∧ R u w') (d : Nat) (hd : o.dst = some d) (hg : guardKnown ops K o = true) (hw : wantB ops K o = true)
    (k : walk P ops E G w0 Q (dec c0) l ((d, .nd R) :: K) (fun ρ => (fin ρ).put (some d) (ρ d)) (fun ρ w => nds ρ w ∧ R (ρ d) w)) : walk P ops E G w0 Q c0 (o :: l) K fin nds :=
  walk_nd hs R hup d hd hg hw (fun ρ w hE hk => by
    have k1 := hk t1 (by rw [ha]; simp)
    unfold knows at k1
    rw [h1] at k1
    obtain ⟨u, w', e, he, hr⟩ := h ρ w hE k1
    rw [e]; exact ⟨he, hr⟩) k
/-- A call of a value that is known by a fact, and of a known one. -/
theorem walk_calld1 (hs : c0 ≠ some 0) {f : FuncId} {c v2 : Value} {R1 : Value → World → Prop} (h : ∀ u1 w, G w0 w → R1 u1 w → Calls P f #[u1, v2] w fun e w' => ∃ u, e = .returned u ∧ E w w' ∧ u = c) {t1 t2 : Nat} {ats : Array TypeId} (ho : o.op = .call { callee := .value (.func f), args := #[.tmp t1, .tmp t2], argTypes := ats })
    (hf : enters P f = true) (h1 : look K t1 = some (.nd R1)) (h2 : look K t2 = some (.det v2)) (d : Nat) (hd : o.dst = some d) (hg : guardKnown ops K o = true) (hw : wantB ops K o = true)
    (k : walk P ops E G w0 Q (dec c0) l ((d, .det c) :: K) (fun ρ => (fin ρ).put (some d) c) nds) : walk P ops E G w0 Q c0 (o :: l) K fin nds :=
  walk_fcall hs f hf ats _ ho (.det c) (up_det _ _) d hd hg hw (fun ρ w hE hk => by
    have k1 := hk t1 (by unfold argTmps; rw [ho]; simp [Op.operands, Call.operands])
    have k2 := hk t2 (by unfold argTmps; rw [ho]; simp [Op.operands, Call.operands])
    unfold knows at k1 k2
    rw [h1] at k1
    rw [h2] at k2
    have e : #[Operand.tmp t1, Operand.tmp t2].map (envOf ρ) = #[ρ t1, v2] := by
      have k3 : ρ t2 = v2 := k2
      simp [envOf, k3]
    rw [e]
    exact h _ w hE k1) (by unfold addFin addNd; rw [hd]; exact k)
end
section
variable {P : Program} {ops : Array Oper} {E G : World → World → Prop} {w0 : World} {Q : Act → World → Prop} {o : Oper} {l : List Oper} {K : Known} {fin : (Nat → Value) → Act} {nds : (Nat → Value) → World → Prop}
/-- **The call that writes.** -/
theorem writes {f : FuncId} {vs : Array Value} {R : Value → World → Prop} (hup : ∀ u w w', R u w → E w w' → R u w') (h : ∀ w, E w0 w → Calls P f vs w fun e w' => ∃ u, e = .returned u ∧ G w w' ∧ R u w') {xs : Array Operand} {ats : Array TypeId} (ho : o.op = .call { callee := .value (.func f), args := xs, argTypes := ats })
    (hf : enters P f = true) (hv : argVals K xs = vs.toList.map some) (d : Nat) (hd : o.dst = some d) (hg : guardKnown ops K o = true) (hw : wantB ops K o = true)
    {c0 : Option Nat} (hs : c0 = some 0) (k : walk P ops E G w0 Q (dec c0) l ((d, .nd R) :: K) (fun ρ => (fin ρ).put (some d) (ρ d)) (fun ρ w => nds ρ w ∧ R (ρ d) w)) : walk P ops E G w0 Q c0 (o :: l) K fin nds := by
  refine ⟨.nd R, by unfold base; rw [if_pos hs]; exact hup, fun ρ w hE hk => ?_, ?_⟩
  · unfold base at hE
    unfold rel
    rw [if_pos hs] at hE ⊢
    unfold stepE
    rw [want_of hg hk, hw, if_pos rfl]
    have hk' : ∀ t ∈ argTmps o, knows K ρ w t := fun t ht => hk t (by unfold looks; exact List.mem_append_left _ ht)
    have ea := args_eq ho hk' hv
    rw [execOp_eq ho]
    have e : (execOp (envOf ρ) { o with op := .call { callee := .value (.func f), args := xs, argTypes := ats } }).run P w = .ok (.enter f (xs.map (envOf ρ))) w := by
      have e2 := run_enters hf (xs.map (envOf ρ)) w
      simpa [execOp, resolve, envOf, Deferred.ofValue, invoke] using e2
    rw [e, ea]
    exact h w hE
  · unfold addK addFin addNd
    rw [hd]
    exact k
/-- An operation of one known value that comes to a value known by a fact. -/
theorem nd_1 {c0 : Option Nat} (hs : c0 ≠ some 0) (R : Value → World → Prop) (hup : ∀ u w w', R u w → G w w' → R u w') {t1 : Nat} {v1 : Value} (ha : argTmps o = [t1]) (h1 : look K t1 = some (.det v1))
    (h : ∀ ρ w, G w0 w → ρ t1 = v1 → ∃ u w', (execOp (envOf ρ) o).run P w = .ok (.value u) w' ∧ E w w' ∧ R u w') (d : Nat) (hd : o.dst = some d) (hg : guardKnown ops K o = true) (hw : wantB ops K o = true)
    (k : walk P ops E G w0 Q (dec c0) l ((d, .nd R) :: K) (fun ρ => (fin ρ).put (some d) (ρ d)) (fun ρ w => nds ρ w ∧ R (ρ d) w)) : walk P ops E G w0 Q c0 (o :: l) K fin nds :=
  walk_nd hs R hup d hd hg hw (fun ρ w hE hk => by
    have k1 := hk t1 (by rw [ha]; simp)
    unfold knows at k1
    rw [h1] at k1
    obtain ⟨u, w', e, he, hr⟩ := h ρ w hE k1
    rw [e]; exact ⟨he, hr⟩) k
/-- An operation of no slot that comes to a value known by a fact. -/
theorem nd_0 {c0 : Option Nat} (hs : c0 ≠ some 0) (R : Value → World → Prop) (hup : ∀ u w w', R u w → G w w' → R u w')
    (h : ∀ ρ w, G w0 w → ∃ u w', (execOp (envOf ρ) o).run P w = .ok (.value u) w' ∧ E w w' ∧ R u w') (d : Nat) (hd : o.dst = some d) (hg : guardKnown ops K o = true) (hw : wantB ops K o = true)
    (k : walk P ops E G w0 Q (dec c0) l ((d, .nd R) :: K) (fun ρ => (fin ρ).put (some d) (ρ d)) (fun ρ w => nds ρ w ∧ R (ρ d) w)) : walk P ops E G w0 Q c0 (o :: l) K fin nds :=
  walk_nd hs R hup d hd hg hw (fun ρ w hE _ => by
    obtain ⟨u, w', e, he, hr⟩ := h ρ w hE
    rw [e]; exact ⟨he, hr⟩) k
end

open RowKit
def Ext (w w' : World) : Prop := Below w.heap.size w w'
theorem Ext.refl (w : World) : Ext w w := Below.refl _ _
theorem Ext.trans (a b c : World) (h1 : Ext a b) (h2 : Ext b c) : Ext a c := Below.trans h1 (Below.mono h2 h1.size)
/-- Behind the draw. -/
theorem Ext.of_drew {w w' : World} (h : Ext w.drew w') : Below w.heap.size w w' := ((Below.refl w.heap.size w).drew).trans h
section
variable {E : World → World → Prop} {w0 : World} {a0 : Act}
theorem base_nil : ∀ t F, look [] t = some F → ∀ w', E w0 w' → F.holds (a0.tmps.getD t undef) w' := fun t F h => by cases h
theorem base_cons {t0 : Nat} {v : Value} {K : Known} (h : a0.tmps.getD t0 undef = v) (hK : ∀ t F, look K t = some F → ∀ w', E w0 w' → F.holds (a0.tmps.getD t undef) w') :
    ∀ t F, look ((t0, .det v) :: K) t = some F → ∀ w', E w0 w' → F.holds (a0.tmps.getD t undef) w' := fun t F hl => by
  unfold look at hl
  cases hb : Nat.beq t0 t with
  | true =>
    rw [hb] at hl
    cases hl
    intro w' _
    rw [← Nat.eq_of_beq_eq_true hb]
    exact h
  | false =>
    rw [hb] at hl
    exact hK t F hl
end
end Go.YReg
