/- Linked lists without memory: links by handles, and the row of handles that they stand for. Plain lists and numbers. -/
namespace Go.Proofs.YtnncomhgclffaaaL.Row

section
variable {α : Type}

def setNext (L : Int → Option (α × Int × Int)) (h q : Int) : Int → Option (α × Int × Int) := fun y => if y = h then (L y).map (fun p => (p.1, q, p.2.2)) else L y
def setPrev (L : Int → Option (α × Int × Int)) (h q : Int) : Int → Option (α × Int × Int) := fun y => if y = h then (L y).map (fun p => (p.1, p.2.1, q)) else L y
def ins (L : Int → Option (α × Int × Int)) (h : Int) (x : Option (α × Int × Int)) : Int → Option (α × Int × Int) := fun y => if y = h then x else L y
def isOf (L : Int → Option (α × Int × Int)) (h : Int) : Bool := if h = 0 then false else (L h).isSome
def valOf (z : α) (L : Int → Option (α × Int × Int)) (h : Int) : α := if h = 0 then z else ((L h).map (·.1)).getD z
def nextOf (L : Int → Option (α × Int × Int)) (h : Int) : Int := ((L h).map (·.2.1)).getD 0
def prevOf (L : Int → Option (α × Int × Int)) (h : Int) : Int := ((L h).map (·.2.2)).getD 0
def putL (L : Int → Option (α × Int × Int)) (last h ph : Int) (v : α) : Int → Option (α × Int × Int) :=
  setPrev (setNext (ins L (last + 1) (some (v, h, ph))) ph (last + 1)) h (last + 1)
def removeL (L : Int → Option (α × Int × Int)) (h nx pv : Int) : Int → Option (α × Int × Int) := ins (setPrev (setNext L pv nx) nx pv) h none
def newL (z : α) : Int → Option (α × Int × Int) := fun y => if y = 0 then some (z, 0, 0) else none

/-- Each one's next is the one behind it, whose previous one it is. -/
def Adj (N P : Int → Int) : List Int → Prop
  | x :: y :: r => (N x = y ∧ P y = x) ∧ Adj N P (y :: r)
  | _ => True

theorem Adj.append {N P : Int → Int} {x : Int} {b : List Int} : ∀ {a : List Int}, Adj N P (a ++ x :: b) ↔ Adj N P (a ++ [x]) ∧ Adj N P (x :: b)
  | [] => by simp [Adj]
  | [y] => by simp [Adj]
  | y :: z :: a => by
    have := Adj.append (N := N) (P := P) (x := x) (b := b) (a := z :: a)
    simp only [List.cons_append, Adj] at this ⊢
    rw [this]
    simp only [and_assoc]

theorem Adj.congr {N P N' P' : Int → Int} : ∀ {l : List Int}, Adj N P l → (∀ x ∈ l.dropLast, N' x = N x) → (∀ y ∈ l.tail, P' y = P y) → Adj N' P' l
  | [], _, _, _ => trivial
  | [_], _, _, _ => trivial
  | x :: y :: r, h, hN, hP => by
    refine ⟨⟨?_, ?_⟩, h.2.congr (fun z hz => hN z ?_) (fun z hz => hP z ?_)⟩
    · rw [hN x (by simp)]; exact h.1.1
    · rw [hP y (by simp)]; exact h.1.2
    · simp only [List.dropLast_cons_cons]; exact List.mem_cons_of_mem _ hz
    · exact List.mem_cons_of_mem _ (show z ∈ r from hz)

theorem Adj.at {N P : Int → Int} : ∀ {l : List Int} {i : Nat} {x y : Int}, Adj N P l → l[i]? = some x → l[i + 1]? = some y → N x = y ∧ P y = x
  | [], _, _, _, _, h, _ => by simp at h
  | [_], 0, _, _, _, _, h => by simp at h
  | [_], _ + 1, _, _, _, h, _ => by simp at h
  | a :: b :: r, 0, x, y, h, hx, hy => by
    simp at hx hy
    subst hx hy
    exact h.1
  | a :: b :: r, i + 1, x, y, h, hx, hy => h.2.at (i := i) (by simpa using hx) (by simpa using hy)

structure Rep (L : Int → Option (α × Int × Int)) (row : List Int) (vals : List α) : Prop where
  dom : ∀ h, (L h).isSome ↔ h = 0 ∨ h ∈ row
  val : ∀ h x n p, L h = some (x, n, p) → h ≠ 0 → vals[(h - 1).toNat]? = some x
  adj : Adj (nextOf L) (prevOf L) (0 :: (row ++ [0]))
  nodup : row.Nodup
  bd : ∀ h ∈ row, 1 ≤ h ∧ h ≤ vals.length

theorem Rep.new (z : α) : Rep (newL z) [] [] where
  dom h := by unfold newL; split <;> simp_all
  val h x n p e h0 := by unfold newL at e; rw [if_neg h0] at e; cases e
  adj := by simp [Adj, nextOf, prevOf, newL]
  nodup := List.nodup_nil
  bd h hh := by cases hh

theorem map_isSome {β γ : Type} (f : β → γ) (o : Option β) : (o.map f).isSome = o.isSome := by cases o <;> rfl

/-- The handle h has been put behind a, ahead of b. -/
theorem Rep.put {L : Int → Option (α × Int × Int)} {a b : List Int} {vals : List α} (R : Rep L (a ++ b) vals) (v : α) {t p : Int} (ht : (b ++ [0]).head? = some t) (hp : (0 :: a).getLast? = some p) :
    prevOf L t = p ∧ Rep (putL L vals.length t p v) (a ++ ((vals.length : Int) + 1) :: b) (vals ++ [v]) := by
  obtain ⟨b0, hb⟩ : ∃ b0, b ++ [0] = t :: b0 := by
    cases b with
    | nil => simp at ht; exact ⟨[], by simp [ht]⟩
    | cons x b => simp at ht; exact ⟨b ++ [0], by simp [ht]⟩
  obtain ⟨a0, ha⟩ : ∃ a0, 0 :: a = a0 ++ [p] := List.getLast?_eq_some_iff.1 hp
  have hc : 0 :: ((a ++ b) ++ [0]) = a0 ++ p :: t :: b0 := by
    rw [List.append_assoc, hb, ← List.cons_append, ha]; simp
  have hadj := R.adj
  rw [hc] at hadj
  obtain ⟨A1, ⟨hN, hP⟩, A2⟩ := Adj.append.1 hadj
  have hnew : ∀ x ∈ 0 :: (a ++ b), x ≠ (vals.length : Int) + 1 := by
    intro x hx
    rcases List.mem_cons.1 hx with rfl | hx
    · omega
    · have := (R.bd x hx).2; omega
  have n1 : (0 :: (a ++ b)).Nodup := List.nodup_cons.2 ⟨fun h0 => by have := (R.bd 0 h0).1; omega, R.nodup⟩
  have n2 : ((a ++ b) ++ [0]).Nodup := by
    rw [List.nodup_append]
    exact ⟨R.nodup, by simp, fun x hx y hy => by simp at hy; subst hy; have := (R.bd x hx).1; omega⟩
  rw [← List.cons_append, ha, List.append_assoc] at n1
  rw [List.append_assoc, hb] at n2
  have memA : ∀ x, x ∈ a0 ++ [p] → x ∈ 0 :: (a ++ b) := fun x hx => by
    rw [← ha] at hx
    rcases List.mem_cons.1 hx with rfl | hx
    · simp
    · simp [hx]
  have memB : ∀ x, x ∈ t :: b0 → x ∈ 0 :: (a ++ b) := fun x hx => by
    rw [← hb] at hx
    rcases List.mem_append.1 hx with hx | hx
    · simp [hx]
    · simp at hx; simp [hx]
  have pin : p ∈ 0 :: (a ++ b) := memA p (by simp)
  have tin : t ∈ 0 :: (a ++ b) := memB t (by simp)
  have pne := hnew p pin
  have tne := hnew t tin
  have Lp : (L p).isSome := (R.dom p).2 (by simpa using pin)
  have Lt : (L t).isSome := (R.dom t).2 (by simpa using tin)
  have eN : ∀ x, x ≠ (vals.length : Int) + 1 → nextOf (putL L vals.length t p v) x = if x = p then (vals.length : Int) + 1 else nextOf L x := by
    intro x hx
    unfold nextOf putL setPrev setNext ins
    by_cases h1 : x = p
    · subst h1
      obtain ⟨⟨c1, c2, c3⟩, e⟩ := Option.isSome_iff_exists.1 Lp
      by_cases h2 : x = t
      · subst h2; simp [hx, e]
      · simp [hx, h2, e]
    · by_cases h2 : x = t
      · subst h2; simp only [if_neg h1, if_neg hx, if_true]; cases L x <;> rfl
      · simp [h1, h2, hx]
  have eP : ∀ x, x ≠ (vals.length : Int) + 1 → prevOf (putL L vals.length t p v) x = if x = t then (vals.length : Int) + 1 else prevOf L x := by
    intro x hx
    unfold prevOf putL setPrev setNext ins
    by_cases h2 : x = t
    · subst h2
      obtain ⟨⟨c1, c2, c3⟩, e⟩ := Option.isSome_iff_exists.1 Lt
      by_cases h1 : x = p
      · subst h1; simp [hx, e]
      · simp [hx, h1, e]
    · by_cases h1 : x = p
      · subst h1; simp only [if_neg h2, if_neg hx, if_true]; cases L x <;> rfl
      · simp [h1, h2, hx]
  have eNew : putL L vals.length t p v ((vals.length : Int) + 1) = some (v, t, p) := by
    unfold putL setPrev setNext ins
    rw [if_neg (Ne.symm tne), if_neg (Ne.symm pne), if_pos rfl]
  refine ⟨hP, ⟨fun h => ?_, fun h x n q e h0 => ?_, ?_, ?_, ?_⟩⟩
  · have hs : (putL L vals.length t p v h).isSome = (ins L ((vals.length : Int) + 1) (some (v, t, p)) h).isSome := by
      unfold putL setPrev setNext
      split <;> split <;> simp only [map_isSome]
    rw [hs]
    unfold ins
    by_cases hn : h = (vals.length : Int) + 1
    · simp [hn]
    · rw [if_neg hn, R.dom]
      simp only [List.mem_append, List.mem_cons]
      constructor
      · rintro (h | h | h)
        · exact .inl h
        · exact .inr (.inl h)
        · exact .inr (.inr (.inr h))
      · rintro (h | h | h | h)
        · exact .inl h
        · exact .inr (.inl h)
        · exact absurd h hn
        · exact .inr (.inr h)
  · have hv : ∀ y, (putL L vals.length t p v y).map (·.1) = (ins L ((vals.length : Int) + 1) (some (v, t, p)) y).map (·.1) := fun y => by
      unfold putL setPrev setNext
      split <;> split <;> cases ins L ((vals.length : Int) + 1) (some (v, t, p)) y <;> rfl
    have h1 := hv h
    rw [e] at h1
    unfold ins at h1
    by_cases hn : h = (vals.length : Int) + 1
    · rw [if_pos hn] at h1
      simp at h1
      subst hn h1
      rw [List.getElem?_append_right (by omega)]
      have : ((vals.length : Int) + 1 - 1).toNat - vals.length = 0 := by omega
      rw [this]; rfl
    · rw [if_neg hn] at h1
      cases eL : L h with
      | none => rw [eL] at h1; simp at h1
      | some y =>
        obtain ⟨y, n', q'⟩ := y
        rw [eL] at h1
        simp at h1
        subst h1
        have := R.val h x n' q' eL h0
        rw [List.getElem?_append_left (List.getElem?_eq_some_iff.1 this).1]
        exact this
  · have hc' : 0 :: ((a ++ ((vals.length : Int) + 1) :: b) ++ [0]) = a0 ++ p :: ((vals.length : Int) + 1) :: t :: b0 := by
      rw [List.append_assoc, List.cons_append, hb, ← List.cons_append, ha]; simp
    rw [hc']
    have aA : a = (a0 ++ [p]).tail := by rw [← ha]; rfl
    have bB : b = (t :: b0).dropLast := by rw [← hb]; simp
    obtain ⟨m1, m2, m3⟩ := List.nodup_append.1 n1
    obtain ⟨k1, k2, k3⟩ := List.nodup_append.1 n2
    refine Adj.append.2 ⟨A1.congr (fun x hx => ?_) (fun y hy => ?_), ⟨?_, ?_⟩, ⟨?_, ?_⟩, A2.congr (fun x hx => ?_) (fun y hy => ?_)⟩
    · rw [List.dropLast_concat] at hx
      rw [eN x (hnew x (memA x (by simp [hx]))), if_neg]
      intro e
      exact m3 x hx p (by simp) e
    · rw [← aA] at hy
      rw [eP y (hnew y (by simp [hy])), if_neg]
      intro e
      exact k3 y hy t (by simp) e
    · rw [eN p pne, if_pos rfl]
    · unfold prevOf; rw [eNew]; rfl
    · unfold nextOf; rw [eNew]; rfl
    · rw [eP t tne, if_pos rfl]
    · rw [← bB] at hx
      rw [eN x (hnew x (by simp [hx])), if_neg]
      intro e
      exact (List.nodup_append.1 m2).2.2 p (by simp) x hx e.symm
    · replace hy : y ∈ b0 := hy
      rw [eP y (hnew y (memB y (by simp [hy]))), if_neg]
      intro e
      subst e
      exact (List.nodup_cons.1 k2).1 hy
  · rw [List.nodup_append]
    obtain ⟨d1, d2, d3⟩ := List.nodup_append.1 R.nodup
    refine ⟨d1, List.nodup_cons.2 ⟨fun h => hnew _ (by simp [h]) rfl, d2⟩, fun x hx y hy => ?_⟩
    rcases List.mem_cons.1 hy with rfl | hy
    · exact hnew x (by simp [hx])
    · exact d3 x hx y hy
  · intro h hh
    simp only [List.mem_append, List.mem_cons] at hh
    have hl : ((vals ++ [v]).length : Int) = vals.length + 1 := by simp
    rw [hl]
    rcases hh with hh | rfl | hh
    · have := R.bd h (by simp [hh]); omega
    · omega
    · have := R.bd h (by simp [hh]); omega

/-- The handle h has been taken out. -/
theorem Rep.remove {L : Int → Option (α × Int × Int)} {a b : List Int} {vals : List α} {h : Int} (R : Rep L (a ++ h :: b) vals) :
    h ≠ 0 ∧ (∃ v, L h = some (v, nextOf L h, prevOf L h)) ∧ (L (nextOf L h)).isSome ∧ (L (prevOf L h)).isSome ∧ h ≠ nextOf L h ∧ h ≠ prevOf L h ∧ Rep (removeL L h (nextOf L h) (prevOf L h)) (a ++ b) vals := by
  obtain ⟨q, b0, hb⟩ : ∃ q b0, b ++ [0] = q :: b0 := by
    cases b with
    | nil => exact ⟨0, [], rfl⟩
    | cons x b => exact ⟨x, b ++ [0], rfl⟩
  obtain ⟨a0, p, ha⟩ : ∃ a0 p, 0 :: a = a0 ++ [p] := by
    rcases List.eq_nil_or_concat (0 :: a) with h1 | ⟨a0, p, h1⟩
    · cases h1
    · exact ⟨a0, p, by rw [h1]; simp⟩
  have hc : 0 :: ((a ++ h :: b) ++ [0]) = a0 ++ p :: h :: q :: b0 := by
    rw [List.append_assoc, List.cons_append, hb, ← List.cons_append, ha]; simp
  have hadj := R.adj
  rw [hc] at hadj
  obtain ⟨A1, ⟨hN, hP⟩, ⟨hN2, hP2⟩, A2⟩ := Adj.append.1 hadj
  rw [hN2, hP]
  have n1 : (0 :: (a ++ h :: b)).Nodup := List.nodup_cons.2 ⟨fun h0 => by have := (R.bd 0 h0).1; omega, R.nodup⟩
  have n2 : ((a ++ h :: b) ++ [0]).Nodup := by
    rw [List.nodup_append]
    exact ⟨R.nodup, by simp, fun x hx y hy => by simp at hy; subst hy; have := (R.bd x hx).1; omega⟩
  rw [← List.cons_append, ha, List.append_assoc] at n1
  rw [List.append_assoc, List.cons_append, hb] at n2
  obtain ⟨m1, m2, m3⟩ := List.nodup_append.1 n1
  obtain ⟨k1, k2, k3⟩ := List.nodup_append.1 n2
  have h0 : h ≠ 0 := by have := (R.bd h (by simp)).1; omega
  have memA : ∀ x, x ∈ a0 ++ [p] → x = 0 ∨ x ∈ a := fun x hx => by
    rw [← ha] at hx
    simpa using hx
  have memB : ∀ x, x ∈ q :: b0 → x = 0 ∨ x ∈ b := fun x hx => by
    rw [← hb] at hx
    rcases List.mem_append.1 hx with hx | hx
    · exact .inr hx
    · simp at hx; exact .inl hx
  have hpne : h ≠ p := by
    intro e
    exact m3 p (by
      have : p ∈ a0 ++ [p] := by simp
      rcases List.mem_append.1 (show p ∈ a0 ++ [p] by simp) with h1 | h1
      · exact h1
      · exact absurd e (by
          intro e2
          have hin := memA p (by simp)
          rcases hin with h3 | h3
          · exact h0 (e2.trans h3)
          · have := (List.nodup_append.1 R.nodup).2.2 p h3 h (by simp)
            exact this e2.symm)) h (by simp) e.symm
  have hqne : h ≠ q := by
    intro e
    have := (List.nodup_cons.1 k2).1
    exact this (by rw [e]; simp)
  have Lp : (L p).isSome := (R.dom p).2 (by rcases memA p (by simp) with h1 | h1; exact .inl h1; exact .inr (by simp [h1]))
  have Lq : (L q).isSome := (R.dom q).2 (by rcases memB q (by simp) with h1 | h1; exact .inl h1; exact .inr (by simp [h1]))
  have Lh : (L h).isSome := (R.dom h).2 (by simp)
  have ehead : ∃ v, L h = some (v, q, p) := by
    obtain ⟨⟨v, n', p'⟩, e⟩ := Option.isSome_iff_exists.1 Lh
    have e1 : nextOf L h = n' := by unfold nextOf; rw [e]; rfl
    have e2 : prevOf L h = p' := by unfold prevOf; rw [e]; rfl
    exact ⟨v, by rw [e, ← hN2, ← hP, e1, e2]⟩
  have eN : ∀ x, x ≠ h → nextOf (removeL L h q p) x = if x = p then q else nextOf L x := by
    intro x hx
    unfold nextOf removeL ins setPrev setNext
    rw [if_neg hx]
    by_cases h1 : x = p
    · subst h1
      obtain ⟨⟨c1, c2, c3⟩, e⟩ := Option.isSome_iff_exists.1 Lp
      by_cases h2 : x = q
      · subst h2; simp [e]
      · simp [h2, e]
    · by_cases h2 : x = q
      · subst h2; simp only [if_neg h1, if_true]; cases L x <;> rfl
      · simp [h1, h2]
  have eP : ∀ x, x ≠ h → prevOf (removeL L h q p) x = if x = q then p else prevOf L x := by
    intro x hx
    unfold prevOf removeL ins setPrev setNext
    rw [if_neg hx]
    by_cases h2 : x = q
    · subst h2
      obtain ⟨⟨c1, c2, c3⟩, e⟩ := Option.isSome_iff_exists.1 Lq
      by_cases h1 : x = p
      · subst h1; simp [e]
      · simp [h1, e]
    · by_cases h1 : x = p
      · subst h1; simp only [if_neg h2, if_true]; cases L x <;> rfl
      · simp [h1, h2]
  have nda := (List.nodup_append.1 R.nodup)
  have hna : h ∉ a := fun hx => nda.2.2 h hx h (by simp) rfl
  have hnb : h ∉ b := (List.nodup_cons.1 nda.2.1).1
  refine ⟨h0, ehead, Lq, Lp, hqne, hpne, ⟨fun x => ?_, fun x v n' p' e hx0 => ?_, ?_, ?_, ?_⟩⟩
  · unfold removeL ins
    by_cases hx : x = h
    · subst hx
      simp [h0, hna, hnb]
    · rw [if_neg hx]
      have hs : (setPrev (setNext L p q) q p x).isSome = (L x).isSome := by
        unfold setPrev setNext
        split <;> split <;> simp only [map_isSome]
      rw [hs, R.dom]
      simp [hx]
  · unfold removeL ins at e
    by_cases hx : x = h
    · rw [if_pos hx] at e; cases e
    · rw [if_neg hx] at e
      have hv : (setPrev (setNext L p q) q p x).map (·.1) = (L x).map (·.1) := by
        unfold setPrev setNext
        split <;> split <;> cases L x <;> rfl
      rw [e] at hv
      cases eL : L x with
      | none => rw [eL] at hv; simp at hv
      | some y =>
        obtain ⟨y, n2, p2⟩ := y
        rw [eL] at hv
        simp at hv
        subst hv
        exact R.val x _ n2 p2 eL hx0
  · have hc' : 0 :: ((a ++ b) ++ [0]) = a0 ++ p :: q :: b0 := by
      rw [List.append_assoc, hb, ← List.cons_append, ha]; simp
    rw [hc']
    have aA : a = (a0 ++ [p]).tail := by rw [← ha]; rfl
    have bB : b = (q :: b0).dropLast := by rw [← hb]; simp
    have hneA : ∀ x, x ∈ a0 ++ [p] → x ≠ h := fun x hx e => by
      subst e
      rcases memA x hx with h1 | h1
      · exact h0 h1
      · exact hna h1
    have hneB : ∀ x, x ∈ q :: b0 → x ≠ h := fun x hx e => by
      subst e
      rcases memB x hx with h1 | h1
      · exact h0 h1
      · exact hnb h1
    refine Adj.append.2 ⟨A1.congr (fun x hx => ?_) (fun y hy => ?_), ⟨?_, ?_⟩, A2.congr (fun x hx => ?_) (fun y hy => ?_)⟩
    · rw [List.dropLast_concat] at hx
      rw [eN x (hneA x (by simp [hx])), if_neg]
      intro e
      subst e
      exact m3 x hx x (by simp) rfl
    · rw [← aA] at hy
      rw [eP y (fun e => hna (e ▸ hy)), if_neg]
      intro e
      exact k3 y hy q (by simp) e
    · rw [eN p (Ne.symm hpne), if_pos rfl]
    · rw [eP q (Ne.symm hqne), if_pos rfl]
    · have hxb := hx
      rw [← bB] at hxb
      rw [eN x (hneB x (List.dropLast_subset _ hx)), if_neg]
      intro e
      exact (List.nodup_append.1 m2).2.2 p (by simp) x (by simp [hxb]) e.symm
    · replace hy : y ∈ b0 := hy
      rw [eP y (hneB y (by simp [hy])), if_neg]
      intro e
      subst e
      exact (List.nodup_cons.1 (List.nodup_cons.1 k2).2).1 hy
  · rw [List.nodup_append]
    exact ⟨nda.1, (List.nodup_cons.1 nda.2.1).2, fun x hx y hy => nda.2.2 x hx y (by simp [hy])⟩
  · intro x hx
    exact R.bd x (by simp at hx ⊢; rcases hx with h1 | h1; exact .inl h1; exact .inr (.inr h1))

/-- What the links tell of the row. -/
theorem Rep.next_at {L : Int → Option (α × Int × Int)} {row : List Int} {vals : List α} (R : Rep L row vals) {i : Nat} {h : Int} (hi : row[i]? = some h) : nextOf L h = (row[i + 1]?).getD 0 := by
  have h1 : (0 :: (row ++ [0]))[i + 1]? = some h := by
    rw [List.getElem?_cons_succ, List.getElem?_append_left (List.getElem?_eq_some_iff.1 hi).1]; exact hi
  have hlt := (List.getElem?_eq_some_iff.1 hi).1
  by_cases hl : i + 1 < row.length
  · have h2 : (0 :: (row ++ [0]))[i + 1 + 1]? = some row[i + 1] := by
      rw [List.getElem?_cons_succ, List.getElem?_append_left hl, List.getElem?_eq_getElem hl]
    rw [(R.adj.at h1 h2).1, List.getElem?_eq_getElem hl]; rfl
  · have h2 : (0 :: (row ++ [0]))[i + 1 + 1]? = some 0 := by
      rw [List.getElem?_cons_succ, List.getElem?_append_right (by omega)]
      have : i + 1 - row.length = 0 := by omega
      rw [this]; rfl
    rw [(R.adj.at h1 h2).1, List.getElem?_eq_none (by omega)]; rfl
theorem Rep.prev_at {L : Int → Option (α × Int × Int)} {row : List Int} {vals : List α} (R : Rep L row vals) {i : Nat} {h : Int} (hi : row[i]? = some h) : prevOf L h = if i = 0 then 0 else (row[i - 1]?).getD 0 := by
  have hlt := (List.getElem?_eq_some_iff.1 hi).1
  have h1 : (0 :: (row ++ [0]))[i + 1]? = some h := by
    rw [List.getElem?_cons_succ, List.getElem?_append_left hlt]; exact hi
  cases i with
  | zero => rw [if_pos rfl]; exact (R.adj.at (i := 0) (x := 0) rfl h1).2
  | succ i =>
    rw [if_neg (by omega)]
    have h2 : (0 :: (row ++ [0]))[i + 1]? = some row[i] := by
      rw [List.getElem?_cons_succ, List.getElem?_append_left (by omega), List.getElem?_eq_getElem (by omega)]
    rw [(R.adj.at h2 h1).2]
    simp [List.getElem?_eq_getElem (show i < row.length by omega)]
theorem Rep.next_zero {L : Int → Option (α × Int × Int)} {row : List Int} {vals : List α} (R : Rep L row vals) : nextOf L 0 = (row[0]?).getD 0 := by
  cases row with
  | nil => exact R.adj.1.1
  | cons x r => exact R.adj.1.1
theorem Rep.prev_zero {L : Int → Option (α × Int × Int)} {row : List Int} {vals : List α} (R : Rep L row vals) : prevOf L 0 = (row.getLast?).getD 0 := by
  have h1 : (0 :: (row ++ [0]))[row.length + 1]? = some 0 := by
    rw [List.getElem?_cons_succ, List.getElem?_append_right (Nat.le_refl _)]; simp
  cases hr : row.reverse with
  | nil =>
    have : row = [] := by simpa using hr
    subst this
    exact R.adj.1.2
  | cons x r =>
    have e : row = r.reverse ++ [x] := by rw [← List.reverse_reverse row, hr]; simp
    subst e
    have h2 : (0 :: ((r.reverse ++ [x]) ++ [0]))[(r.reverse ++ [x]).length]? = some x := by simp
    rw [(R.adj.at h2 h1).2]; simp
theorem Rep.none {L : Int → Option (α × Int × Int)} {row : List Int} {vals : List α} (R : Rep L row vals) {h : Int} (h0 : h ≠ 0) (hn : h ∉ row) : L h = .none := by
  cases e : L h with
  | none => rfl
  | some x =>
    have := (R.dom h).1 (by rw [e]; rfl)
    rcases this with h1 | h1
    · exact absurd h1 h0
    · exact absurd h1 hn
end
end Go.Proofs.YtnncomhgclffaaaL.Row
