/- The functions of package list at triples of ints, by the row of handles and the values: what each answers and what it leaves. -/
import Derived.Test.YtnncomhgclffaaaLListT
namespace Go.Proofs.Ytnncomhgclffaaa.LT
open Go.RowKit Go.Proofs.YtnncomhgclffaaaW.PrintWords Go.Proofs.YtnncomhgclffaaaL Go.Proofs.YtnncomhgclffaaaL.Row Go.Proofs.Ytnncomhgclffaaa.LL

/-- The list whose head is block lb has the handles row, in order, and all values that ever were are vals; its blocks are among F. -/
def Lst (w : World) (lb : Nat) (F : Nat → Prop) (row : List Int) (vals : List P2) : Prop :=
  ∃ mb lk L, LIs enc 184 187 w lb mb lk L vals.length (row.length + 1) ∧ Rep L row vals ∧ ∀ b, foot lb mb lk L b → F b

section
variable {w W : World} {lb : Nat} {F : Nat → Prop} {row : List Int} {vals : List P2}

theorem Lst.mono {F' : Nat → Prop} (h : Lst w lb F row vals) (hf : ∀ b, F b → F' b) : Lst w lb F' row vals := by
  obtain ⟨mb, lk, L, a, b, c⟩ := h
  exact ⟨mb, lk, L, a, b, fun x hx => hf x (c x hx)⟩
/-- All its blocks are there. -/
theorem Lst.bound (h : Lst w lb F row vals) : Lst w lb (fun b => F b ∧ b < w.heap.size) row vals := by
  obtain ⟨mb, lk, L, a, b, c⟩ := h
  exact ⟨mb, lk, L, a, b, fun x hx => ⟨c x hx, a.foot_lt hx⟩⟩
theorem Lst.move (h : Lst w lb F row vals) (hk : ∀ b, F b → b < w.heap.size → W.heap[b]? = w.heap[b]?) : Lst W lb F row vals := by
  obtain ⟨mb, lk, L, a, b, c⟩ := h
  exact ⟨mb, lk, L, a.move (fun x hx => hk x (c x hx) (a.foot_lt hx)), b, c⟩
theorem Lst.below (h : Lst w lb F row vals) (hb : Below w.heap.size w W) : Lst W lb F row vals := h.move (fun b _ hl => hb.block b hl)
theorem Lst.ch {S : Nat → Prop} (h : Lst w lb F row vals) (hc : Ch w W S) (hd : ∀ b, F b → ¬ S b) : Lst W lb F row vals := h.move (fun b hb hl => hc.block b hl (hd b hb))
theorem Lst.head (h : Lst w lb F row vals) : F lb ∧ lb < w.heap.size := by
  obtain ⟨mb, lk, L, a, b, c⟩ := h
  exact ⟨c lb (.inl rfl), a.foot_lt (.inl rfl)⟩

def LPost (w : World) (F : Nat → Prop) (lb : Nat) (r : Value) (row : List Int) (vals : List P2) (e : Ending) (w' : World) : Prop :=
  e = .returned r ∧ Lst w' lb (fun b => F b ∨ w.heap.size ≤ b) row vals ∧ Ch w w' F

theorem foot_put {mb : Nat} {lk : Int → Nat} {L : Int → Option (P2 × Int × Int)} {last h p : Int} {v : P2} {s b : Nat} (hb : foot lb mb (updN lk (last + 1) s) (putL L last h p v) b) : foot lb mb lk L b ∨ s ≤ b := by
  rcases hb with rfl | rfl | ⟨y, hy, rfl⟩
  · exact .inl (.inl rfl)
  · exact .inl (.inr (.inl rfl))
  · unfold updN
    split
    · exact .inr (Nat.le_refl _)
    · rename_i hne
      refine .inl (.inr (.inr ⟨y, ?_, rfl⟩))
      unfold putL Row.setPrev Row.setNext at hy
      have : (Row.ins L (last + 1) (some (v, h, p)) y).isSome := by
        split at hy <;> split at hy <;> simpa only [map_isSome] using hy
      unfold Row.ins at this
      rwa [if_neg hne] at this

theorem foot_remove {mb : Nat} {lk : Int → Nat} {L : Int → Option (P2 × Int × Int)} {h n p : Int} {b : Nat} (hb : foot lb mb lk (removeL L h n p) b) : foot lb mb lk L b := by
  rcases hb with rfl | rfl | ⟨y, hy, rfl⟩
  · exact .inl rfl
  · exact .inr (.inl rfl)
  · refine .inr (.inr ⟨y, ?_, rfl⟩)
    unfold removeL Row.ins at hy
    split at hy
    · cases hy
    · unfold Row.setPrev Row.setNext at hy
      split at hy <;> split at hy <;> simpa only [map_isSome] using hy

theorem wf_small {x : Int} (h0 : -1000000000 ≤ x) (h1 : x ≤ 1000000000) : (Lit.int .i64 x).wf = true := WalkArith.wf_i64 (by omega)

theorem rep_link {L : Int → Option (P2 × Int × Int)} (R : Rep L row vals) {h : Int} (hh : h = 0 ∨ h ∈ row) : ∃ x, L h = some (x, nextOf L h, prevOf L h) := by
  obtain ⟨⟨x, n, p⟩, e⟩ := Option.isSome_iff_exists.1 ((R.dom h).2 hh)
  exact ⟨x, by simp [nextOf, prevOf, e]⟩
theorem rep_last {L : Int → Option (P2 × Int × Int)} (R : Rep L row vals) : L ((vals.length : Int) + 1) = none :=
  R.none (by omega) (fun hm => by have := (R.bd _ hm).2; omega)
theorem rep_prev_in {L : Int → Option (P2 × Int × Int)} {a b : List Int} (R : Rep L (a ++ b) vals) {p : Int} (hp : (0 :: a).getLast? = some p) : (L p).isSome ∧ 0 ≤ p ∧ p ≤ vals.length := by
  have hm := List.mem_of_getLast? hp
  rcases List.mem_cons.1 hm with rfl | hm
  · exact ⟨(R.dom 0).2 (.inl rfl), Int.le_refl _, by omega⟩
  · exact ⟨(R.dom p).2 (.inr (by simp [hm])), by have := R.bd p (by simp [hm]); omega, (R.bd p (by simp [hm])).2⟩

theorem getLast_some (a : List Int) : ∃ p, (0 :: a).getLast? = some p := ⟨_, List.getLast?_eq_some_getLast (by simp)⟩

/-- 'Push(v)'. -/
theorem push_lst (v : P2) (h : Lst w lb F row vals) (hl : vals.length < 100000) :
    Calls Try.prog 103 #[.pointer (some ⟨lb, 0, none⟩), .agg #[.int .i64 v.1, .int .i64 v.2.1, .int .i64 v.2.2]] w (LPost w F lb (.int .i64 ((vals.length : Int) + 1)) (row ++ [(vals.length : Int) + 1]) (vals ++ [v])) := by
  obtain ⟨mb, lk, L, hL, R, hF⟩ := h
  obtain ⟨p, hp⟩ := getLast_some row
  obtain ⟨x, hx⟩ := rep_link R (h := 0) (.inl rfl)
  have R' : Rep L (row ++ []) vals := by simpa using R
  obtain ⟨hpr, R2⟩ := R'.put v (t := 0) rfl hp
  obtain ⟨i1, i2, i3⟩ := rep_prev_in R' hp
  rw [hpr] at hx
  refine (push_walk v hL (by omega) (by omega) x _ p hx i1 (rep_last R) (wf_small (by omega) (by omega))).mono ?_
  rintro e w' ⟨rfl, ⟨s, hs, h1⟩, h2⟩
  refine ⟨rfl, ⟨mb, updN lk ((vals.length : Int) + 1) s, _, ?_, R2, fun b hb => ?_⟩, h2.mono hF⟩
  · have e1 : ((vals ++ [v]).length : Int) = (vals.length : Int) + 1 := by simp
    rw [e1]
    simpa using h1
  · rcases foot_put hb with h3 | h3
    · exact .inl (hF b h3)
    · exact .inr (Nat.le_trans hs h3)


/-- The handle behind one, ahead of one. -/
def nextR (row : List Int) (h : Int) : Int := if h = 0 then (row[0]?).getD 0 else if h ∈ row then (row[row.idxOf h + 1]?).getD 0 else 0

theorem next_lst {h : Int} (hr : Lst w lb F row vals) (hwh : (Lit.int .i64 h).wf = true) :
    Calls Try.prog 109 #[.pointer (some ⟨lb, 0, none⟩), .int .i64 h] w fun e w' => e = .returned (.int .i64 (nextR row h)) ∧ w = w' := by
  obtain ⟨mb, lk, L, hL, R, hF⟩ := hr
  have := next_walk h hL hwh
  have e : nextOf L h = nextR row h := by
    unfold nextR
    split
    · rename_i h0; subst h0; exact R.next_zero
    · rename_i h0
      split
      · rename_i hm
        exact R.next_at (by rw [List.getElem?_eq_getElem (List.idxOf_lt_length_iff.2 hm)]; simp)
      · rename_i hm
        simp [nextOf, R.none h0 hm]
  rw [e] at this
  exact this
theorem new_lst (w : World) : Calls Try.prog 101 #[] w fun e w' => e = .returned (.pointer (some ⟨w.heap.size + 2, 0, none⟩)) ∧ Lst w' (w.heap.size + 2) (fun b => w.heap.size ≤ b) [] [] ∧ Below w.heap.size w w' := by
  refine (new_walk w).mono ?_
  rintro e w' ⟨rfl, h1, h2⟩
  refine ⟨rfl, ⟨_, _, _, h1, Rep.new _, fun b hb => ?_⟩, h2⟩
  rcases hb with rfl | rfl | ⟨y, _, rfl⟩
  · omega
  · exact Nat.le_refl _
  · exact Nat.le_add_right _ _

/-- The value of a handle. -/
def vOf (vals : List P2) (h : Int) : P2 := (vals[(h - 1).toNat]?).getD z2
theorem get_lst {h : Int} (hr : Lst w lb F row vals) (hm : h ∈ row) (hl : vals.length < 100000) :
    Calls Try.prog 110 #[.pointer (some ⟨lb, 0, none⟩), .int .i64 h] w fun e w' => e = .returned (.tuple #[.agg #[.int .i64 (vOf vals h).1, .int .i64 (vOf vals h).2.1, .int .i64 (vOf vals h).2.2], .bool true]) ∧ Below w.heap.size w w' := by
  obtain ⟨mb, lk, L, hL, R, hF⟩ := hr
  have hb := R.bd h hm
  have h0 : h ≠ 0 := by omega
  obtain ⟨x, hx⟩ := rep_link R (.inr hm)
  have hval := R.val h x _ _ hx h0
  have e : vOf vals h = x := by unfold vOf; rw [hval]; rfl
  rw [e]
  exact get_walk h x _ _ hL h0 hx (wf_small (by omega) (by omega))
theorem Lst.facts (h : Lst w lb F row vals) : row.Nodup ∧ ∀ x ∈ row, 1 ≤ x ∧ x ≤ vals.length := by
  obtain ⟨mb, lk, L, hL, R, hF⟩ := h
  exact ⟨R.nodup, R.bd⟩
end
end Go.Proofs.Ytnncomhgclffaaa.LT
