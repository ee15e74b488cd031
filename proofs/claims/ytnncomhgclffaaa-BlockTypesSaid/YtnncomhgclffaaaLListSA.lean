/- The functions of package list at strings, by the row of handles and the values: what each answers and what it leaves. -/
import Derived.Test.YtnncomhgclffaaaLListS
namespace Go.Proofs.Ytnncomhgclffaaa.LS
open Go.RowKit Go.Proofs.YtnncomhgclffaaaW.PrintWords Go.Proofs.YtnncomhgclffaaaL Go.Proofs.YtnncomhgclffaaaL.Row Go.Proofs.Ytnncomhgclffaaa.LL

/-- The list whose head is block lb has the handles row, in order, and all values that ever were are vals; its blocks are among F. -/
def Lst (w : World) (lb : Nat) (F : Nat → Prop) (row : List Int) (vals : List ByteArray) : Prop :=
  ∃ mb lk L, LIs enc 150 153 w lb mb lk L vals.length (row.length + 1) ∧ Rep L row vals ∧ ∀ b, foot lb mb lk L b → F b

section
variable {w W : World} {lb : Nat} {F : Nat → Prop} {row : List Int} {vals : List ByteArray}

theorem Lst.mono {F' : Nat → Prop} (h : Lst w lb F row vals) (hf : ∀ b, F b → F' b) : Lst w lb F' row vals := by
  obtain ⟨mb, lk, L, a, b, c⟩ := h
  exact ⟨mb, lk, L, a, b, fun x hx => hf x (c x hx)⟩
/-- All its blocks are there. -/
theorem Lst.bound (h : Lst w lb F row vals) : Lst w lb (fun b => F b ∧ b < w.heap.size) row vals := by
  obtain ⟨mb, lk, L, a, b, c⟩ := h
  exact ⟨mb, lk, L, a, b, fun x hx => ⟨c x hx, a.foot_lt hx⟩⟩
theorem Lst.move (h : Lst w lb F row vals) (hk : ∀ b, F b → b < w.heap.size → W.heap[b]? = w.heap[b]?) : Lst W lb F row vals := by
  obtain ⟨mb, lk, L, a, b, c⟩ := h
  exact ⟨mb, lk, L, a.move (fun x hx => hk x (c x hx) (a.foot_lt hx)), b, c⟩
theorem Lst.below (h : Lst w lb F row vals) (hb : Below w.heap.size w W) : Lst W lb F row vals := h.move (fun b _ hl => hb.block b hl)
theorem Lst.ch {S : Nat → Prop} (h : Lst w lb F row vals) (hc : Ch w W S) (hd : ∀ b, F b → ¬ S b) : Lst W lb F row vals := h.move (fun b hb hl => hc.block b hl (hd b hb))
theorem Lst.head (h : Lst w lb F row vals) : F lb ∧ lb < w.heap.size := by
  obtain ⟨mb, lk, L, a, b, c⟩ := h
  exact ⟨c lb (.inl rfl), a.foot_lt (.inl rfl)⟩

def LPost (w : World) (F : Nat → Prop) (lb : Nat) (r : Value) (row : List Int) (vals : List ByteArray) (e : Ending) (w' : World) : Prop :=
  e = .returned r ∧ Lst w' lb (fun b => F b ∨ w.heap.size ≤ b) row vals ∧ Ch w w' F

theorem foot_put {mb : Nat} {lk : Int → Nat} {L : Int → Option (ByteArray × Int × Int)} {last h p : Int} {v : ByteArray} {s b : Nat} (hb : foot lb mb (updN lk (last + 1) s) (putL L last h p v) b) : foot lb mb lk L b ∨ s ≤ b := by
  rcases hb with rfl | rfl | ⟨y, hy, rfl⟩
  · exact .inl (.inl rfl)
  · exact .inl (.inr (.inl rfl))
  · unfold updN
    split
    · exact .inr (Nat.le_refl _)
    · rename_i hne
      refine .inl (.inr (.inr ⟨y, ?_, rfl⟩))
      unfold putL Row.setPrev Row.setNext at hy
      have : (Row.ins L (last + 1) (some (v, h, p)) y).isSome := by
        split at hy <;> split at hy <;> simpa only [map_isSome] using hy
      unfold Row.ins at this
      rwa [if_neg hne] at this

theorem foot_remove {mb : Nat} {lk : Int → Nat} {L : Int → Option (ByteArray × Int × Int)} {h n p : Int} {b : Nat} (hb : foot lb mb lk (removeL L h n p) b) : foot lb mb lk L b := by
  rcases hb with rfl | rfl | ⟨y, hy, rfl⟩
  · exact .inl rfl
  · exact .inr (.inl rfl)
  · refine .inr (.inr ⟨y, ?_, rfl⟩)
    unfold removeL Row.ins at hy
    split at hy
    · cases hy
    · unfold Row.setPrev Row.setNext at hy
      split at hy <;> split at hy <;> simpa only [map_isSome] using hy

theorem wf_small {x : Int} (h0 : -1000000000 ≤ x) (h1 : x ≤ 1000000000) : (Lit.int .i64 x).wf = true := WalkArith.wf_i64 (by omega)

theorem rep_link {L : Int → Option (ByteArray × Int × Int)} (R : Rep L row vals) {h : Int} (hh : h = 0 ∨ h ∈ row) : ∃ x, L h = some (x, nextOf L h, prevOf L h) := by
  obtain ⟨⟨x, n, p⟩, e⟩ := Option.isSome_iff_exists.1 ((R.dom h).2 hh)
  exact ⟨x, by simp [nextOf, prevOf, e]⟩
theorem rep_last {L : Int → Option (ByteArray × Int × Int)} (R : Rep L row vals) : L ((vals.length : Int) + 1) = none :=
  R.none (by omega) (fun hm => by have := (R.bd _ hm).2; omega)
theorem rep_prev_in {L : Int → Option (ByteArray × Int × Int)} {a b : List Int} (R : Rep L (a ++ b) vals) {p : Int} (hp : (0 :: a).getLast? = some p) : (L p).isSome ∧ 0 ≤ p ∧ p ≤ vals.length := by
  have hm := List.mem_of_getLast? hp
  rcases List.mem_cons.1 hm with rfl | hm
  · exact ⟨(R.dom 0).2 (.inl rfl), Int.le_refl _, by omega⟩
  · exact ⟨(R.dom p).2 (.inr (by simp [hm])), by have := R.bd p (by simp [hm]); omega, (R.bd p (by simp [hm])).2⟩

theorem getLast_some (a : List Int) : ∃ p, (0 :: a).getLast? = some p := ⟨_, List.getLast?_eq_some_getLast (by simp)⟩

/-- 'Push(v)'. -/
theorem push_lst (v : ByteArray) (h : Lst w lb F row vals) (hl : vals.length < 100000) :
    Calls Try.prog 44 #[.pointer (some ⟨lb, 0, none⟩), .string v] w (LPost w F lb (.int .i64 ((vals.length : Int) + 1)) (row ++ [(vals.length : Int) + 1]) (vals ++ [v])) := by
  obtain ⟨mb, lk, L, hL, R, hF⟩ := h
  obtain ⟨p, hp⟩ := getLast_some row
  obtain ⟨x, hx⟩ := rep_link R (h := 0) (.inl rfl)
  have R' : Rep L (row ++ []) vals := by simpa using R
  obtain ⟨hpr, R2⟩ := R'.put v (t := 0) rfl hp
  obtain ⟨i1, i2, i3⟩ := rep_prev_in R' hp
  rw [hpr] at hx
  refine (push_walk v hL (by omega) (by omega) x _ p hx i1 (rep_last R) (wf_small (by omega) (by omega))).mono ?_
  rintro e w' ⟨rfl, h1, h2⟩
  refine ⟨rfl, ⟨mb, updN lk ((vals.length : Int) + 1) w.heap.size, _, ?_, R2, fun b hb => ?_⟩, h2.mono hF⟩
  · have e1 : ((vals ++ [v]).length : Int) = (vals.length : Int) + 1 := by simp
    rw [e1]
    simpa using h1
  · rcases foot_put hb with h3 | h3
    · exact .inl (hF b h3)
    · exact .inr h3

/-- 'Before(h, v)' at a handle that is there: behind a, ahead of h :: b. -/
theorem before_lst (v : ByteArray) {a b : List Int} {h : Int} (hr : Lst w lb F (a ++ h :: b) vals) (hl : vals.length < 100000) :
    Calls Try.prog 46 #[.pointer (some ⟨lb, 0, none⟩), .int .i64 h, .string v] w (LPost w F lb (.int .i64 ((vals.length : Int) + 1)) (a ++ ((vals.length : Int) + 1) :: h :: b) (vals ++ [v])) := by
  obtain ⟨mb, lk, L, hL, R, hF⟩ := hr
  obtain ⟨p, hp⟩ := getLast_some a
  obtain ⟨x, hx⟩ := rep_link R (h := h) (.inr (by simp))
  obtain ⟨hpr, R2⟩ := R.put v (t := h) rfl hp
  obtain ⟨i1, i2, i3⟩ := rep_prev_in R hp
  have hb := R.bd h (by simp)
  rw [hpr] at hx
  refine (before_walk h v hL (by omega) (by omega) (by omega) x _ p hx i1 (rep_last R) (wf_small (by omega) (by omega)) (wf_small (by omega) (by omega))).mono ?_
  rintro e w' ⟨rfl, h1, h2⟩
  refine ⟨rfl, ⟨mb, updN lk ((vals.length : Int) + 1) w.heap.size, _, ?_, R2, fun b hb => ?_⟩, h2.mono hF⟩
  · have e1 : ((vals ++ [v]).length : Int) = (vals.length : Int) + 1 := by simp
    have e2 : (a ++ ((vals.length : Int) + 1) :: h :: b).length + 1 = (a ++ h :: b).length + 1 + 1 := by simp; omega
    rw [e1, e2]
    exact h1
  · rcases foot_put hb with h3 | h3
    · exact .inl (hF b h3)
    · exact .inr h3

theorem isOf_rep {L : Int → Option (ByteArray × Int × Int)} (R : Rep L row vals) (h : Int) : isOf L h = decide (h ∈ row) := by
  have h0 : (0 : Int) ∉ row := fun hm => by have := (R.bd 0 hm).1; omega
  unfold isOf
  split
  · rename_i e; subst e; simp [h0]
  · rename_i e
    rw [Bool.eq_iff_iff, R.dom]
    simp [e]
theorem valOf_rep {L : Int → Option (ByteArray × Int × Int)} (R : Rep L row vals) {h : Int} (hm : h ∈ row) : Row.valOf (⟨#[]⟩ : ByteArray) L h = (vals[(h - 1).toNat]?).getD ⟨#[]⟩ := by
  obtain ⟨x, e⟩ := rep_link R (.inr hm)
  have h0 : h ≠ 0 := by have := (R.bd h hm).1; omega
  rw [R.val h x _ _ e h0]
  simp [Row.valOf, h0, e]
theorem valOf_not {L : Int → Option (ByteArray × Int × Int)} (R : Rep L row vals) {h : Int} (hm : h ∉ row) : Row.valOf (⟨#[]⟩ : ByteArray) L h = ⟨#[]⟩ := by
  unfold Row.valOf
  split
  · rfl
  · rename_i h0
    rw [R.none h0 hm]
    rfl

/-- 'Before(h, v)' at a handle that isn't there. -/
theorem before_lst_none (v : ByteArray) {h : Int} (hr : Lst w lb F row vals) (hm : h ∉ row) (hwh : (Lit.int .i64 h).wf = true) :
    Calls Try.prog 46 #[.pointer (some ⟨lb, 0, none⟩), .int .i64 h, .string v] w fun e w' => e = .returned (.int .i64 0) ∧ w = w' := by
  obtain ⟨mb, lk, L, hL, R, hF⟩ := hr
  exact before_none h v hL (by rw [isOf_rep R]; simp [hm]) hwh

/-- What 'Get(h)' tells. -/
def getV (row : List Int) (vals : List ByteArray) (h : Int) : ByteArray := if h ∈ row then (vals[(h - 1).toNat]?).getD ⟨#[]⟩ else ⟨#[]⟩

theorem get_lst {h : Int} (hr : Lst w lb F row vals) (hwh : (Lit.int .i64 h).wf = true) :
    Calls Try.prog 50 #[.pointer (some ⟨lb, 0, none⟩), .int .i64 h] w fun e w' => e = .returned (.tuple #[.string (getV row vals h), .bool (decide (h ∈ row))]) ∧ w = w' := by
  obtain ⟨mb, lk, L, hL, R, hF⟩ := hr
  have := get_walk h hL hwh
  rw [isOf_rep R] at this
  unfold getV
  split
  · rename_i hm; rw [valOf_rep R hm] at this; exact this
  · rename_i hm; rw [valOf_not R hm] at this; exact this

/-- 'Remove(h)' at a handle that is there. -/
theorem remove_lst {a b : List Int} {h : Int} (hr : Lst w lb F (a ++ h :: b) vals) (hl : vals.length < 100000) :
    Calls Try.prog 49 #[.pointer (some ⟨lb, 0, none⟩), .int .i64 h] w (LPost w F lb (.tuple #[.string ((vals[(h - 1).toNat]?).getD ⟨#[]⟩), .bool true]) (a ++ b) vals) := by
  obtain ⟨mb, lk, L, hL, R, hF⟩ := hr
  obtain ⟨h0, ⟨v, hv⟩, hn, hp, hne1, hne2, R2⟩ := R.remove
  have hb := R.bd h (by simp)
  have hval := R.val h v _ _ hv h0
  have bdn : ∀ y, (L y).isSome → 0 ≤ y ∧ y ≤ vals.length := fun y hy => by
    rcases (R.dom y).1 hy with rfl | hm
    · omega
    · have := R.bd y hm; omega
  have b1 := bdn _ hn
  have b2 := bdn _ hp
  refine (remove_walk h hL h0 v _ _ hv hp hn hne2 hne1 (wf_small (by omega) (by omega)) (wf_small (by omega) (by omega)) (wf_small (by omega) (by omega))).mono ?_
  rintro e w' ⟨rfl, h1, h2⟩
  refine ⟨by rw [hval]; rfl, ⟨mb, lk, _, ?_, R2, fun b hb => .inl (hF b (foot_remove hb))⟩, h2.mono hF⟩
  have e1 : (a ++ h :: b).length + 1 - 1 = (a ++ b).length + 1 := by simp; omega
  rw [e1] at h1
  exact h1

theorem remove_lst_none {h : Int} (hr : Lst w lb F row vals) (hm : h ∉ row) (hwh : (Lit.int .i64 h).wf = true) :
    Calls Try.prog 49 #[.pointer (some ⟨lb, 0, none⟩), .int .i64 h] w fun e w' => e = .returned (.tuple #[.string ⟨#[]⟩, .bool false]) ∧ w = w' := by
  obtain ⟨mb, lk, L, hL, R, hF⟩ := hr
  exact remove_none h hL (by rw [isOf_rep R]; simp [hm]) hwh

/-- The handle behind one, ahead of one. -/
def nextR (row : List Int) (h : Int) : Int := if h = 0 then (row[0]?).getD 0 else if h ∈ row then (row[row.idxOf h + 1]?).getD 0 else 0
def prevR (row : List Int) (h : Int) : Int := if h = 0 then (row.getLast?).getD 0 else if h ∈ row then (if row.idxOf h = 0 then 0 else (row[row.idxOf h - 1]?).getD 0) else 0

theorem next_lst {h : Int} (hr : Lst w lb F row vals) (hwh : (Lit.int .i64 h).wf = true) :
    Calls Try.prog 51 #[.pointer (some ⟨lb, 0, none⟩), .int .i64 h] w fun e w' => e = .returned (.int .i64 (nextR row h)) ∧ w = w' := by
  obtain ⟨mb, lk, L, hL, R, hF⟩ := hr
  have := next_walk h hL hwh
  have e : nextOf L h = nextR row h := by
    unfold nextR
    split
    · rename_i h0; subst h0; exact R.next_zero
    · rename_i h0
      split
      · rename_i hm
        exact R.next_at (by rw [List.getElem?_eq_getElem (List.idxOf_lt_length_iff.2 hm)]; simp)
      · rename_i hm
        simp [nextOf, R.none h0 hm]
  rw [e] at this
  exact this
theorem prev_lst {h : Int} (hr : Lst w lb F row vals) (hwh : (Lit.int .i64 h).wf = true) :
    Calls Try.prog 53 #[.pointer (some ⟨lb, 0, none⟩), .int .i64 h] w fun e w' => e = .returned (.int .i64 (prevR row h)) ∧ w = w' := by
  obtain ⟨mb, lk, L, hL, R, hF⟩ := hr
  have := prev_walk h hL hwh
  have e : prevOf L h = prevR row h := by
    unfold prevR
    split
    · rename_i h0; subst h0; exact R.prev_zero
    · rename_i h0
      split
      · rename_i hm
        exact R.prev_at (by rw [List.getElem?_eq_getElem (List.idxOf_lt_length_iff.2 hm)]; simp)
      · rename_i hm
        simp [prevOf, R.none h0 hm]
  rw [e] at this
  exact this
theorem len_lst (hr : Lst w lb F row vals) (hl : row.length < 100000) :
    Calls Try.prog 54 #[.pointer (some ⟨lb, 0, none⟩)] w fun e w' => e = .returned (.int .i64 row.length) ∧ w = w' := by
  obtain ⟨mb, lk, L, hL, R, hF⟩ := hr
  have := len_walk hL (by omega)
  have e : ((row.length + 1 : Nat) : Int) - 1 = row.length := by omega
  rw [e] at this
  exact this
theorem new_lst (w : World) : Calls Try.prog 42 #[] w fun e w' => e = .returned (.pointer (some ⟨w.heap.size + 2, 0, none⟩)) ∧ Lst w' (w.heap.size + 2) (fun b => w.heap.size ≤ b) [] [] ∧ Below w.heap.size w w' := by
  refine (new_walk w).mono ?_
  rintro e w' ⟨rfl, h1, h2⟩
  refine ⟨rfl, ⟨_, _, _, h1, Rep.new _, fun b hb => ?_⟩, h2⟩
  rcases hb with rfl | rfl | ⟨y, _, rfl⟩
  · omega
  · exact Nat.le_refl _
  · exact Nat.le_add_right _ _

theorem Lst.facts (h : Lst w lb F row vals) : row.Nodup ∧ ∀ x ∈ row, 1 ≤ x ∧ x ≤ vals.length := by
  obtain ⟨mb, lk, L, hL, R, hF⟩ := h
  exact ⟨R.nodup, R.bd⟩
end
end Go.Proofs.Ytnncomhgclffaaa.LS
