/- What the document's list (layer 9) computes, in plain lists: the printed functions' answers. -/
import Derived.Test.YtnncomhgclffaaaLRefP
import Derived.Test.YtnncomhgclffaaaLRefQ
import Derived.Test.YtnncomhgclffaaaLListSA
namespace Go.Proofs.Ytnncomhgclffaaa.LS
open Go.RowKit Go.Proofs.YtnncomhgclffaaaW.PrintWords Go.Proofs.Ytnncomhgclffaaa.PListPlays

def placeR (row : List Int) (h : Int) : Int := if h ∈ row then (row.idxOf h : Int) else -1

theorem rd_at {row : List Int} {i : Nat} (h : i < row.length) : rd row (i : Int) = row[i] := by simp [rd, List.getD, h]

theorem place_from (h : Int) (row : List Int) (hl : row.length < 1000000) : ∀ (k i : Nat), i ≤ row.length → row.length < i + k →
    retiaryref09_place.l0 k h row (row.length : Int) (i : Int) = some (if h ∈ row.drop i then ((i + (row.drop i).idxOf h : Nat) : Int) else -1)
  | 0, i, hi, hk => by omega
  | k + 1, i, hi, hk => by
    rw [retiaryref09_place.l0]
    by_cases hlt : i < row.length
    · rw [if_pos (by omega), if_pos (by omega), if_pos (by omega), rd_at hlt, List.drop_eq_getElem_cons hlt]
      by_cases e : row[i] = h
      · rw [if_pos e]
        simp [e]
      · rw [if_neg e]
        have hw : wrap64 ((i : Int) + 1) = ((i + 1 : Nat) : Int) := by
          rw [IntWalk.wrap64_in _ ⟨by omega, by omega⟩]; omega
        rw [hw, place_from h row hl k (i + 1) hlt (by omega)]
        have e' : ¬ h = row[i] := fun x => e x.symm
        simp only [List.mem_cons, e', false_or]
        by_cases hm : h ∈ row.drop (i + 1)
        · rw [if_pos hm, if_pos hm, List.idxOf_cons]
          have e2 : (row[i] == h) = false := beq_eq_false_iff_ne.2 e
          rw [e2]
          simp only [cond_false, Option.some.injEq]
          omega
        · rw [if_neg hm, if_neg hm]
    · obtain rfl : i = row.length := by omega
      rw [if_neg (by omega)]
      simp

theorem place_eq (row : List Int) (vals : List ByteArray) (h : Int) (hl : row.length < 1000000) : retiaryref09_place.f (row.length + 1) row vals h = some (placeR row h) := by
  have := place_from h row hl (row.length + 1) 0 (Nat.zero_le _) (by omega)
  simpa [retiaryref09_place.f, placeR] using this

theorem put_eq (row : List Int) (vals : List ByteArray) (at_ : Nat) (v : ByteArray) (hat : at_ ≤ row.length) (hl : row.length < 1000000) (hv : vals.length < 1000000) :
    retiaryref09_put.f row vals (at_ : Int) v = some (row.take at_ ++ ((vals.length : Int) + 1) :: row.drop at_, vals ++ [v]) := by
  unfold retiaryref09_put.f
  have h1 : (row.take at_).length ≤ row.length := by simp; omega
  have h2 : (row.drop at_).length ≤ row.length := by simp
  simp only [List.length_nil, List.nil_append, Int.toNat_natCast, Option.bind_some, List.length_append, List.length_cons, Nat.zero_add]
  rw [if_pos (by omega), if_pos (by omega), if_pos (by omega), if_pos (by omega), if_pos (by omega), if_pos (by omega), if_pos (by omega)]
  simp

theorem push_eq (row : List Int) (vals : List ByteArray) (v : ByteArray) (hl : row.length < 1000000) (hv : vals.length < 1000000) :
    retiaryref09_Push.f row vals v = some (row ++ [(vals.length : Int) + 1], vals ++ [v], (vals.length : Int) + 1) := by
  unfold retiaryref09_Push.f
  rw [put_eq row vals row.length v (Nat.le_refl _) hl hv]
  simp

theorem before_eq (a b : List Int) (h : Int) (vals : List ByteArray) (v : ByteArray) (ha : h ∉ a) (hl : (a ++ h :: b).length < 1000000) (hv : vals.length < 1000000) :
    retiaryref09_Before.f ((a ++ h :: b).length + 1) (a ++ h :: b) vals h v = some (a ++ ((vals.length : Int) + 1) :: h :: b, vals ++ [v], (vals.length : Int) + 1) := by
  unfold retiaryref09_Before.f
  have hp : placeR (a ++ h :: b) h = (a.length : Int) := by
    simp [placeR, List.idxOf_append, ha]
  rw [place_eq _ _ _ hl, hp, Option.bind_some, if_neg (by omega), put_eq _ _ _ _ (by simp) hl hv]
  simp

theorem before_eq_none (row : List Int) (h : Int) (vals : List ByteArray) (v : ByteArray) (hm : h ∉ row) (hl : row.length < 1000000) :
    retiaryref09_Before.f (row.length + 1) row vals h v = some (row, vals, 0) := by
  unfold retiaryref09_Before.f
  rw [place_eq _ _ _ hl]
  simp [placeR, hm]

theorem remove_from (h : Int) (vals : List ByteArray) (row : List Int) (hl : row.length < 1000000) : ∀ (k i : Nat) (acc : List Int), i ≤ row.length → row.length < i + k → acc.length ≤ i →
    retiaryref09_Remove.l0 k h acc row (row.length : Int) (i : Int) row vals = some (acc ++ (row.drop i).filter (fun x => decide (x ≠ h)), vals)
  | 0, i, acc, hi, hk, _ => by omega
  | k + 1, i, acc, hi, hk, hc => by
    rw [retiaryref09_Remove.l0]
    by_cases hlt : i < row.length
    · have hw : wrap64 ((i : Int) + 1) = ((i + 1 : Nat) : Int) := by
        rw [IntWalk.wrap64_in _ ⟨by omega, by omega⟩]; omega
      rw [if_pos (by omega), if_pos (by omega), if_pos (by omega), rd_at hlt, List.drop_eq_getElem_cons hlt, hw]
      by_cases e : row[i] = h
      · rw [if_pos e, remove_from h vals row hl k (i + 1) acc hlt (by omega) (by omega)]
        simp [e]
      · rw [if_neg e, if_pos (by omega), remove_from h vals row hl k (i + 1) _ hlt (by omega) (by simp; omega), List.filter_cons, if_pos (by simpa using e)]
        simp
    · obtain rfl : i = row.length := by omega
      rw [if_neg (by omega)]
      simp

theorem remove_eq (row : List Int) (vals : List ByteArray) (h : Int) (hl : row.length < 1000000) : retiaryref09_Remove.f (row.length + 1) row vals h = some (row.filter (fun x => decide (x ≠ h)), vals) := by
  have := remove_from h vals row hl (row.length + 1) 0 [] (Nat.zero_le _) (by omega) (Nat.le_refl _)
  simpa [retiaryref09_Remove.f] using this

theorem get_eq (row : List Int) (vals : List ByteArray) (h : Int) (hl : row.length < 1000000) (hv : vals.length < 1000000) (hb : ∀ x ∈ row, 1 ≤ x ∧ x ≤ vals.length) :
    retiaryref09_Get.f (row.length + 1) row vals h = some (getV row vals h, decide (h ∈ row)) := by
  unfold retiaryref09_Get.f
  rw [place_eq _ _ _ hl, Option.bind_some]
  by_cases hm : h ∈ row
  · have := hb h hm
    rw [placeR, if_pos hm, if_neg (by omega), IntWalk.wrap64_in _ ⟨by omega, by omega⟩, if_pos (by omega), if_pos (by omega)]
    simp [getV, hm, rdOf, List.getD]
    rfl
  · rw [placeR, if_neg hm, if_pos (by decide)]
    simp [getV, hm]

theorem rd_get (row : List Int) (i : Int) (_ : 0 ≤ i) (_ : i < row.length) : rd row i = (row[i.toNat]?).getD 0 := by simp [rd, List.getD]

theorem next_eq (row : List Int) (vals : List ByteArray) (h : Int) (hl : row.length < 1000000) :
    retiaryref09_Next.f (row.length + 1) row vals h 1 = some (nextR row h) := by
  unfold retiaryref09_Next.f
  rw [place_eq _ _ _ hl, Option.bind_some]
  have w0 : wrap64 ((-1 : Int) + 1) = 0 := by rw [IntWalk.wrap64_in _ ⟨by omega, by omega⟩]; rfl
  unfold nextR
  by_cases h0 : h = 0
  · rw [if_pos h0, if_pos h0, if_neg (by decide), w0, if_neg (by decide)]
    by_cases hn : (0 : Int) ≥ (row.length : Int)
    · rw [if_pos hn]
      have : row = [] := List.eq_nil_of_length_eq_zero (by omega)
      simp [this]
    · rw [if_neg hn, if_pos (by decide), if_pos (by omega), rd_get _ _ (by decide) (by omega)]
      rfl
  · rw [if_neg h0, if_neg h0]
    by_cases hm : h ∈ row
    · have hi := List.idxOf_lt_length_iff.2 hm
      rw [placeR, if_pos hm, if_pos hm, if_neg (by omega), IntWalk.wrap64_in _ ⟨by omega, by omega⟩, if_neg (by omega)]
      by_cases hn : ((row.idxOf h : Int) + 1) ≥ (row.length : Int)
      · rw [if_pos hn, List.getElem?_eq_none (by omega)]
        rfl
      · rw [if_neg hn, if_pos (by omega), if_pos (by omega), rd_get _ _ (by omega) (by omega)]
        congr 3
    · rw [placeR, if_neg hm, if_neg hm, if_pos (by decide)]

theorem prev_eq (row : List Int) (vals : List ByteArray) (h : Int) (hl : row.length < 1000000) :
    retiaryref09_Next.f (row.length + 1) row vals h (-1) = some (prevR row h) := by
  unfold retiaryref09_Next.f
  rw [place_eq _ _ _ hl, Option.bind_some]
  unfold prevR
  by_cases h0 : h = 0
  · rw [if_pos h0, if_pos h0, if_pos (by decide), IntWalk.wrap64_in _ ⟨by omega, by omega⟩]
    by_cases hn : (row.length : Int) + -1 < 0
    · rw [if_pos hn]
      have : row = [] := List.eq_nil_of_length_eq_zero (by omega)
      simp [this]
    · rw [if_neg hn, if_neg (by omega), if_pos (by omega), if_pos (by omega), rd_get _ _ (by omega) (by omega), List.getLast?_eq_getElem?]
      congr 3
      omega
  · rw [if_neg h0, if_neg h0]
    by_cases hm : h ∈ row
    · have hi := List.idxOf_lt_length_iff.2 hm
      rw [placeR, if_pos hm, if_pos hm, if_neg (by omega), IntWalk.wrap64_in _ ⟨by omega, by omega⟩]
      by_cases hn : (row.idxOf h : Int) + -1 < 0
      · rw [if_pos hn, if_pos (by omega)]
      · rw [if_neg hn, if_neg (by omega), if_pos (by omega), if_pos (by omega), if_neg (by omega), rd_get _ _ (by omega) (by omega)]
        congr 3
        omega
    · rw [placeR, if_neg hm, if_neg hm, if_pos (by decide)]
end Go.Proofs.Ytnncomhgclffaaa.LS
