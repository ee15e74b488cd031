/- Without those that say again what stands at their left: plain. -/
import Derived.Test.YtmhpogajklihdaaDoorCRowAt
namespace Go.Proofs.YtmhpogajklihdaaDoor.C
open Go.RowKit Go.Shelf Go.Lib Go.Sort Go.Proofs.YtmhpogajklihdaaDoorW.PrintWords

/-- Without those that say again what stands at their left. -/
def compF : Option M → List P → List P
  | _, [] => []
  | o, x :: l => if o = some (key x) then compF (some (key x)) l else x :: compF (some (key x)) l
def comp (l : List P) : List P := compF none l
def lastF : Option M → List P → Option M
  | o, [] => o
  | _, x :: l => lastF (some (key x)) l
theorem compF_snoc (x : P) : ∀ (l : List P) (o : Option M), compF o (l ++ [x]) = if lastF o l = some (key x) then compF o l else compF o l ++ [x]
  | [], o => by
    by_cases h : o = some (key x) <;> simp [lastF, compF, h]
  | y :: l, o => by
    have ih := compF_snoc x l (some (key y))
    show (if o = some (key y) then compF (some (key y)) (l ++ [x]) else y :: compF (some (key y)) (l ++ [x])) = _
    rw [ih]
    simp only [lastF, compF]
    split <;> split <;> simp
theorem lastF_snoc (x : P) : ∀ (l : List P) (o : Option M), lastF o (l ++ [x]) = some (key x)
  | [], _ => rfl
  | y :: l, _ => lastF_snoc x l (some (key y))
theorem comp_step (l : List P) (j : Nat) (hj : j + 1 < l.length) : comp (l.take (j + 2)) = if key l[j + 1] = key l[j] then comp (l.take (j + 1)) else comp (l.take (j + 1)) ++ [l[j + 1]] := by
  rw [List.take_succ_eq_append_getElem hj]
  unfold comp
  rw [compF_snoc, List.take_succ_eq_append_getElem (show j < l.length by omega), lastF_snoc]
  by_cases h : key l[j + 1] = key l[j]
  · rw [if_pos h, if_pos (by rw [h])]
  · rw [if_neg h, if_neg (fun e => h (Option.some.inj e).symm)]
theorem comp_mem (p : P) : ∀ (l : List P) (o : Option M), p ∈ compF o l → p ∈ l
  | [], _, h => h
  | x :: l, o, h => by
    unfold compF at h
    split at h
    · exact List.mem_cons_of_mem _ (comp_mem p l _ h)
    · rcases List.mem_cons.1 h with e | h
      · rw [e]; simp
      · exact List.mem_cons_of_mem _ (comp_mem p l _ h)
theorem comp_has (p : P) : ∀ (l : List P) (o : Option M), p ∈ l → o ≠ some (key p) → key p ∈ (compF o l).map key
  | x :: l, o, h, hn => by
    unfold compF
    by_cases e : key x = key p
    · rw [if_neg (by rw [e]; exact hn)]
      rw [List.map_cons, e]; simp
    · have h' : p ∈ l := by
        rcases List.mem_cons.1 h with e2 | h
        · exact absurd (by rw [e2]) e
        · exact h
      have ih := comp_has p l (some (key x)) h' (fun e2 => e (Option.some.inj e2))
      split
      · exact ih
      · rw [List.map_cons]; exact List.mem_cons_of_mem _ ih
theorem comp_rises : ∀ (l : List P) (o : Option M), (l.map key).Pairwise (fun a b => ¬ ltM b a) → (∀ x, o = some x → ∀ p ∈ l, ¬ ltM (key p) x) → Rising ((compF o l).map key) ∧ ∀ x, o = some x → ∀ p ∈ compF o l, ltM x (key p)
  | [], _, _, _ => ⟨.nil, fun _ _ p hp => by cases hp⟩
  | y :: l, o, h, ho => by
    rw [List.map_cons, List.pairwise_cons] at h
    obtain ⟨i1, i2⟩ := comp_rises l (some (key y)) h.2 (fun x e p hp => by cases e; exact h.1 (key p) (List.mem_map_of_mem hp))
    unfold compF
    split
    · rename_i e
      refine ⟨i1, fun x e2 p hp => ?_⟩
      rw [e] at e2
      exact i2 x e2 p hp
    · rename_i e
      refine ⟨?_, fun x e2 p hp => ?_⟩
      · rw [List.map_cons]
        refine List.pairwise_cons.2 ⟨fun z hz => ?_, i1⟩
        obtain ⟨p, hp, rfl⟩ := List.mem_map.1 hz
        exact i2 _ rfl p hp
      · have hxy : ltM x (key y) := by
          rcases ltM_total (show x ≠ key y from fun e3 => e (by rw [e2, e3])) with q | q
          · exact q
          · exact absurd q (ho x e2 y (by simp))
        rcases List.mem_cons.1 hp with e3 | hp
        · rw [e3]; exact hxy
        · exact cmpM_trans hxy (i2 _ rfl p hp)
/-- Of a list that is sorted. -/
theorem comp_sorted {l : List P} (h : (l.map key).Pairwise (fun a b => ¬ ltM b a)) : Rising ((comp l).map key) ∧ ∀ x, x ∈ (comp l).map key ↔ x ∈ l.map key := by
  refine ⟨(comp_rises l none h (fun _ e => by cases e)).1, fun x => ⟨fun hx => ?_, fun hx => ?_⟩⟩
  · obtain ⟨p, hp, rfl⟩ := List.mem_map.1 hx
    exact List.mem_map_of_mem (comp_mem p l none hp)
  · obtain ⟨p, hp, rfl⟩ := List.mem_map.1 hx
    exact comp_has p l none hp (by simp)
theorem comp_len : ∀ (l : List P) (o : Option M), (compF o l).length ≤ l.length
  | [], _ => Nat.le_refl _
  | x :: l, o => by
    have ih := comp_len l (some (key x))
    unfold compF
    split
    · rw [List.length_cons]; omega
    · rw [List.length_cons, List.length_cons]; omega
theorem comp_short : ∀ (l : List P), l.length < 2 → comp l = l
  | [], _ => rfl
  | [_], _ => rfl
  | _ :: _ :: l, h => by simp at h; omega
end Go.Proofs.YtmhpogajklihdaaDoor.C
