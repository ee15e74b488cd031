/- The order on matches, and lists that rise: plain. -/
import Derived.Sort.Statements
import Derived.Shelf.SlSortCmp.Insertion
namespace Go.Proofs.YtmhpogajklihdaaDoor.C
open Go.Sort

/-- Lists of numbers, by the first that differs. -/
def cmpL : List Int → List Int → Int
  | [], [] => 0
  | [], _ :: _ => -1
  | _ :: _, [] => 1
  | a :: s, b :: t => if a < b then -1 else if b < a then 1 else cmpL s t

theorem cmpL_self : ∀ s, cmpL s s = 0
  | [] => rfl
  | a :: s => by simp [cmpL, cmpL_self s]
theorem cmpL_zero : ∀ s t, cmpL s t = 0 → s = t
  | [], [], _ => rfl
  | [], _ :: _, h => by simp [cmpL] at h
  | _ :: _, [], h => by simp [cmpL] at h
  | a :: s, b :: t, h => by
    unfold cmpL at h
    split at h
    · cases h
    · split at h
      · cases h
      · rw [cmpL_zero s t h, show a = b by omega]
theorem cmpL_neg : ∀ s t, cmpL t s = - cmpL s t
  | [], [] => rfl
  | [], _ :: _ => rfl
  | _ :: _, [] => rfl
  | a :: s, b :: t => by
    unfold cmpL
    by_cases h1 : a < b
    · rw [if_pos h1, if_neg (by omega), if_pos h1]; rfl
    · by_cases h2 : b < a
      · rw [if_pos h2, if_neg h1, if_pos h2]
      · rw [if_neg h2, if_neg h1, if_neg h1, if_neg h2]; exact cmpL_neg s t
theorem cmpL_vals : ∀ s t, cmpL s t = -1 ∨ cmpL s t = 0 ∨ cmpL s t = 1
  | [], [] => .inr (.inl rfl)
  | [], _ :: _ => .inl rfl
  | _ :: _, [] => .inr (.inr rfl)
  | a :: s, b :: t => by
    unfold cmpL
    split
    · exact .inl rfl
    · split
      · exact .inr (.inr rfl)
      · exact cmpL_vals s t
theorem cmpL_trans : ∀ s t u, cmpL s t < 0 → cmpL t u < 0 → cmpL s u < 0
  | [], [], _, h, _ => by simp [cmpL] at h
  | [], _ :: _, [], _, h => by simp [cmpL] at h
  | [], _ :: _, _ :: _, _, _ => by simp [cmpL]
  | _ :: _, [], _, h, _ => by simp [cmpL] at h
  | _ :: _, _ :: _, [], _, h => by simp [cmpL] at h
  | a :: s, b :: t, c :: u, h1, h2 => by
    have ih := cmpL_trans s t u
    unfold cmpL at h1 h2 ⊢
    by_cases x1 : a < b
    · by_cases y1 : b < c
      · rw [if_pos (by omega)]; decide
      · rw [if_neg y1] at h2
        by_cases y2 : c < b
        · rw [if_pos y2] at h2; omega
        · rw [if_pos (by omega)]; decide
    · rw [if_neg x1] at h1
      by_cases x2 : b < a
      · rw [if_pos x2] at h1; omega
      · rw [if_neg x2] at h1
        by_cases y1 : b < c
        · rw [if_pos (by omega)]; decide
        · rw [if_neg y1] at h2
          by_cases y2 : c < b
          · rw [if_pos y2] at h2; omega
          · rw [if_neg y2] at h2
            rw [if_neg (by omega), if_neg (by omega)]
            exact ih h1 h2

abbrev M := ByteArray × List Int
def nums (s : ByteArray) : List Int := s.data.toList.map fun b => (b.toNat : Int)
theorem nums_inj {a b : ByteArray} (h : nums a = nums b) : a = b := by
  have h1 : a.data.toList = b.data.toList := by
    refine List.map_inj_right (f := fun x : UInt8 => (x.toNat : Int)) (fun x y e => ?_) |>.1 h
    exact UInt8.toNat_inj.1 (by exact_mod_cast e)
  cases a; cases b
  congr 1
  exact Array.toList_inj.1 h1
def cmpB (a b : ByteArray) : Int := cmpL (nums a) (nums b)
/-- Two matches: by their rules, then by their ids. -/
def cmpM (x y : M) : Int := if cmpB x.1 y.1 ≠ 0 then cmpB x.1 y.1 else cmpL x.2 y.2

theorem cmpM_self (x : M) : cmpM x x = 0 := by simp [cmpM, cmpB, cmpL_self]
theorem cmpM_zero {x y : M} (h : cmpM x y = 0) : x = y := by
  unfold cmpM at h
  split at h
  · rename_i q; exact absurd h q
  · rename_i q
    have q' : cmpB x.1 y.1 = 0 := by omega
    exact Prod.ext (nums_inj (cmpL_zero _ _ q')) (cmpL_zero _ _ h)
theorem cmpM_eq {x y : M} : cmpM x y = 0 ↔ x = y := ⟨cmpM_zero, fun h => by rw [h]; exact cmpM_self y⟩
theorem cmpM_neg (x y : M) : cmpM y x = - cmpM x y := by
  unfold cmpM cmpB
  have h := cmpL_neg (nums x.1) (nums y.1)
  by_cases q : cmpL (nums x.1) (nums y.1) = 0
  · rw [if_neg (by omega), if_neg (by omega)]; exact cmpL_neg _ _
  · rw [if_pos (by omega), if_pos q]; exact h
theorem cmpM_vals (x y : M) : cmpM x y = -1 ∨ cmpM x y = 0 ∨ cmpM x y = 1 := by
  unfold cmpM
  split
  · exact cmpL_vals _ _
  · exact cmpL_vals _ _
theorem cmpM_trans {x y z : M} (h1 : cmpM x y < 0) (h2 : cmpM y z < 0) : cmpM x z < 0 := by
  unfold cmpM cmpB at *
  have e1 : ∀ {a b : ByteArray}, cmpL (nums a) (nums b) = 0 → nums a = nums b := fun h => cmpL_zero _ _ h
  by_cases q1 : cmpL (nums x.1) (nums y.1) = 0
  · rw [if_neg (by omega)] at h1
    by_cases q2 : cmpL (nums y.1) (nums z.1) = 0
    · rw [if_neg (by omega)] at h2
      rw [if_neg (by rw [e1 q1, q2]; simp)]
      exact cmpL_trans _ _ _ h1 h2
    · rw [if_pos q2] at h2
      rw [e1 q1, if_pos q2]; exact h2
  · rw [if_pos q1] at h1
    by_cases q2 : cmpL (nums y.1) (nums z.1) = 0
    · rw [← e1 q2, if_pos q1]; exact h1
    · rw [if_pos q2] at h2
      have := cmpL_trans _ _ _ h1 h2
      rw [if_pos (by omega)]; exact this
def ltM (x y : M) : Prop := cmpM x y < 0
instance (x y : M) : Decidable (ltM x y) := inferInstanceAs (Decidable (_ < _))
theorem ltM_irrefl (x : M) : ¬ ltM x x := by unfold ltM; rw [cmpM_self]; decide
theorem ltM_asymm {x y : M} (h : ltM x y) : ¬ ltM y x := by unfold ltM at *; rw [cmpM_neg]; omega
theorem ltM_total {x y : M} (h : x ≠ y) : ltM x y ∨ ltM y x := by
  unfold ltM
  rw [cmpM_neg x y]
  have : cmpM x y ≠ 0 := fun e => h (cmpM_zero e)
  omega
theorem swoM : SWO (ltOf cmpM) where
  irrefl x := by simp [ltOf, cmpM_self]
  trans x y z h1 h2 := by
    simp only [ltOf, decide_eq_true_eq] at *
    exact cmpM_trans h1 h2
  ntrans x y z h1 h2 := by
    simp only [ltOf, decide_eq_false_iff_not, Int.not_lt] at *
    by_cases e : x = y
    · subst e; exact h2
    · by_cases e2 : y = z
      · subst e2; exact h1
      · have a : cmpM y x < 0 := by
          rw [cmpM_neg]
          have : cmpM x y ≠ 0 := fun q => e (cmpM_zero q)
          omega
        have b : cmpM z y < 0 := by
          rw [cmpM_neg]
          have : cmpM y z ≠ 0 := fun q => e2 (cmpM_zero q)
          omega
        have := cmpM_trans b a
        rw [cmpM_neg] at this
        omega

/-- Rising, each once. -/
abbrev Rising (l : List M) : Prop := l.Pairwise ltM
theorem rising_eq : ∀ {a b : List M}, Rising a → Rising b → (∀ x, x ∈ a ↔ x ∈ b) → a = b
  | [], [], _, _, _ => rfl
  | [], y :: b, _, _, h => by have := (h y).2 (by simp); cases this
  | x :: a, [], _, _, h => by have := (h x).1 (by simp); cases this
  | x :: a, y :: b, ha, hb, h => by
    obtain ⟨h1, h2⟩ := List.pairwise_cons.1 ha
    obtain ⟨h3, h4⟩ := List.pairwise_cons.1 hb
    have e : x = y := by
      have hx : x = y ∨ x ∈ b := by simpa using (h x).1 (by simp)
      have hy : y = x ∨ y ∈ a := by simpa using (h y).2 (by simp)
      rcases hx with e | m
      · exact e
      · rcases hy with e | m2
        · exact e.symm
        · exact absurd (h3 x m) (ltM_asymm (h1 y m2))
    subst e
    have : a = b := rising_eq h2 h4 fun z => by
      have hz := h z
      simp only [List.mem_cons] at hz
      constructor
      · intro m
        rcases hz.1 (.inr m) with e | q
        · subst e; exact absurd (h1 z m) (ltM_irrefl z)
        · exact q
      · intro m
        rcases hz.2 (.inr m) with e | q
        · subst e; exact absurd (h3 z m) (ltM_irrefl z)
        · exact q
    rw [this]
end Go.Proofs.YtmhpogajklihdaaDoor.C
