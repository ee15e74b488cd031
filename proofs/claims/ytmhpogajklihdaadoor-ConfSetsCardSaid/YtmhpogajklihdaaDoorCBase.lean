/- Comparing: what the functions of layer 20 and of the library tell of texts, of ids, of matches. -/
import Derived.Test.YtmhpogajklihdaaDoorCPlain
import Derived.Test.YtmhpogajklihdaaDoorShelf
import Derived.Test.YtmhpogajklihdaaDoorXReg
import Derived.WalkKit
import Derived.WalkLawsBesides
import Derived.ProofKit
import Derived.Deep.CutBlock
import Derived.Outline
namespace Go.Proofs.YtmhpogajklihdaaDoor.C
open Go.RowKit Go.Shelf Go.Lib Go.Sort

/-- A fact laid aside. -/
structure Aside (p : Prop) : Prop where
  out : p

/-- Draws and new blocks alone. -/
def Gr (a b : World) : Prop := ∃ q os, b = grow (a.drewN q) os
theorem Gr.refl (a : World) : Gr a a := ⟨0, #[], by rw [grow_empty]; rfl⟩
theorem drewN_grow (a : World) (os : Array Obj) (q : Nat) : (grow a os).drewN q = grow (a.drewN q) os := rfl
theorem Gr.trans (a b c : World) (h : Gr a b) (k : Gr b c) : Gr a c := by
  obtain ⟨q, os, rfl⟩ := h
  obtain ⟨q2, os2, rfl⟩ := k
  exact ⟨q + q2, os ++ os2, by rw [drewN_grow, grow_grow, World.drewN_drewN]⟩
theorem Gr.drew (a : World) : Gr a a.drew := ⟨1, #[], by rw [grow_empty]; rfl⟩
theorem Gr.drewN (a : World) (n : Nat) : Gr a (a.drewN n) := ⟨n, #[], by rw [grow_empty]⟩
theorem Gr.alloc (a : World) (o : Obj) : Gr a (a.alloc o) := ⟨0, #[o], alloc_eq_grow a o⟩
theorem Gr.below {a b : World} (h : Gr a b) : Below a.heap.size a b := by
  obtain ⟨q, os, rfl⟩ := h
  exact ⟨rfl, rfl, rfl, by show a.heap.size ≤ (a.heap ++ os).size; rw [Array.size_append]; omega, fun _ hj => Sort.heap_grow_old (a.drewN q) os hj⟩

/-- Ids in memory. -/
def IdsAt (W : World) (v : Value) (ids : List Int) : Prop := ∃ A cap, v = .slice A ids.length cap ∧ ids.length ≤ 9223372036854775807 ∧ ∀ j (_ : j < ids.length), ∃ b o, A = some ⟨b, o, none⟩ ∧ b < W.heap.size ∧ W.cell? ⟨b, o + j, none⟩ = some (.int .i64 ids[j])
theorem IdsAt.below {w W : World} {v : Value} {ids : List Int} (h : IdsAt w v ids) (hb : Below w.heap.size w W) : IdsAt W v ids := by
  obtain ⟨A, cap, e, hm, h⟩ := h
  refine ⟨A, cap, e, hm, fun j hj => ?_⟩
  obtain ⟨b, o, e, hl, hc⟩ := h j hj
  exact ⟨b, o, e, Nat.lt_of_lt_of_le hl hb.size, (hb.cell (p := ⟨b, o + j, none⟩) hl).trans hc⟩

theorem cmpL_cons (a b : Int) (s t : List Int) : cmpL (a :: s) (b :: t) = if a < b then -1 else if b < a then 1 else cmpL s t := rfl
theorem cmpL_left (b : Int) (t : List Int) : cmpL [] (b :: t) = -1 := rfl
theorem cmpL_right (a : Int) (s : List Int) : cmpL (a :: s) [] = 1 := rfl
theorem cmpL_none : cmpL [] [] = 0 := rfl
theorem less_cmp : ∀ (a b : List UInt8), cmpL (a.map fun x => (x.toNat : Int)) (b.map fun x => (x.toNat : Int)) = if Op.bytesLess a b then -1 else if Op.bytesLess b a then 1 else 0
  | [], [] => by simp [cmpL, Op.bytesLess]
  | [], _ :: _ => by simp [cmpL, Op.bytesLess]
  | _ :: _, [] => by simp [cmpL, Op.bytesLess]
  | x :: a, y :: b => by
    have ih := less_cmp a b
    simp only [List.map_cons, cmpL, Op.bytesLess]
    by_cases h1 : x < y
    · have h1' : (x.toNat : Int) < y.toNat := by have := UInt8.lt_iff_toNat_lt.1 h1; omega
      simp [h1, h1']
    · by_cases h2 : y < x
      · have h2' : (y.toNat : Int) < x.toNat := by have := UInt8.lt_iff_toNat_lt.1 h2; omega
        have hne : ¬ x = y := fun e => by subst e; exact h1 h2
        have h1' : ¬ (x.toNat : Int) < y.toNat := by omega
        simp [h1, h2, h1', h2', hne]
      · have e : x = y := by
          have a1 : ¬ x.toNat < y.toNat := fun q => h1 (UInt8.lt_iff_toNat_lt.2 q)
          have a2 : ¬ y.toNat < x.toNat := fun q => h2 (UInt8.lt_iff_toNat_lt.2 q)
          exact UInt8.toNat_inj.1 (by omega)
        subst e
        simp [ih]
theorem cmpB_less (a b : ByteArray) : cmpB a b = if Op.bytesLess a.toList b.toList then -1 else if Op.bytesLess b.toList a.toList then 1 else 0 := by
  unfold cmpB nums
  rw [less_cmp, ByteArray.toList_eq, ByteArray.toList_eq]

section
variable {w : World}

theorem nan_str (a : ByteArray) (w : World) : Calls Tryd.prog 45 #[.string a] w fun e w' => e = .returned (.bool false) ∧ w = w' := by
  go_enter Tryd.func45, Tryd.ntmps45
  go_wp2
  go_ret
  exact ⟨rfl, rfl⟩

theorem less_self (l : List UInt8) : Op.bytesLess l l = false := by
  induction l with
  | nil => rfl
  | cons a l ih => simp [Op.bytesLess, ih]
theorem str_ne {a b : ByteArray} (h : a ≠ b) : (a.toList == b.toList) = false := by
  rw [beq_eq_false_iff_ne, ByteArray.toList_eq, ByteArray.toList_eq]
  intro e
  exact h (by cases a; cases b; congr 1; exact Array.toList_inj.1 e)
theorem cmp_str (a b : ByteArray) (w : World) : Calls Tryd.prog 27 #[.string a, .string b] w fun e w' => e = .returned (.int .i64 (cmpB a b)) ∧ w = w' := by
  rw [cmpB_less]
  by_cases hab : a = b
  · subst hab
    rw [less_self]
    have h1 := less_self a.toList
    go_enter Tryd.func27, Tryd.ntmps27
    go_wp2_with (go_at_call 45; refine (nan_str _ _).mono ?_; rintro e w' ⟨rfl, rfl⟩)
    go_ret
    exact ⟨rfl, rfl⟩
  · have hz : cmpB a b ≠ 0 := fun e => hab (nums_inj (cmpL_zero _ _ e))
    rw [cmpB_less] at hz
    have he := str_ne hab
    clear hab
    generalize h1 : Op.bytesLess a.toList b.toList = p at hz
    generalize h2 : Op.bytesLess b.toList a.toList = q at hz
    cases p
    · cases q
      · exact absurd rfl hz
      · clear hz
        go_enter Tryd.func27, Tryd.ntmps27
        go_wp2_with (go_at_call 45; refine (nan_str _ _).mono ?_; rintro e w' ⟨rfl, rfl⟩)
        go_ret
        exact ⟨rfl, rfl⟩
    · clear hz
      go_enter Tryd.func27, Tryd.ntmps27
      go_wp2_with (go_at_call 45; refine (nan_str _ _).mono ?_; rintro e w' ⟨rfl, rfl⟩)
      go_ret
      exact ⟨rfl, rfl⟩

theorem cmp_int (x y : Int) (w : World) : Calls Tryd.prog 46 #[.int .i64 x, .int .i64 y] w fun e w' => e = .returned (.int .i64 (if x < y then -1 else if y < x then 1 else 0)) ∧ w = w' :=
  (Tryd.cmp_Compare_int x y w).mono fun _ _ ⟨h1, h2⟩ => ⟨h1, h2.symm⟩

set_option maxHeartbeats 1000000 in
set_option maxRecDepth 100000 in
theorem cmp_ids {u v : Value} {s t : List Int} (hu : IdsAt w u s) (hv : IdsAt w v t) : Calls Tryd.prog 28 #[u, v] w fun e w' => e = .returned (.int .i64 (cmpL s t)) ∧ w = w' := by
  obtain ⟨A, ca, rfl, hma, ha⟩ := hu
  obtain ⟨B, cb, rfl, hmb, hb⟩ := hv
  replace ha := Aside.mk ha
  replace hb := Aside.mk hb
  go_enter Tryd.func28, Tryd.ntmps28
  go_wp2_with fail
  go_loopw [11] (fun i wr => ∃ j : Nat, i = .int .i64 j ∧ j ≤ s.length ∧ j ≤ t.length ∧ cmpL s t = cmpL (s.drop j) (t.drop j) ∧ w = wr) (fun i _ => s.length - (intOf i).toNat)
  case atStart => exact ⟨0, rfl, Nat.zero_le _, Nat.zero_le _, rfl, rfl⟩
  case round =>
    obtain ⟨j, rfl, hj, hj2, hcm, rfl⟩ := hrel
    by_cases h1 : j < s.length
    · obtain ⟨b1, o1, rfl, hl1, hc1⟩ := ha.out j h1
      rw [List.drop_eq_getElem_cons h1] at hcm
      by_cases h2 : j < t.length
      · obtain ⟨b2, o2, rfl, hl2, hc2⟩ := hb.out j h2
        rw [List.drop_eq_getElem_cons h2] at hcm
        rw [cmpL_cons] at hcm
        have HC := Aside.mk (cmp_int s[j] t[j] w)
        by_cases x1 : s[j] < t[j]
        · rw [if_pos x1] at hcm HC
          replace hcm := Aside.mk hcm
          clear x1
          go_wp2_with (go_at_call 46; refine HC.out.mono ?_; rintro e w' ⟨rfl, rfl⟩)
          go_ret
          exact ⟨congrArg (fun q => Ending.returned (.int .i64 q)) hcm.out.symm, rfl⟩
        · rw [if_neg x1] at hcm HC
          by_cases x2 : t[j] < s[j]
          · rw [if_pos x2] at hcm HC
            replace hcm := Aside.mk hcm
            clear x1 x2
            go_wp2_with (go_at_call 46; refine HC.out.mono ?_; rintro e w' ⟨rfl, rfl⟩)
            go_ret
            exact ⟨congrArg (fun q => Ending.returned (.int .i64 q)) hcm.out.symm, rfl⟩
          · rw [if_neg x2] at hcm HC
            replace hcm := Aside.mk hcm
            clear x1 x2
            go_wp2_with (go_at_call 46; refine HC.out.mono ?_; rintro e w' ⟨rfl, rfl⟩)
            go_roundw
            case rel => exact ⟨j + 1, by go_num, by omega, by omega, hcm.out, trivial⟩
            case measure => simp [intOf]; omega
      · obtain rfl : j = t.length := by omega
        rw [List.drop_length, cmpL_right] at hcm
        replace hcm := Aside.mk hcm
        go_wp2
        go_ret
        exact ⟨congrArg (fun q => Ending.returned (.int .i64 q)) hcm.out.symm, rfl⟩
    · obtain rfl : j = s.length := by omega
      rw [List.drop_length] at hcm
      by_cases h2 : s.length < t.length
      · rw [List.drop_eq_getElem_cons h2, cmpL_left] at hcm
        replace hcm := Aside.mk hcm
        go_wp2
        go_ret
        exact ⟨congrArg (fun q => Ending.returned (.int .i64 q)) hcm.out.symm, rfl⟩
      · have h3 : t.drop s.length = [] := List.drop_eq_nil_of_le (by omega)
        rw [h3, cmpL_none] at hcm
        replace hcm := Aside.mk hcm
        clear h3
        go_wp2
        go_ret
        exact ⟨congrArg (fun q => Ending.returned (.int .i64 q)) hcm.out.symm, rfl⟩

set_option maxRecDepth 100000 in
theorem or_two {b : Nat} {x y : Int} (h0 : w.cell? ⟨b, 0, none⟩ = some (.int .i64 x)) (h1 : w.cell? ⟨b, 1, none⟩ = some (.int .i64 y)) :
    Calls Tryd.prog 26 #[.slice (some ⟨b, 0, none⟩) 2 2] w fun e w' => e = .returned (.int .i64 (if x ≠ 0 then x else y)) ∧ w = w' := by
  by_cases hx : x = 0
  · subst hx
    by_cases hy : y = 0
    · subst hy
      go_enter Tryd.func26, Tryd.ntmps26
      go_wp2_with fail
      refine wp_loop_rounds 3 ?_
      rw [rounds_succ]
      go_wp2
      rw [rounds_succ]
      go_wp2
      rw [rounds_succ]
      go_wp2
      go_ret
      exact ⟨rfl, rfl⟩
    · have hy' : (y != 0) = true := bne_iff_ne.2 hy
      go_enter Tryd.func26, Tryd.ntmps26
      go_wp2_with fail
      refine wp_loop_rounds 2 ?_
      rw [rounds_succ]
      go_wp2
      rw [rounds_succ]
      go_wp2
      go_ret
      exact ⟨rfl, rfl⟩
  · have hx' : (x != 0) = true := bne_iff_ne.2 hx
    rw [if_pos hx]
    go_enter Tryd.func26, Tryd.ntmps26
    go_wp2_with fail
    refine wp_loop_rounds 1 ?_
    rw [rounds_succ]
    go_wp2
    go_ret
    exact ⟨rfl, rfl⟩
end
end Go.Proofs.YtmhpogajklihdaaDoor.C
