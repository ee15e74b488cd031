/- Comparing: what the functions of layer 20 and of the library tell of texts, of ids, of matches. 'Compare' of layer 20, and 'one'. Lists of matches in memory: such as came in, and such as a call has made. -/
import Derived.Test.YtmhpogajklihdaaDoorCPlain
import Derived.Test.YtmhpogajklihdaaDoorShelf
import Derived.Test.YtmhpogajklihdaaDoorXReg
import Derived.WalkKit
import Derived.WalkLawsBesides
import Derived.ProofKit
import Derived.Deep.CutBlock
import Derived.Outline
import Derived.Test.YtmhpogajklihdaaDoorWWords
import Derived.Laws.AppendOwn
import Derived.Maps.AppendAt
namespace Go.Proofs.YtmhpogajklihdaaDoor.C
open Go.RowKit Go.Shelf Go.Lib Go.Sort

/-- A fact laid aside. -/
structure Aside (p : Prop) : Prop where
  out : p

/-- Draws and new blocks alone. -/
def Gr (a b : World) : Prop := ∃ q os, b = grow (a.drewN q) os
theorem Gr.refl (a : World) : Gr a a := ⟨0, #[], by rw [grow_empty]; rfl⟩
theorem drewN_grow (a : World) (os : Array Obj) (q : Nat) : (grow a os).drewN q = grow (a.drewN q) os := rfl
theorem Gr.trans (a b c : World) (h : Gr a b) (k : Gr b c) : Gr a c := by
  obtain ⟨q, os, rfl⟩ := h
  obtain ⟨q2, os2, rfl⟩ := k
  exact ⟨q + q2, os ++ os2, by rw [drewN_grow, grow_grow, World.drewN_drewN]⟩
theorem Gr.drew (a : World) : Gr a a.drew := ⟨1, #[], by rw [grow_empty]; rfl⟩
theorem Gr.drewN (a : World) (n : Nat) : Gr a (a.drewN n) := ⟨n, #[], by rw [grow_empty]⟩
theorem Gr.alloc (a : World) (o : Obj) : Gr a (a.alloc o) := ⟨0, #[o], alloc_eq_grow a o⟩
theorem Gr.below {a b : World} (h : Gr a b) : Below a.heap.size a b := by
  obtain ⟨q, os, rfl⟩ := h
  exact ⟨rfl, rfl, rfl, by show a.heap.size ≤ (a.heap ++ os).size; rw [Array.size_append]; omega, fun _ hj => Sort.heap_grow_old (a.drewN q) os hj⟩

/-- Ids in memory. -/
def IdsAt (W : World) (v : Value) (ids : List Int) : Prop := ∃ A cap, v = .slice A ids.length cap ∧ ids.length ≤ 9223372036854775807 ∧ ∀ j (_ : j < ids.length), ∃ b o, A = some ⟨b, o, none⟩ ∧ b < W.heap.size ∧ W.cell? ⟨b, o + j, none⟩ = some (.int .i64 ids[j])
theorem IdsAt.below {w W : World} {v : Value} {ids : List Int} (h : IdsAt w v ids) (hb : Below w.heap.size w W) : IdsAt W v ids := by
  obtain ⟨A, cap, e, hm, h⟩ := h
  refine ⟨A, cap, e, hm, fun j hj => ?_⟩
  obtain ⟨b, o, e, hl, hc⟩ := h j hj
  exact ⟨b, o, e, Nat.lt_of_lt_of_le hl hb.size, (hb.cell (p := ⟨b, o + j, none⟩) hl).trans hc⟩

theorem cmpL_cons (a b : Int) (s t : List Int) : cmpL (a :: s) (b :: t) = if a < b then -1 else if b < a then 1 else cmpL s t := rfl
theorem cmpL_left (b : Int) (t : List Int) : cmpL [] (b :: t) = -1 := rfl
theorem cmpL_right (a : Int) (s : List Int) : cmpL (a :: s) [] = 1 := rfl
theorem cmpL_none : cmpL [] [] = 0 := rfl
theorem less_cmp : ∀ (a b : List UInt8), cmpL (a.map fun x => (x.toNat : Int)) (b.map fun x => (x.toNat : Int)) = if Op.bytesLess a b then -1 else if Op.bytesLess b a then 1 else 0
  | [], [] => by simp [cmpL, Op.bytesLess]
  | [], _ :: _ => by simp [cmpL, Op.bytesLess]
  | _ :: _, [] => by simp [cmpL, Op.bytesLess]
  | x :: a, y :: b => by
    have ih := less_cmp a b
    simp only [List.map_cons, cmpL, Op.bytesLess]
    by_cases h1 : x < y
    · have h1' : (x.toNat : Int) < y.toNat := by have := UInt8.lt_iff_toNat_lt.1 h1; omega
      simp [h1, h1']
    · by_cases h2 : y < x
      · have h2' : (y.toNat : Int) < x.toNat := by have := UInt8.lt_iff_toNat_lt.1 h2; omega
        have hne : ¬ x = y := fun e => by subst e; exact h1 h2
        have h1' : ¬ (x.toNat : Int) < y.toNat := by omega
        simp [h1, h2, h1', h2', hne]
      · have e : x = y := by
          have a1 : ¬ x.toNat < y.toNat := fun q => h1 (UInt8.lt_iff_toNat_lt.2 q)
          have a2 : ¬ y.toNat < x.toNat := fun q => h2 (UInt8.lt_iff_toNat_lt.2 q)
          exact UInt8.toNat_inj.1 (by omega)
        subst e
        simp [ih]
theorem cmpB_less (a b : ByteArray) : cmpB a b = if Op.bytesLess a.toList b.toList then -1 else if Op.bytesLess b.toList a.toList then 1 else 0 := by
  unfold cmpB nums
  rw [less_cmp, ByteArray.toList_eq, ByteArray.toList_eq]

section
variable {w : World}

theorem nan_str (a : ByteArray) (w : World) : Calls Tryd.prog 45 #[.string a] w fun e w' => e = .returned (.bool false) ∧ w = w' := by
  go_enter Tryd.func45, Tryd.ntmps45
  go_wp2
  go_ret
  exact ⟨rfl, rfl⟩

theorem less_self (l : List UInt8) : Op.bytesLess l l = false := by
  induction l with
  | nil => rfl
  | cons a l ih => simp [Op.bytesLess, ih]
theorem str_ne {a b : ByteArray} (h : a ≠ b) : (a.toList == b.toList) = false := by
  rw [beq_eq_false_iff_ne, ByteArray.toList_eq, ByteArray.toList_eq]
  intro e
  exact h (by cases a; cases b; congr 1; exact Array.toList_inj.1 e)
theorem cmp_str (a b : ByteArray) (w : World) : Calls Tryd.prog 27 #[.string a, .string b] w fun e w' => e = .returned (.int .i64 (cmpB a b)) ∧ w = w' := by
  rw [cmpB_less]
  by_cases hab : a = b
  · subst hab
    rw [less_self]
    have h1 := less_self a.toList
    go_enter Tryd.func27, Tryd.ntmps27
    go_wp2_with (go_at_call 45; refine (nan_str _ _).mono ?_; rintro e w' ⟨rfl, rfl⟩)
    go_ret
    exact ⟨rfl, rfl⟩
  · have hz : cmpB a b ≠ 0 := fun e => hab (nums_inj (cmpL_zero _ _ e))
    rw [cmpB_less] at hz
    have he := str_ne hab
    clear hab
    generalize h1 : Op.bytesLess a.toList b.toList = p at hz
    generalize h2 : Op.bytesLess b.toList a.toList = q at hz
    cases p
    · cases q
      · exact absurd rfl hz
      · clear hz
        go_enter Tryd.func27, Tryd.ntmps27
        go_wp2_with (go_at_call 45; refine (nan_str _ _).mono ?_; rintro e w' ⟨rfl, rfl⟩)
        go_ret
        exact ⟨rfl, rfl⟩
    · clear hz
      go_enter Tryd.func27, Tryd.ntmps27
      go_wp2_with (go_at_call 45; refine (nan_str _ _).mono ?_; rintro e w' ⟨rfl, rfl⟩)
      go_ret
      exact ⟨rfl, rfl⟩

theorem cmp_int (x y : Int) (w : World) : Calls Tryd.prog 46 #[.int .i64 x, .int .i64 y] w fun e w' => e = .returned (.int .i64 (if x < y then -1 else if y < x then 1 else 0)) ∧ w = w' :=
  (Tryd.cmp_Compare_int x y w).mono fun _ _ ⟨h1, h2⟩ => ⟨h1, h2.symm⟩

set_option maxHeartbeats 1000000 in
set_option maxRecDepth 100000 in
theorem cmp_ids {u v : Value} {s t : List Int} (hu : IdsAt w u s) (hv : IdsAt w v t) : Calls Tryd.prog 28 #[u, v] w fun e w' => e = .returned (.int .i64 (cmpL s t)) ∧ w = w' := by
  obtain ⟨A, ca, rfl, hma, ha⟩ := hu
  obtain ⟨B, cb, rfl, hmb, hb⟩ := hv
  replace ha := Aside.mk ha
  replace hb := Aside.mk hb
  go_enter Tryd.func28, Tryd.ntmps28
  go_wp2_with fail
  go_loopw [11] (fun i wr => ∃ j : Nat, i = .int .i64 j ∧ j ≤ s.length ∧ j ≤ t.length ∧ cmpL s t = cmpL (s.drop j) (t.drop j) ∧ w = wr) (fun i _ => s.length - (intOf i).toNat)
  case atStart => exact ⟨0, rfl, Nat.zero_le _, Nat.zero_le _, rfl, rfl⟩
  case round =>
    obtain ⟨j, rfl, hj, hj2, hcm, rfl⟩ := hrel
    by_cases h1 : j < s.length
    · obtain ⟨b1, o1, rfl, hl1, hc1⟩ := ha.out j h1
      rw [List.drop_eq_getElem_cons h1] at hcm
      by_cases h2 : j < t.length
      · obtain ⟨b2, o2, rfl, hl2, hc2⟩ := hb.out j h2
        rw [List.drop_eq_getElem_cons h2] at hcm
        rw [cmpL_cons] at hcm
        have HC := Aside.mk (cmp_int s[j] t[j] w)
        by_cases x1 : s[j] < t[j]
        · rw [if_pos x1] at hcm HC
          replace hcm := Aside.mk hcm
          clear x1
          go_wp2_with (go_at_call 46; refine HC.out.mono ?_; rintro e w' ⟨rfl, rfl⟩)
          go_ret
          exact ⟨congrArg (fun q => Ending.returned (.int .i64 q)) hcm.out.symm, rfl⟩
        · rw [if_neg x1] at hcm HC
          by_cases x2 : t[j] < s[j]
          · rw [if_pos x2] at hcm HC
            replace hcm := Aside.mk hcm
            clear x1 x2
            go_wp2_with (go_at_call 46; refine HC.out.mono ?_; rintro e w' ⟨rfl, rfl⟩)
            go_ret
            exact ⟨congrArg (fun q => Ending.returned (.int .i64 q)) hcm.out.symm, rfl⟩
          · rw [if_neg x2] at hcm HC
            replace hcm := Aside.mk hcm
            clear x1 x2
            go_wp2_with (go_at_call 46; refine HC.out.mono ?_; rintro e w' ⟨rfl, rfl⟩)
            go_roundw
            case rel => exact ⟨j + 1, by go_num, by omega, by omega, hcm.out, trivial⟩
            case measure => simp [intOf]; omega
      · obtain rfl : j = t.length := by omega
        rw [List.drop_length, cmpL_right] at hcm
        replace hcm := Aside.mk hcm
        go_wp2
        go_ret
        exact ⟨congrArg (fun q => Ending.returned (.int .i64 q)) hcm.out.symm, rfl⟩
    · obtain rfl : j = s.length := by omega
      rw [List.drop_length] at hcm
      by_cases h2 : s.length < t.length
      · rw [List.drop_eq_getElem_cons h2, cmpL_left] at hcm
        replace hcm := Aside.mk hcm
        go_wp2
        go_ret
        exact ⟨congrArg (fun q => Ending.returned (.int .i64 q)) hcm.out.symm, rfl⟩
      · have h3 : t.drop s.length = [] := List.drop_eq_nil_of_le (by omega)
        rw [h3, cmpL_none] at hcm
        replace hcm := Aside.mk hcm
        clear h3
        go_wp2
        go_ret
        exact ⟨congrArg (fun q => Ending.returned (.int .i64 q)) hcm.out.symm, rfl⟩

set_option maxRecDepth 100000 in
theorem or_two {b : Nat} {x y : Int} (h0 : w.cell? ⟨b, 0, none⟩ = some (.int .i64 x)) (h1 : w.cell? ⟨b, 1, none⟩ = some (.int .i64 y)) :
    Calls Tryd.prog 26 #[.slice (some ⟨b, 0, none⟩) 2 2] w fun e w' => e = .returned (.int .i64 (if x ≠ 0 then x else y)) ∧ w = w' := by
  by_cases hx : x = 0
  · subst hx
    by_cases hy : y = 0
    · subst hy
      go_enter Tryd.func26, Tryd.ntmps26
      go_wp2_with fail
      refine wp_loop_rounds 3 ?_
      rw [rounds_succ]
      go_wp2
      rw [rounds_succ]
      go_wp2
      rw [rounds_succ]
      go_wp2
      go_ret
      exact ⟨rfl, rfl⟩
    · have hy' : (y != 0) = true := bne_iff_ne.2 hy
      go_enter Tryd.func26, Tryd.ntmps26
      go_wp2_with fail
      refine wp_loop_rounds 2 ?_
      rw [rounds_succ]
      go_wp2
      rw [rounds_succ]
      go_wp2
      go_ret
      exact ⟨rfl, rfl⟩
  · have hx' : (x != 0) = true := bne_iff_ne.2 hx
    rw [if_pos hx]
    go_enter Tryd.func26, Tryd.ntmps26
    go_wp2_with fail
    refine wp_loop_rounds 1 ?_
    rw [rounds_succ]
    go_wp2
    go_ret
    exact ⟨rfl, rfl⟩
end
end Go.Proofs.YtmhpogajklihdaaDoor.C
namespace Go.Proofs.YtmhpogajklihdaaDoor.C
open Go.RowKit Go.Shelf Go.Lib Go.Sort

theorem blk_new (w : World) (cs : Array Value) (t : TypeId) : (w.alloc (.cells cs t)).heap[w.heap.size]? = some (.cells cs t (0, 0)) := by show (w.heap.push _)[w.heap.size]? = _; simp
theorem blk_cell {w : World} {b : Nat} {cs : Array Value} {t : TypeId} {fr : Nat × Nat} (h : w.heap[b]? = some (.cells cs t fr)) (i : Nat) : w.cell? ⟨b, i, none⟩ = cs[i]? := by simp [World.cell?, h]
theorem blk_lt {w : World} {b : Nat} {o : Obj} (h : w.heap[b]? = some o) : b < w.heap.size := (Array.getElem?_eq_some_iff.1 h).1

/-- Two numbers in a row of their own. -/
def Two (x y : Int) (u : Value) (w : World) : Prop := ∃ b, u = .slice (some ⟨b, 0, none⟩) 2 2 ∧ b < w.heap.size ∧ w.cell? ⟨b, 0, none⟩ = some (.int .i64 x) ∧ w.cell? ⟨b, 1, none⟩ = some (.int .i64 y)
theorem Two.up {x y : Int} : ∀ u w w', Two x y u w → Gr w w' → Two x y u w' := fun _ _ _ ⟨b, e, hl, h0, h1⟩ hg =>
  ⟨b, e, Nat.lt_of_lt_of_le hl hg.below.size, (hg.below.cell (p := ⟨b, 0, none⟩) hl).trans h0, (hg.below.cell (p := ⟨b, 1, none⟩) hl).trans h1⟩

attribute [local go_sem] XReg.envOf

section
variable {w : World}

set_option maxHeartbeats 1000000 in
set_option maxRecDepth 100000 in
theorem compare_walk (x y : M) {ux uy : Value} (hx : IdsAt w ux x.2) (hy : IdsAt w uy y.2) : Calls Tryd.prog 13 #[.agg #[.string x.1, ux], .agg #[.string y.1, uy]] w fun e w' => e = .returned (.int .i64 (cmpM x y)) ∧ Gr w w' := by
  have hA : Gr w ((w.alloc (.cells #[.string x.1, ux] 24)).alloc (.cells #[.string y.1, uy] 24)) := Gr.trans _ _ _ (Gr.alloc _ _) (Gr.alloc _ _)
  have p1 := (Below.heap_alloc _ (.cells #[.string y.1, uy] 24) _ (by simp)).trans (blk_new w #[.string x.1, ux] 24)
  have p2 := blk_new (w.alloc (.cells #[.string x.1, ux] 24)) #[.string y.1, uy] 24
  rw [World.size_alloc] at p2
  obtain ⟨A, ca, rfl, hA1, hA2⟩ := hx
  obtain ⟨B, cb, rfl, hB1, hB2⟩ := hy
  have hx : IdsAt w (.slice A x.2.length ca) x.2 := ⟨A, ca, rfl, hA1, hA2⟩
  have hy : IdsAt w (.slice B y.2.length cb) y.2 := ⟨B, cb, rfl, hB1, hB2⟩
  clear hA1 hA2 hB1 hB2
  replace hx := hx.below hA.below
  replace hy := hy.below hA.below
  replace hA := Aside.mk hA
  go_enter Tryd.func13, Tryd.ntmps13
  go_upto_region 1 with fail
  generalize (w.alloc (.cells #[.string x.1, .slice A x.2.length ca] 24)).alloc (.cells #[.string y.1, .slice B y.2.length cb] 24) = W at hA p1 p2 hx hy ⊢
  generalize w.heap.size = n at p1 p2 ⊢
  have hb : ∀ W', Gr W.drew W' → Below W.heap.size W W' := fun W' h => (Gr.trans _ _ _ (Gr.drew W) h).below
  have c1 : ∀ W', Gr W.drew W' → W'.cell? ⟨n, 0, none⟩ = some (.string x.1) := fun W' h => ((hb W' h).cell (p := ⟨n, 0, none⟩) (blk_lt p1)).trans ((blk_cell p1 0).trans rfl)
  have c2 : ∀ W', Gr W.drew W' → W'.cell? ⟨n, 1, none⟩ = some (.slice A x.2.length ca) := fun W' h => ((hb W' h).cell (p := ⟨n, 1, none⟩) (blk_lt p1)).trans ((blk_cell p1 1).trans rfl)
  have c3 : ∀ W', Gr W.drew W' → W'.cell? ⟨n + 1, 0, none⟩ = some (.string y.1) := fun W' h => ((hb W' h).cell (p := ⟨n + 1, 0, none⟩) (blk_lt p2)).trans ((blk_cell p2 0).trans rfl)
  have c4 : ∀ W', Gr W.drew W' → W'.cell? ⟨n + 1, 1, none⟩ = some (.slice B y.2.length cb) := fun W' h => ((hb W' h).cell (p := ⟨n + 1, 1, none⟩) (blk_lt p2)).trans ((blk_cell p2 1).trans rfl)
  have k27 : Aside (∀ W', Gr W.drew W' → Calls Tryd.prog 27 #[.string x.1, .string y.1] W' fun e W2 => ∃ u, e = .returned u ∧ Gr W' W2 ∧ u = .int .i64 (cmpB x.1 y.1)) := ⟨fun W' _ => (cmp_str x.1 y.1 W').mono fun e W2 ⟨h1, h2⟩ => ⟨_, h1, by rw [← h2]; exact Gr.refl _, rfl⟩⟩
  have k28 : Aside (∀ W', Gr W.drew W' → Calls Tryd.prog 28 #[.slice A x.2.length ca, .slice B y.2.length cb] W' fun e W2 => ∃ u, e = .returned u ∧ Gr W' W2 ∧ u = .int .i64 (cmpL x.2 y.2)) := ⟨fun W' h => (cmp_ids (hx.below (hb W' h)) (hy.below (hb W' h))).mono fun e W2 ⟨h1, h2⟩ => ⟨_, h1, by rw [← h2]; exact Gr.refl _, rfl⟩⟩
  have k26 : Aside (∀ u1 W', Gr W.drew W' → Two (cmpB x.1 y.1) (cmpL x.2 y.2) u1 W' → Calls Tryd.prog 26 #[u1] W' fun e W2 => ∃ u, e = .returned u ∧ Gr W' W2 ∧ u = .int .i64 (cmpM x y)) := ⟨fun u1 W' _ ⟨b, e, hl, h0, h1⟩ => by
    subst e
    exact (or_two h0 h1).mono fun e W2 ⟨h1, h2⟩ => ⟨_, h1, by rw [← h2]; exact Gr.refl _, rfl⟩⟩
  clear hx hy hb p1 p2
  refine XReg.wp_region Gr Gr.refl Gr.trans (by kernel_rfl) (by kernel_rfl) [(2, .det (.pointer (some ⟨n, 0, none⟩))), (3, .det (.pointer (some ⟨n + 1, 0, none⟩)))] (XReg.base_cons rfl (XReg.base_cons rfl XReg.base_nil)) ?_
  repeat (first
    | (refine XReg.walk_assign Gr.refl rfl rfl _ rfl (by kernel_rfl) (by kernel_rfl) ?_)
    | (refine XReg.walk_calld k27.out rfl (by kernel_rfl) (by kernel_rfl) _ rfl (by kernel_rfl) (by kernel_rfl) ?_)
    | (refine XReg.walk_calld k28.out rfl (by kernel_rfl) (by kernel_rfl) _ rfl (by kernel_rfl) (by kernel_rfl) ?_)
    | (refine XReg.walk_calld0 k26.out rfl (by kernel_rfl) rfl _ rfl (by kernel_rfl) (by kernel_rfl) ?_)
    | (refine XReg.run_1 Gr.refl rfl rfl _ rfl (by kernel_rfl) (by kernel_rfl) ?_; apply Exists.intro; refine ⟨fun ρ W hE h1 => ?_, ?_⟩; (go_simp; try rfl))
    | (refine XReg.nd_2 (Two (cmpB x.1 y.1) (cmpL x.2 y.2)) Two.up rfl rfl rfl (fun ρ W hE h1 h2 => ⟨_, _, by (go_simp; try rfl), Gr.alloc _ _, _, rfl, by simp, (blk_cell (blk_new W _ _) 0).trans rfl, (blk_cell (blk_new W _ _) 1).trans rfl⟩) _ rfl (by kernel_rfl) (by kernel_rfl) ?_))
  intro ρ W' hE _
  have hG := Aside.mk (Gr.trans _ _ _ hA.out (Gr.trans _ _ _ (Gr.drew W) hE))
  clear hE c1 c2 c3 c4 k27 k28 k26 hA
  simp only [Act.put, List.setIfInBounds_toArray, List.set_cons_zero, List.set_cons_succ]
  go_wp2
  go_ret
  exact ⟨rfl, hG.out⟩

set_option maxRecDepth 100000 in
theorem one_walk (x y : M) {ux uy : Value} (hx : IdsAt w ux x.2) (hy : IdsAt w uy y.2) : Calls Tryd.prog 32 #[.agg #[.string x.1, ux], .agg #[.string y.1, uy]] w fun e w' => e = .returned (.bool (decide (x = y))) ∧ Gr w w' := by
  have hA : Gr w ((w.alloc (.cells #[.string x.1, ux] 24)).alloc (.cells #[.string y.1, uy] 24)) := Gr.trans _ _ _ (Gr.alloc _ _) (Gr.alloc _ _)
  have hC := Aside.mk (compare_walk x y (hx.below hA.below) (hy.below hA.below))
  obtain ⟨A, ca, rfl, hA1, hA2⟩ := hx
  obtain ⟨B, cb, rfl, hB1, hB2⟩ := hy
  clear hA1 hA2 hB1 hB2
  have he : decide (x = y) = (cmpM x y == 0) := by
    by_cases e : x = y
    · rw [decide_eq_true e, e, cmpM_self]; rfl
    · rw [decide_eq_false e]
      have : cmpM x y ≠ 0 := fun q => e (cmpM_zero q)
      simp [this]
  rw [he]
  replace hA := Aside.mk hA
  clear he
  go_enter Tryd.func32, Tryd.ntmps32
  go_wp2_with (go_at_call 13; refine hC.out.mono ?_; rintro e w2 ⟨rfl, hG⟩; replace hG := Aside.mk hG)
  go_ret
  exact ⟨rfl, Gr.trans _ _ _ hA.out hG.out⟩
end
end Go.Proofs.YtmhpogajklihdaaDoor.C
namespace Go.Proofs.YtmhpogajklihdaaDoor.C
open Go.RowKit Go.Shelf Go.Lib Go.Sort Go.Proofs.YtmhpogajklihdaaDoorW.PrintWords

section
variable {w W : World} {base b b' : Nat} {e : TypeId} {size n : Nat} {v : Value} {xs : List Value}
theorem owns_form (h : w.ownsRow base e size v n xs) : ∃ a cap, v = .slice a n cap := by
  rcases h.2 with ⟨rfl, rfl⟩ | ⟨g, cap, cur, rfl, _⟩
  · exact ⟨_, _, rfl⟩
  · exact ⟨_, _, rfl⟩
theorem owns_max (h : w.ownsRow base e size v n xs) : n ≤ 9223372036854775807 := by
  rcases h.2 with ⟨_, rfl⟩ | ⟨g, cap, cur, _, _, _, h1, h2, _⟩
  · omega
  · unfold maxLen at h2; omega
theorem owns_form1 (h : w.ownsRow base e size v n xs) (hn : 0 < n) : ∃ g cap, v = .slice (some ⟨g, 0, none⟩) n cap ∧ base ≤ g ∧ g < w.heap.size := by
  rcases h.2 with ⟨rfl, rfl⟩ | ⟨g, cap, cur, rfl, hb, hh, _⟩
  · omega
  · exact ⟨_, _, rfl, hb, (Array.getElem?_eq_some_iff.1 hh).1⟩
theorem owns_move (h : w.ownsRow base e size v n xs) (hk : ∀ b, base ≤ b → b < w.heap.size → v.ownBlock = some b → W.heap[b]? = w.heap[b]?) : W.ownsRow base e size v n xs := by
  refine ⟨h.1, ?_⟩
  rcases h.2 with h2 | ⟨g, cap, cur, rfl, hb, hh, r⟩
  · exact .inl h2
  · exact .inr ⟨g, cap, cur, rfl, hb, (hk g hb (Array.getElem?_eq_some_iff.1 hh).1 rfl).trans hh, r⟩
theorem owns_below (h : w.ownsRow base e size v n xs) (hk : Below w.heap.size w W) : W.ownsRow base e size v n xs := owns_move h (fun b _ hl _ => hk.block b hl)
theorem owns_base (h : W.ownsRow b e size v n xs) (hb : b' ≤ b) : W.ownsRow b' e size v n xs := by
  refine ⟨h.1, ?_⟩
  rcases h.2 with h2 | ⟨g, cap, cur, rfl, hg, r⟩
  · exact .inl h2
  · exact .inr ⟨g, cap, cur, rfl, Nat.le_trans hb hg, r⟩
theorem own_from (h : w.ownsRow base e size v n xs) {k : Nat} (hk : v.ownBlock = some k) : base ≤ k := by
  rcases h.2 with ⟨rfl, _⟩ | ⟨g, cap, cur, rfl, hb, _⟩
  · simp [Value.ownBlock] at hk
  · simp [Value.ownBlock] at hk; omega
theorem cells_new (w : World) (cs : List Value) (t : TypeId) {n : Nat} (hn : n = w.heap.size) : ∀ j u, cs[j]? = some u → (w.alloc (.cells cs.toArray t)).cell? ((⟨n, 0, none⟩ : Addr).add j) = some u := by
  intro j u hj
  subst hn
  have h := blk_cell (blk_new w cs.toArray t) j
  have e : (⟨w.heap.size, 0, none⟩ : Addr).add j = ⟨w.heap.size, j, none⟩ := by
    unfold Addr.add
    split
    · rename_i e; subst e; rfl
    · simp
  rw [e, h]
  simpa using hj
end

/-- A match, with the slice of its ids. -/
abbrev P := ByteArray × List Int × Value
abbrev key (p : P) : M := (p.1, p.2.1)
def cellsP (l : List P) : List Value := l.flatMap fun p => [.string p.1, p.2.2]
theorem cellsP_append (l : List P) (p : P) : cellsP (l ++ [p]) = cellsP l ++ [.string p.1, p.2.2] := by simp [cellsP]
theorem cellsP_at : ∀ (l : List P) (j : Nat) (hj : j < l.length), (cellsP l)[j * 2]? = some (.string l[j].1) ∧ (cellsP l)[j * 2 + 1]? = some l[j].2.2
  | p :: l, 0, _ => ⟨rfl, rfl⟩
  | p :: l, j + 1, hj => by
    have e : cellsP (p :: l) = .string p.1 :: p.2.2 :: cellsP l := rfl
    obtain ⟨h1, h2⟩ := cellsP_at l j (by simpa using hj)
    rw [e]
    have e1 : (j + 1) * 2 = j * 2 + 1 + 1 := by omega
    rw [e1]
    exact ⟨by simpa using h1, by simpa using h2⟩

/-- Ids in a row that the call has made. -/
def IdOwn (W : World) (B : Nat) (u : Value) (ids : List Int) : Prop := W.ownsRow B 3 1 u ids.length (ids.map (Value.int .i64))
/-- Matches in a row that the call has made, each with such ids. -/
def Owns (W : World) (B : Nat) (T : TypeId) (v : Value) (l : List P) : Prop := W.ownsRow B T 2 v l.length (cellsP l) ∧ ∀ p ∈ l, IdOwn W B p.2.2 p.2.1

section
variable {w W : World} {B B' : Nat} {u v : Value} {ids : List Int} {l : List P} {T : TypeId}

theorem IdOwn.below (h : IdOwn w B u ids) (hb : Below w.heap.size w W) : IdOwn W B u ids := owns_below h hb
theorem IdOwn.at_ (h : IdOwn W B u ids) : IdsAt W u ids := by
  have hm := owns_max h
  by_cases h0 : 0 < ids.length
  · obtain ⟨g, cap, rfl, _, hl⟩ := owns_form1 h h0
    refine ⟨_, _, rfl, by omega, fun j hj => ⟨g, 0, rfl, hl, ?_⟩⟩
    have := World.ownsRow.cellAt h j (by omega)
    simpa [hj] using this
  · obtain ⟨A, cap, rfl⟩ := owns_form h
    exact ⟨A, cap, rfl, by omega, fun j hj => absurd hj (by omega)⟩
theorem Owns.below (h : Owns w B T v l) (hb : Below w.heap.size w W) : Owns W B T v l := ⟨owns_below h.1 hb, fun p hp => (h.2 p hp).below hb⟩
theorem Owns.base (h : Owns w B T v l) (hb : B' ≤ B) : Owns w B' T v l := ⟨owns_base h.1 hb, fun p hp => owns_base (h.2 p hp) hb⟩
theorem Owns.nil (W : World) (B : Nat) (T : TypeId) : Owns W B T (.slice none 0 0) [] := ⟨World.ownsRow_nil _ _ _ _, fun p hp => by cases hp⟩

/-- Matches in memory, to be read. -/
def Reads (W : World) (v : Value) (L : List M) : Prop := ∃ A cap, v = .slice A L.length cap ∧ L.length ≤ 9223372036854775807 ∧ ∀ j (_ : j < L.length), ∃ b o u, A = some ⟨b, o, none⟩ ∧ b < W.heap.size ∧ W.cell? ⟨b, o + j * 2, none⟩ = some (.string L[j].1) ∧ W.cell? ⟨b, o + j * 2 + 1, none⟩ = some u ∧ IdsAt W u L[j].2
theorem Reads.below {L : List M} (h : Reads w v L) (hb : Below w.heap.size w W) : Reads W v L := by
  obtain ⟨A, cap, e, hm, h⟩ := h
  refine ⟨A, cap, e, hm, fun j hj => ?_⟩
  obtain ⟨b, o, u, e, hl, h0, h1, h2⟩ := h j hj
  exact ⟨b, o, u, e, Nat.lt_of_lt_of_le hl hb.size, (hb.cell (p := ⟨b, o + j * 2, none⟩) hl).trans h0, (hb.cell (p := ⟨b, o + j * 2 + 1, none⟩) hl).trans h1, h2.below hb⟩
theorem Owns.reads (h : Owns W B T v l) : Reads W v (l.map key) := by
  have hm := owns_max h.1
  by_cases h0 : 0 < l.length
  · obtain ⟨g, cap, rfl, _, hl⟩ := owns_form1 h.1 h0
    refine ⟨_, cap, by rw [List.length_map], by rw [List.length_map]; omega, fun j hj => ?_⟩
    have hj' : j < l.length := by simpa using hj
    obtain ⟨c0, c1⟩ := cellsP_at l j hj'
    have hlen : (cellsP l).length = l.length * 2 := by
      clear h hm h0 hl hj hj' c0 c1
      induction l with
      | nil => rfl
      | cons p l ih =>
        have e : cellsP (p :: l) = .string p.1 :: p.2.2 :: cellsP l := rfl
        rw [e, List.length_cons, List.length_cons, ih, List.length_cons]
        omega
    refine ⟨g, 0, l[j].2.2, rfl, hl, ?_, ?_, ?_⟩
    · have := h.1.cellAt (j * 2) (by omega)
      rw [c0] at this
      simpa using this
    · have := h.1.cellAt (j * 2 + 1) (by omega)
      rw [c1] at this
      simpa [Nat.add_assoc] using this
    · have := IdOwn.at_ (h.2 l[j] (List.getElem_mem hj'))
      simpa using this
  · obtain ⟨A, cap, rfl⟩ := owns_form h.1
    exact ⟨A, cap, by rw [List.length_map], by rw [List.length_map]; omega, fun j hj => absurd hj (by simp; omega)⟩

/-- Behind an append to a row of the call's own. -/
theorem app_below {w1 : World} {e : TypeId} {size n : Nat} {xs : List Value} {o : Obj} (hB : Below w.heap.size w W) (h : W.ownsRow w.heap.size e size v n xs) (hg : (W.alloc o).grownBy w1 v.ownBlock) : Below w.heap.size w w1 :=
  (hB.alloc hB.size o).grown hg (by have := hB.size; simp; omega) (fun _ hk => own_from h hk)
/-- Ids lie on while a row of another type is appended to. -/
theorem IdOwn.far {w1 : World} {e : TypeId} {size n : Nat} {xs : List Value} (h : IdOwn W B u ids) (h2 : W.ownsRow B' e size v n xs) (hne : e ≠ 3) (hg : W.grownBy w1 v.ownBlock) : IdOwn w1 B u ids :=
  owns_move h fun b _ hl hb => hg.block b hl fun e2 => by
    obtain ⟨c1, k1⟩ := own_typed h b hb
    obtain ⟨c2, k2⟩ := own_typed h2 b e2.symm
    rw [k1] at k2
    cases k2
    exact hne rfl
end
end Go.Proofs.YtmhpogajklihdaaDoor.C
