/- The size of a condition. The document's terms. -/
import Derived.Test.YtkbkkceeolclmaaGreatDoorProg
import Derived.Outline
import Derived.OwnWalk
import Derived.LoopTactic
import Derived.Deep.LoopGhost
import Derived.WalkKit
import Derived.Test.YtkbkkceeolclmaaGreatDoorQ10
import Derived.Test.YtkbkkceeolclmaaGreatDoorQw
set_option linter.unusedVariables false
set_option linter.unusedSimpArgs false
namespace Go.Proofs.YtkbkkceeolclmaaGreatDoor.X
open Go.RowKit Go.TX Go.Proofs.YtkbkkceeolclmaaGreatDoorW.PrintWords
abbrev evA (b : Bool) : Value := .bool b
def evI (b : Bool) : Int := if b then 1 else 0
abbrev evR (b : Bool) : Value := .int .i64 (evI b)
abbrev aC (ev : Bool → Value) (k : Int) (a b c : Tm) (S : Value) : Value := .agg #[.int .i64 k, ev a.1, .int .i64 a.2, ev b.1, .int .i64 b.2, ev c.1, .int .i64 c.2, S]
abbrev oC (ev : Bool → Value) (t : TypeId) (k : Int) (a b c : Tm) (S : Value) : Obj := .cells #[.int .i64 k, ev a.1, .int .i64 a.2, ev b.1, .int .i64 b.2, ev c.1, .int .i64 c.2, S] t
/-- The cells of a box that holds a condition. -/
theorem box8 {ev : Bool → Value} {w : World} {g : Nat} {t : TypeId} {k : Int} {a b c : Tm} {S : Value} (h : w.heap[g]? = some (oC ev t k a b c S)) :
    w.cell? ⟨g, 0, none⟩ = some (.int .i64 k) ∧ w.cell? ⟨g, 1, none⟩ = some (ev a.1) ∧ w.cell? ⟨g, 2, none⟩ = some (.int .i64 a.2) ∧ w.cell? ⟨g, 3, none⟩ = some (ev b.1) ∧ w.cell? ⟨g, 4, none⟩ = some (.int .i64 b.2) ∧ w.cell? ⟨g, 5, none⟩ = some (ev c.1) ∧ w.cell? ⟨g, 6, none⟩ = some (.int .i64 c.2) ∧ w.cell? ⟨g, 7, none⟩ = some S :=
  ⟨(blk_cell h 0).trans rfl, (blk_cell h 1).trans rfl, (blk_cell h 2).trans rfl, (blk_cell h 3).trans rfl, (blk_cell h 4).trans rfl, (blk_cell h 5).trans rfl, (blk_cell h 6).trans rfl, (blk_cell h 7).trans rfl⟩
theorem csizeL_take : ∀ (l : List Cd) (i : Nat) (hi : i < l.length), csizeL (l.take (i + 1)) = csizeL (l.take i) + csize l[i]
  | x :: l, 0, _ => by simp [csizeL]
  | x :: l, i + 1, hi => by
    have := csizeL_take l i (by simpa using hi)
    simp only [List.take_succ_cons, csizeL, List.getElem_cons_succ]
    omega
theorem csizeL_take_le (l : List Cd) (i : Nat) : csizeL (l.take i) ≤ csizeL l := by
  induction l generalizing i with
  | nil => simp
  | cons x l ih =>
    cases i with
    | zero => simp [csizeL]
    | succ i => have := ih i; simp only [List.take_succ_cons, csizeL]; omega
theorem csizeL_len : ∀ (l : List Cd), l.length ≤ csizeL l
  | [] => by simp [csizeL]
  | .mk k a b c subs :: l => by
    have := csizeL_len l
    simp only [csizeL, csize, List.length_cons]
    omega
/-- One of a row, as the walk wants it. -/
theorem sub_at {ev : Bool → Value} {w : World} {F : Nat → Prop} {l : List Cd} {A : Option Addr} (h : RepL ev w F l A 0) {i : Nat} (hi : i < l.length) :
    ∃ b o k x y z subs B cap, A = some ⟨b, o, none⟩ ∧ b < w.heap.size ∧ l[i] = .mk k x y z subs ∧ subs.length ≤ 9223372036854775807 ∧ RepL ev w F subs B 0 ∧ csizeL (l.take (i + 1)) = csizeL (l.take i) + (1 + csizeL subs) ∧ csizeL (l.take (i + 1)) ≤ csizeL l ∧
      w.cell? ⟨b, o + i * 8, none⟩ = some (.int .i64 k) ∧ w.cell? ⟨b, o + i * 8 + 1, none⟩ = some (ev x.1) ∧ w.cell? ⟨b, o + i * 8 + 2, none⟩ = some (.int .i64 x.2) ∧ w.cell? ⟨b, o + i * 8 + 3, none⟩ = some (ev y.1) ∧ w.cell? ⟨b, o + i * 8 + 4, none⟩ = some (.int .i64 y.2) ∧
      w.cell? ⟨b, o + i * 8 + 5, none⟩ = some (ev z.1) ∧ w.cell? ⟨b, o + i * 8 + 6, none⟩ = some (.int .i64 z.2) ∧ w.cell? ⟨b, o + i * 8 + 7, none⟩ = some (.slice B subs.length cap) := by
  obtain ⟨b, o, k, x, y, z, subs, B, cap, h1, _, h3, h4, h7, h5, h6⟩ := h.at hi
  have ht := csizeL_take l i hi
  rw [h4] at ht
  exact ⟨b, o, k, x, y, z, subs, B, cap, h1, h3, h4, h7, h5, ht, csizeL_take_le l (i + 1), h6⟩
set_option maxRecDepth 100000 in
set_option maxHeartbeats 1000000 in
theorem size_walk (n : Nat) : ∀ (k : Int) (a b c : Tm) (subs : List Cd) (A : Option Addr) (cap : Nat) (w : World) (F : Nat → Prop), csizeL subs < n → n ≤ 1000000 → RepL evA w F subs A 0 →
    Calls Tryz.prog 51 #[aC evA k a b c (.slice A subs.length cap)] w fun e w' => e = .returned (.int .i64 ((1 + csizeL subs : Nat) : Int)) ∧ Below w.heap.size w w' := by
  induction n with
  | zero => intro k a b c subs A cap w F h; omega
  | succ n ih =>
    intro k a b c subs A cap w F hn hn1 hR
    have hB0 := Aside0.mk ((Below.refl w.heap.size w).alloc (Nat.le_refl _) (oC evA 72 k a b c (.slice A subs.length cap)))
    replace hR := Aside0.mk hR
    have hlen := csizeL_len subs
    go_enter Tryz.func51, Tryz.ntmps51
    go_wp2
    generalize w.alloc (oC evA 72 k a b c (.slice A subs.length cap)) = W0 at hB0 ⊢
    go_loopw [9, 3] (fun i m wr => ∃ j : Nat, i = .int .i64 j ∧ j ≤ subs.length ∧ m = .int .i64 ((1 + csizeL (subs.take j) : Nat) : Int) ∧ Below w.heap.size w wr) (fun i _ _ => subs.length - (intOf i).toNat)
    case atStart => exact ⟨0, rfl, Nat.zero_le _, by simp [csizeL], hB0.out⟩
    case round =>
      obtain ⟨j, rfl, hj, rfl, hBw⟩ := hrel
      clear hB0
      by_cases hlt : j < subs.length
      · obtain ⟨b', o, k', x, y, z, subs', B, cap', rfl, hbl, hx, _, hR', htk, hle, c0, c1, c2, c3, c4, c5, c6, c7⟩ := sub_at (hR.out.below hBw) hlt
        have hcall := Aside0.mk (ih k' x y z subs' B cap' (wr.alloc (oC evA 72 k' x y z (.slice B subs'.length cap'))) F (by omega) (by omega) (hR'.below ((Below.refl _ _).alloc (Nat.le_refl _) _)))
        have hBx := Aside0.mk (hBw.alloc hBw.size (oC evA 72 k' x y z (.slice B subs'.length cap')))
        have hb1 : 1 + csizeL (subs.take j) + (1 + csizeL subs') ≤ 1000000 := by omega
        have hb2 : ((1 + csizeL (subs.take j) : Nat) : Int) + ((1 + csizeL subs' : Nat) : Int) = ((1 + csizeL (subs.take (j + 1)) : Nat) : Int) := by omega
        have hb3 : ((1 + csizeL (subs.take j) : Nat) : Int) + ((1 + csizeL subs' : Nat) : Int) ≤ 1000000 := by omega
        have hb4 : (0 : Int) ≤ ((1 + csizeL (subs.take j) : Nat) : Int) + ((1 + csizeL subs' : Nat) : Int) := by omega
        replace hb2 := Aside0.mk hb2
        replace hBw := Aside0.mk hBw
        replace hx := Aside0.mk hx
        clear htk hle hR' hb1
        generalize (1 + csizeL subs' : Nat) = s1 at hcall hb2 hb3 hb4
        generalize hs0 : (1 + csizeL (subs.take j) : Nat) = s0 at hb2 hb3 hb4 ⊢
        replace hs0 := Aside0.mk hs0
        go_wp2_with (go_at_call 51; refine hcall.out.mono ?_; rintro e w2 ⟨rfl, hb⟩; replace hb := Aside0.mk hb)
        go_roundw
        case rel => exact ⟨j + 1, by go_num, by omega, by rw [hb2.out], hBx.out.trans (hb.out.mono hBx.out.size)⟩
        case measure => simp [intOf]; omega
      · obtain rfl : j = subs.length := by omega
        rw [List.take_length]
        replace hBw := Aside0.mk hBw
        go_wp2
        go_ret
        exact ⟨rfl, hBw.out⟩
set_option maxRecDepth 100000 in
set_option maxHeartbeats 1000000 in
theorem rsize_walk (n : Nat) : ∀ (k : Int) (a b c : Tm) (subs : List Cd) (A : Option Addr) (cap : Nat) (w : World) (F : Nat → Prop), csizeL subs < n → n ≤ 1000000 → RepL evR w F subs A 0 →
    Calls Tryz.prog 56 #[aC evR k a b c (.slice A subs.length cap)] w fun e w' => e = .returned (.int .i64 ((1 + csizeL subs : Nat) : Int)) ∧ Below w.heap.size w w' := by
  induction n with
  | zero => intro k a b c subs A cap w F h; omega
  | succ n ih =>
    intro k a b c subs A cap w F hn hn1 hR
    have hB0 := Aside0.mk ((Below.refl w.heap.size w).alloc (Nat.le_refl _) (oC evR 81 k a b c (.slice A subs.length cap)))
    replace hR := Aside0.mk hR
    have hlen := csizeL_len subs
    go_enter Tryz.func56, Tryz.ntmps56
    go_wp2
    generalize w.alloc (oC evR 81 k a b c (.slice A subs.length cap)) = W0 at hB0 ⊢
    go_loopw [9, 3] (fun i m wr => ∃ j : Nat, i = .int .i64 j ∧ j ≤ subs.length ∧ m = .int .i64 ((1 + csizeL (subs.take j) : Nat) : Int) ∧ Below w.heap.size w wr) (fun i _ _ => subs.length - (intOf i).toNat)
    case atStart => exact ⟨0, rfl, Nat.zero_le _, by simp [csizeL], hB0.out⟩
    case round =>
      obtain ⟨j, rfl, hj, rfl, hBw⟩ := hrel
      clear hB0
      by_cases hlt : j < subs.length
      · obtain ⟨b', o, k', x, y, z, subs', B, cap', rfl, hbl, hx, _, hR', htk, hle, c0, c1, c2, c3, c4, c5, c6, c7⟩ := sub_at (hR.out.below hBw) hlt
        have hcall := Aside0.mk (ih k' x y z subs' B cap' (wr.alloc (oC evR 81 k' x y z (.slice B subs'.length cap'))) F (by omega) (by omega) (hR'.below ((Below.refl _ _).alloc (Nat.le_refl _) _)))
        have hBx := Aside0.mk (hBw.alloc hBw.size (oC evR 81 k' x y z (.slice B subs'.length cap')))
        have hb1 : 1 + csizeL (subs.take j) + (1 + csizeL subs') ≤ 1000000 := by omega
        have hb2 : ((1 + csizeL (subs.take j) : Nat) : Int) + ((1 + csizeL subs' : Nat) : Int) = ((1 + csizeL (subs.take (j + 1)) : Nat) : Int) := by omega
        have hb3 : ((1 + csizeL (subs.take j) : Nat) : Int) + ((1 + csizeL subs' : Nat) : Int) ≤ 1000000 := by omega
        have hb4 : (0 : Int) ≤ ((1 + csizeL (subs.take j) : Nat) : Int) + ((1 + csizeL subs' : Nat) : Int) := by omega
        replace hb2 := Aside0.mk hb2
        replace hBw := Aside0.mk hBw
        replace hx := Aside0.mk hx
        clear htk hle hR' hb1
        generalize (1 + csizeL subs' : Nat) = s1 at hcall hb2 hb3 hb4
        generalize hs0 : (1 + csizeL (subs.take j) : Nat) = s0 at hb2 hb3 hb4 ⊢
        replace hs0 := Aside0.mk hs0
        go_wp2_with (go_at_call 56; refine hcall.out.mono ?_; rintro e w2 ⟨rfl, hb⟩; replace hb := Aside0.mk hb)
        go_roundw
        case rel => exact ⟨j + 1, by go_num, by omega, by rw [hb2.out], hBx.out.trans (hb.out.mono hBx.out.size)⟩
        case measure => simp [intOf]; omega
      · obtain rfl : j = subs.length := by omega
        rw [List.take_length]
        replace hBw := Aside0.mk hBw
        go_wp2
        go_ret
        exact ⟨rfl, hBw.out⟩
end Go.Proofs.YtkbkkceeolclmaaGreatDoor.X
namespace Go.Proofs.YtkbkkceeolclmaaGreatDoor.X
open Go.RowKit Go.TX Go.Proofs.YtkbkkceeolclmaaGreatDoorW.PrintWords
theorem ix0 (p q r : Bool) (x y z : Int) (w : World) : (Instr.index 70 (.agg #[.bool p, .int .i64 x, .bool q, .int .i64 y, .bool r, .int .i64 z]) (.int .i64 0)).run Tryz.prog w = .ok (.agg #[.bool p, .int .i64 x]) w := by kernel_rfl
theorem ix1 (p q r : Bool) (x y z : Int) (w : World) : (Instr.index 70 (.agg #[.bool p, .int .i64 x, .bool q, .int .i64 y, .bool r, .int .i64 z]) (.int .i64 1)).run Tryz.prog w = .ok (.agg #[.bool q, .int .i64 y]) w := by kernel_rfl
theorem ix2 (p q r : Bool) (x y z : Int) (w : World) : (Instr.index 70 (.agg #[.bool p, .int .i64 x, .bool q, .int .i64 y, .bool r, .int .i64 z]) (.int .i64 2)).run Tryz.prog w = .ok (.agg #[.bool r, .int .i64 z]) w := by kernel_rfl
attribute [local go_sem high] ix0 ix1 ix2
abbrev o79 (a b c d e f : Int) : Obj := .cells #[.int .i64 a, .int .i64 b, .int .i64 c, .int .i64 d, .int .i64 e, .int .i64 f] 79
abbrev T3A (a b c : Tm) : Value := .agg #[.bool a.1, .int .i64 a.2, .bool b.1, .int .i64 b.2, .bool c.1, .int .i64 c.2]
abbrev T3R (a b c : Tm) : Value := .agg #[evR a.1, .int .i64 a.2, evR b.1, .int .i64 b.2, evR c.1, .int .i64 c.2]
set_option maxRecDepth 100000 in
set_option maxHeartbeats 1000000 in
theorem ref59 (a b c : Tm) (w : World) : Calls Tryz.prog 59 #[T3A a b c] w fun e W => e = .returned (T3R a b c) ∧ Below w.heap.size w W := by
  have hB0 := Aside0.mk ((((Below.refl w.heap.size w).alloc (Nat.le_refl _) (.cells #[.bool a.1, .int .i64 a.2, .bool b.1, .int .i64 b.2, .bool c.1, .int .i64 c.2] 70)).alloc (by simp) (o79 0 0 0 0 0 0)).alloc (by simp; omega) (o79 0 0 0 0 0 0))
  have hr0 := blk_alloc (blk_new (w.alloc (.cells #[.bool a.1, .int .i64 a.2, .bool b.1, .int .i64 b.2, .bool c.1, .int .i64 c.2] 70)) (o79 0 0 0 0 0 0)) (o79 0 0 0 0 0 0)
  have ho0 := blk_new ((w.alloc (.cells #[.bool a.1, .int .i64 a.2, .bool b.1, .int .i64 b.2, .bool c.1, .int .i64 c.2] 70)).alloc (o79 0 0 0 0 0 0)) (o79 0 0 0 0 0 0)
  simp only [World.size_alloc] at hr0 ho0
  replace hr0 := Aside0.mk hr0
  replace ho0 := Aside0.mk ho0
  go_enter Tryz.func59, Tryz.ntmps59
  go_wp2
  go_loopw [7] (fun i wr => ∃ q : Nat, i = .int .i64 q ∧ q ≤ 3 ∧ Below w.heap.size w wr ∧ wr.heap[w.heap.size + 1]? = some (o79 0 0 0 0 0 0) ∧ wr.heap[w.heap.size + 1 + 1]? = some (o79 (if 0 < q then evI a.1 else 0) (if 0 < q then a.2 else 0) (if 1 < q then evI b.1 else 0) (if 1 < q then b.2 else 0) (if 2 < q then evI c.1 else 0) (if 2 < q then c.2 else 0))) (fun i _ => 3 - (intOf i).toNat)
  case atStart => exact ⟨0, rfl, by omega, hB0.out, hr0.out, ho0.out⟩
  case round =>
    obtain ⟨q, rfl, hq, hBw, hrw, how⟩ := hrel
    clear hB0 hr0 ho0
    obtain ⟨a1, a2⟩ := a
    obtain ⟨b1, b2⟩ := b
    obtain ⟨c1, c2⟩ := c
    replace hBw := Aside0.mk hBw
    rcases (show q = 0 ∨ q = 1 ∨ q = 2 ∨ q = 3 by omega) with rfl | rfl | rfl | rfl
    · have ho := Aside0.mk (show wr.heap[w.heap.size + 1 + 1]? = some (o79 (0) (0) (0) (0) (0) (0)) from how)
      have p0 := (blk_cell ho.out 0).trans (show _ = some (Value.int .i64 0) from rfl)
      have p1 := (blk_cell ho.out 1).trans (show _ = some (Value.int .i64 0) from rfl)
      have f0 := blk_frozen ho.out 0
      have f1 := blk_frozen ho.out 1
      have n0 : w.heap.size + 1 + 1 < wr.heap.size := blk_lt ho.out
      have n1 : wr.heap.size ≠ w.heap.size + 1 + 1 := by omega
      replace hrw := Aside0.mk hrw
      clear how
      cases a1
      · go_wp2
        go_roundw
        case rel => exact ⟨1, rfl, by omega, (hBw.out.setCell (p := ⟨w.heap.size + 1 + 1, 1, none⟩) (by show w.heap.size ≤ w.heap.size + 1 + 1; omega) _).alloc (by have := hBw.out.size; simp [World.setCell]; omega) _, blk_alloc (blk_far hrw.out (p := ⟨w.heap.size + 1 + 1, 1, none⟩) (by show w.heap.size + 1 ≠ w.heap.size + 1 + 1; omega) _) _, blk_alloc (blk_put ho.out 1 _ rfl) _⟩
        case measure => simp [intOf]
      · go_wp2
        go_roundw
        case rel => exact ⟨1, rfl, by omega, ((hBw.out.setCell (p := ⟨w.heap.size + 1 + 1, 1, none⟩) (by show w.heap.size ≤ w.heap.size + 1 + 1; omega) _).setCell (p := ⟨w.heap.size + 1 + 1, 0, none⟩) (by show w.heap.size ≤ w.heap.size + 1 + 1; omega) _).alloc (by have := hBw.out.size; simp [World.setCell]; omega) _, blk_alloc (blk_far (blk_far hrw.out (p := ⟨w.heap.size + 1 + 1, 1, none⟩) (by show w.heap.size + 1 ≠ w.heap.size + 1 + 1; omega) _) (p := ⟨w.heap.size + 1 + 1, 0, none⟩) (by show w.heap.size + 1 ≠ w.heap.size + 1 + 1; omega) _) _, blk_alloc (blk_put (blk_put ho.out 1 _ rfl) 0 _ rfl) _⟩
        case measure => simp [intOf]
    · have ho := Aside0.mk (show wr.heap[w.heap.size + 1 + 1]? = some (o79 (evI a1) (a2) (0) (0) (0) (0)) from how)
      have p0 := (blk_cell ho.out 2).trans (show _ = some (Value.int .i64 0) from rfl)
      have p1 := (blk_cell ho.out 3).trans (show _ = some (Value.int .i64 0) from rfl)
      have f0 := blk_frozen ho.out 2
      have f1 := blk_frozen ho.out 3
      have n0 : w.heap.size + 1 + 1 < wr.heap.size := blk_lt ho.out
      have n1 : wr.heap.size ≠ w.heap.size + 1 + 1 := by omega
      replace hrw := Aside0.mk hrw
      clear how
      cases b1
      · go_wp2
        go_roundw
        case rel => exact ⟨2, rfl, by omega, (hBw.out.setCell (p := ⟨w.heap.size + 1 + 1, 3, none⟩) (by show w.heap.size ≤ w.heap.size + 1 + 1; omega) _).alloc (by have := hBw.out.size; simp [World.setCell]; omega) _, blk_alloc (blk_far hrw.out (p := ⟨w.heap.size + 1 + 1, 3, none⟩) (by show w.heap.size + 1 ≠ w.heap.size + 1 + 1; omega) _) _, blk_alloc (blk_put ho.out 3 _ rfl) _⟩
        case measure => simp [intOf]
      · go_wp2
        go_roundw
        case rel => exact ⟨2, rfl, by omega, ((hBw.out.setCell (p := ⟨w.heap.size + 1 + 1, 3, none⟩) (by show w.heap.size ≤ w.heap.size + 1 + 1; omega) _).setCell (p := ⟨w.heap.size + 1 + 1, 2, none⟩) (by show w.heap.size ≤ w.heap.size + 1 + 1; omega) _).alloc (by have := hBw.out.size; simp [World.setCell]; omega) _, blk_alloc (blk_far (blk_far hrw.out (p := ⟨w.heap.size + 1 + 1, 3, none⟩) (by show w.heap.size + 1 ≠ w.heap.size + 1 + 1; omega) _) (p := ⟨w.heap.size + 1 + 1, 2, none⟩) (by show w.heap.size + 1 ≠ w.heap.size + 1 + 1; omega) _) _, blk_alloc (blk_put (blk_put ho.out 3 _ rfl) 2 _ rfl) _⟩
        case measure => simp [intOf]
    · have ho := Aside0.mk (show wr.heap[w.heap.size + 1 + 1]? = some (o79 (evI a1) (a2) (evI b1) (b2) (0) (0)) from how)
      have p0 := (blk_cell ho.out 4).trans (show _ = some (Value.int .i64 0) from rfl)
      have p1 := (blk_cell ho.out 5).trans (show _ = some (Value.int .i64 0) from rfl)
      have f0 := blk_frozen ho.out 4
      have f1 := blk_frozen ho.out 5
      have n0 : w.heap.size + 1 + 1 < wr.heap.size := blk_lt ho.out
      have n1 : wr.heap.size ≠ w.heap.size + 1 + 1 := by omega
      replace hrw := Aside0.mk hrw
      clear how
      cases c1
      · go_wp2
        go_roundw
        case rel => exact ⟨3, rfl, by omega, (hBw.out.setCell (p := ⟨w.heap.size + 1 + 1, 5, none⟩) (by show w.heap.size ≤ w.heap.size + 1 + 1; omega) _).alloc (by have := hBw.out.size; simp [World.setCell]; omega) _, blk_alloc (blk_far hrw.out (p := ⟨w.heap.size + 1 + 1, 5, none⟩) (by show w.heap.size + 1 ≠ w.heap.size + 1 + 1; omega) _) _, blk_alloc (blk_put ho.out 5 _ rfl) _⟩
        case measure => simp [intOf]
      · go_wp2
        go_roundw
        case rel => exact ⟨3, rfl, by omega, ((hBw.out.setCell (p := ⟨w.heap.size + 1 + 1, 5, none⟩) (by show w.heap.size ≤ w.heap.size + 1 + 1; omega) _).setCell (p := ⟨w.heap.size + 1 + 1, 4, none⟩) (by show w.heap.size ≤ w.heap.size + 1 + 1; omega) _).alloc (by have := hBw.out.size; simp [World.setCell]; omega) _, blk_alloc (blk_far (blk_far hrw.out (p := ⟨w.heap.size + 1 + 1, 5, none⟩) (by show w.heap.size + 1 ≠ w.heap.size + 1 + 1; omega) _) (p := ⟨w.heap.size + 1 + 1, 4, none⟩) (by show w.heap.size + 1 ≠ w.heap.size + 1 + 1; omega) _) _, blk_alloc (blk_put (blk_put ho.out 5 _ rfl) 4 _ rfl) _⟩
        case measure => simp [intOf]
    · have ho := Aside0.mk (show wr.heap[w.heap.size + 1 + 1]? = some (o79 (evI a1) a2 (evI b1) b2 (evI c1) c2) from how)
      have p0 := (blk_cell ho.out 0).trans (show _ = some (Value.int .i64 (evI a1)) from rfl)
      have p1 := (blk_cell ho.out 1).trans (show _ = some (Value.int .i64 a2) from rfl)
      have p2 := (blk_cell ho.out 2).trans (show _ = some (Value.int .i64 (evI b1)) from rfl)
      have p3 := (blk_cell ho.out 3).trans (show _ = some (Value.int .i64 b2) from rfl)
      have p4 := (blk_cell ho.out 4).trans (show _ = some (Value.int .i64 (evI c1)) from rfl)
      have p5 := (blk_cell ho.out 5).trans (show _ = some (Value.int .i64 c2) from rfl)
      have r0 := (blk_cell hrw 0).trans (show _ = some (Value.int .i64 0) from rfl)
      have f0 := blk_frozen hrw 0
      have r1 := (blk_cell hrw 1).trans (show _ = some (Value.int .i64 0) from rfl)
      have f1 := blk_frozen hrw 1
      have r2 := (blk_cell hrw 2).trans (show _ = some (Value.int .i64 0) from rfl)
      have f2 := blk_frozen hrw 2
      have r3 := (blk_cell hrw 3).trans (show _ = some (Value.int .i64 0) from rfl)
      have f3 := blk_frozen hrw 3
      have r4 := (blk_cell hrw 4).trans (show _ = some (Value.int .i64 0) from rfl)
      have f4 := blk_frozen hrw 4
      have r5 := (blk_cell hrw 5).trans (show _ = some (Value.int .i64 0) from rfl)
      have f5 := blk_frozen hrw 5
      replace hrw := Aside0.mk hrw
      clear how
      go_wp2
      have hr9 := blk_put (blk_put (blk_put (blk_put (blk_put (blk_put (hrw.out) 0 (.int .i64 (evI a1)) rfl) 1 (.int .i64 a2) rfl) 2 (.int .i64 (evI b1)) rfl) 3 (.int .i64 b2) rfl) 4 (.int .i64 (evI c1)) rfl) 5 (.int .i64 c2) rfl
      have z0 := (blk_cell hr9 0).trans (show _ = some (Value.int .i64 (evI a1)) from rfl)
      have z1 := (blk_cell hr9 1).trans (show _ = some (Value.int .i64 a2) from rfl)
      have z2 := (blk_cell hr9 2).trans (show _ = some (Value.int .i64 (evI b1)) from rfl)
      have z3 := (blk_cell hr9 3).trans (show _ = some (Value.int .i64 b2) from rfl)
      have z4 := (blk_cell hr9 4).trans (show _ = some (Value.int .i64 (evI c1)) from rfl)
      have z5 := (blk_cell hr9 5).trans (show _ = some (Value.int .i64 c2) from rfl)
      have hB9 := ((((((hBw.out).setCell (p := ⟨w.heap.size + 1, 0, none⟩) (Nat.le_succ _) (.int .i64 (evI a1))).setCell (p := ⟨w.heap.size + 1, 1, none⟩) (Nat.le_succ _) (.int .i64 a2)).setCell (p := ⟨w.heap.size + 1, 2, none⟩) (Nat.le_succ _) (.int .i64 (evI b1))).setCell (p := ⟨w.heap.size + 1, 3, none⟩) (Nat.le_succ _) (.int .i64 b2)).setCell (p := ⟨w.heap.size + 1, 4, none⟩) (Nat.le_succ _) (.int .i64 (evI c1))).setCell (p := ⟨w.heap.size + 1, 5, none⟩) (Nat.le_succ _) (.int .i64 c2)
      refine bodyPost_ret (v := T3R (a1, a2) (b1, b2) (c1, c2)) (by simp [results, Tryz.results59, go_sem, z0, z1, z2, z3, z4, z5]) rfl ⟨rfl, hB9⟩
end Go.Proofs.YtkbkkceeolclmaaGreatDoor.X
