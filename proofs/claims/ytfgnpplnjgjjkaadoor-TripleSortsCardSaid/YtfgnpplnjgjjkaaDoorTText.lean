/- The walk of layer 2: the text of a triple. -/
import Derived.Test.YtfgnpplnjgjjkaaDoorTEnv
import Derived.Test.YtfgnpplnjgjjkaaDoorKAwake
namespace Go.Proofs.YtfgnpplnjgjjkaaDoor.T
open Go.RowKit Go.Lib Go.Proofs.YtfgnpplnjgjjkaaDoorW.PrintWords Go.Proofs.YtfgnpplnjgjjkaaDoor.K

theorem text_no (a b c : Int) (hR : rightR 1 a b c = false) (w : World) :
    Calls Tryd.prog 23 #[.agg #[.int .i64 a, .int .i64 b, .int .i64 c]] w fun e w' => e = .returned (.tuple #[.string ⟨#[]⟩, .int .i64 13]) ∧ Below w.heap.size w w' := by
  replace hR := Aside0.mk hR
  go_enter Tryd.func23, Tryd.ntmps23
  go_wp2_with (go_at_call 24; refine (triRight_walk a b c _).mono ?_; rintro e w1 ⟨rfl, hb⟩; rw [hR.out]; replace hb := Aside0.mk hb)
  go_ret2
  exact ⟨rfl, ((Below.refl w.heap.size w).alloc (Nat.le_refl _) _).trans (hb.out.mono (by rw [World.size_alloc]; omega))⟩

theorem right_parts {a b c : Int} (h : rightR 1 a b c = true) : (1 ≤ a ∧ a ≤ 4096) ∧ (1 ≤ b ∧ b ≤ 4096) ∧ (1 ≤ c ∧ c ≤ 4096) := by
  simp [rightR, inR] at h
  omega

/-- What stands while the text is put together. -/
def TB (w : World) (qb : Nat) (a b c : Int) (W : World) : Prop := W.heap[qb]? = some (.cells #[.int .i64 a, .int .i64 b, .int .i64 c] 23 (0, 0)) ∧ Below w.heap.size w W ∧ w.heap.size ≤ W.heap.size ∧ Env W
abbrev TC (w : World) (qb : Nat) (a b c : Int) (W : World) : Prop :=
  W.cell? ⟨qb, 0, none⟩ = some (.int .i64 a) ∧ W.cell? ⟨qb, 1, none⟩ = some (.int .i64 b) ∧ W.cell? ⟨qb, 2, none⟩ = some (.int .i64 c) ∧ TB w qb a b c W
theorem TB.full {w W : World} {qb : Nat} {a b c : Int} (h : TB w qb a b c W) : TC w qb a b c W := ⟨(blk_cell h.1 0).trans rfl, (blk_cell h.1 1).trans rfl, (blk_cell h.1 2).trans rfl, h⟩
theorem TC.keep {w W W' : World} {qb : Nat} {a b c : Int} (h : TC w qb a b c W) (hb : Below W.heap.size W W') : TC w qb a b c W' :=
  TB.full ⟨blk_below h.2.2.2.1 hb, h.2.2.2.2.1.trans (hb.mono h.2.2.2.2.2.1), Nat.le_trans h.2.2.2.2.2.1 hb.size, h.2.2.2.2.2.2.below hb⟩

theorem text3_app (a b c : Nat) : str (decDigits a) ++ ⟨#[32]⟩ ++ str (decDigits b) ++ ⟨#[32]⟩ ++ str (decDigits c) = str (text3 a b c) := by
  apply ByteArray.ext
  simp [str, text3]

set_option maxHeartbeats 2000000 in
set_option maxRecDepth 100000 in
theorem text_ok (a b c : Int) (hR : rightR 1 a b c = true) (w : World) (hE : Env w) :
    Calls Tryd.prog 23 #[.agg #[.int .i64 a, .int .i64 b, .int .i64 c]] w fun e w' => e = .returned (.tuple #[.string (str (text3 a.toNat b.toNat c.toNat)), .int .i64 0]) ∧ Below w.heap.size w w' := by
  have hpa := right_parts hR
  replace hR := Aside0.mk hR
  replace hE := Aside0.mk hE
  have ca := Aside0.mk (fun w h => itoa_any a (by omega) (by omega) w h)
  have cb := Aside0.mk (fun w h => itoa_any b (by omega) (by omega) w h)
  have cc := Aside0.mk (fun w h => itoa_any c (by omega) (by omega) w h)
  have ha := dd_len (n := a.toNat) (by omega)
  have hb := dd_len (n := b.toNat) (by omega)
  have hc := dd_len (n := c.toNat) (by omega)
  have e3 := text3_app a.toNat b.toNat c.toNat
  rw [← str_size] at ha hb hc
  clear hpa
  generalize str (text3 a.toNat b.toNat c.toNat) = S at e3 ⊢
  generalize str (decDigits a.toNat) = sa at ca ha e3
  generalize str (decDigits b.toNat) = sb at cb hb e3
  generalize str (decDigits c.toNat) = sc at cc hc e3
  replace e3 := Aside0.mk e3
  have f1 : ¬ 9223372036854775807 < sa.size + 1 := by omega
  have f2 : ¬ 9223372036854775807 < sa.size + 1 + sb.size := by omega
  have f3 : ¬ 9223372036854775807 < sa.size + 1 + sb.size + 1 := by omega
  have f4 : ¬ 9223372036854775807 < sa.size + 1 + sb.size + 1 + sc.size := by omega
  clear ha hb hc
  go_enter Tryd.func23, Tryd.ntmps23
  go_upto_region 3 with (go_at_call 24; refine (triRight_walk a b c _).mono ?_; rintro e w1 ⟨rfl, hb1⟩; rw [hR.out]; replace hb1 := Aside0.mk hb1)
  have hq := blk_below (blk_new w (.cells #[.int .i64 a, .int .i64 b, .int .i64 c] 23)) hb1.out
  have hB := (((Below.refl w.heap.size w).alloc (Nat.le_refl _) (.cells #[.int .i64 a, .int .i64 b, .int .i64 c] 23)).trans (hb1.out.mono (by rw [World.size_alloc]; omega)))
  have hT : TC w w.heap.size a b c w1.drew := TC.keep (TB.full ⟨hq, hB, hB.size, hE.out.below hB⟩) (Below.refl _ _).drew
  clear hq hB hb1
  obtain ⟨qb, hqb⟩ : ∃ q, w.heap.size = q := ⟨_, rfl⟩
  rw [hqb] at ⊢
  replace hT : TC w qb a b c w1.drew := hqb ▸ hT
  replace hqb := Aside0.mk hqb
  go_region_held3 (fun W => W.cell? ⟨qb, 0, none⟩ = some (.int .i64 a) ∧ W.cell? ⟨qb, 1, none⟩ = some (.int .i64 b) ∧ W.cell? ⟨qb, 2, none⟩ = some (.int .i64 c) ∧ TB w qb a b c W) (assumption) (first | (go_at_call 40; (with_reducible show Calls Tryd.prog 40 #[.int .i64 a] _ _); refine (ca.out _ (And.right (And.right (And.right (And.right (And.right (And.right (by assumption : TC w qb a b c _)))))))).mono ?_; rintro e w9 ⟨rfl, hb9⟩; have hT9 := TC.keep (by assumption : TC w qb a b c _) hb9; clear hb9) | (go_at_call 40; (with_reducible show Calls Tryd.prog 40 #[.int .i64 b] _ _); refine (cb.out _ (And.right (And.right (And.right (And.right (And.right (And.right (by assumption : TC w qb a b c _)))))))).mono ?_; rintro e w9 ⟨rfl, hb9⟩; have hT9 := TC.keep (by assumption : TC w qb a b c _) hb9; clear hb9) | (go_at_call 40; (with_reducible show Calls Tryd.prog 40 #[.int .i64 c] _ _); refine (cc.out _ (And.right (And.right (And.right (And.right (And.right (And.right (by assumption : TC w qb a b c _)))))))).mono ?_; rintro e w9 ⟨rfl, hb9⟩; have hT9 := TC.keep (by assumption : TC w qb a b c _) hb9; clear hb9))
  all_goals
    have hF := (‹TC w qb a b c _›).2.2.2.2.1
    go_wp2_with fail
    go_ret2
    exact ⟨by rw [← e3.out]; rfl, hF⟩
end Go.Proofs.YtfgnpplnjgjjkaaDoor.T
