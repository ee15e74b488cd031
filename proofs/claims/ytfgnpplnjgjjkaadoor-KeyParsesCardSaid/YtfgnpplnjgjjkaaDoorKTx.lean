/- The walk of layer 7: the text of a key, whatever key. -/
import Derived.Test.YtfgnpplnjgjjkaaDoorTOrder
namespace Go.Proofs.YtfgnpplnjgjjkaaDoor.T
open Go.RowKit Go.Lib Go.Proofs.YtfgnpplnjgjjkaaDoorW.PrintWords Go.Proofs.YtfgnpplnjgjjkaaDoor.K

theorem word_any (n : Int) (h0 : 0 ≤ n) (h1 : n ≤ 4096) (w : World) (hE : Env w) :
    Calls Tryd.prog 45 #[.int .i64 n] w fun e w' => e = .returned (.string (str (kword n.toNat))) ∧ Below w.heap.size w w' := by
  by_cases hz : n = 0
  · subst hz
    go_enter Tryd.func45, Tryd.ntmps45
    go_wp2_with fail
    go_ret
    exact ⟨rfl, Below.refl _ _⟩
  · have HI := Aside0.mk (itoa_any n h0 h1 w hE)
    have hb : (n == 0) = false := beq_eq_false_iff_ne.2 hz
    have e : kword n.toNat = decDigits n.toNat := by unfold kword; rw [if_neg (by omega)]
    rw [e]
    clear e hz hE
    go_enter Tryd.func45, Tryd.ntmps45
    go_wp2_with (go_at_call 40; refine HI.out.mono ?_; rintro e w1 ⟨rfl, hb1⟩; replace hb1 := Aside0.mk hb1)
    go_ret
    exact ⟨rfl, hb1.out⟩
theorem kword_len {n : Nat} (h : n < 1000000000) : (kword n).length ≤ 9 := by
  unfold kword
  split
  · decide
  · exact dd_len h

theorem ktext_no (a b c : Int) (hR : rightR 0 a b c = false) (w : World) :
    Calls Tryd.prog 29 #[.agg #[.int .i64 a, .int .i64 b, .int .i64 c]] w fun e w' => e = .returned (.tuple #[.string ⟨#[]⟩, .int .i64 13]) ∧ Below w.heap.size w w' := by
  replace hR := Aside0.mk hR
  go_enter Tryd.func29, Tryd.ntmps29
  go_wp2_with (go_at_call 30; refine (keyRight_walk a b c _).mono ?_; rintro e w1 ⟨rfl, hb⟩; rw [hR.out]; replace hb := Aside0.mk hb)
  go_ret2
  exact ⟨rfl, ((Below.refl w.heap.size w).alloc (Nat.le_refl _) _).trans (hb.out.mono (by rw [World.size_alloc]; omega))⟩

theorem kright_parts {a b c : Int} (h : rightR 0 a b c = true) : (0 ≤ a ∧ a ≤ 4096) ∧ (0 ≤ b ∧ b ≤ 4096) ∧ (0 ≤ c ∧ c ≤ 4096) := by
  simp [rightR, inR] at h
  omega

theorem ktext3_app (a b c : Nat) : str (kword a) ++ ⟨#[32]⟩ ++ str (kword b) ++ ⟨#[32]⟩ ++ str (kword c) = str (ktext3 a b c) := by
  apply ByteArray.ext
  simp [str, ktext3]

set_option maxHeartbeats 2000000 in
set_option maxRecDepth 100000 in
theorem ktext_ok (a b c : Int) (hR : rightR 0 a b c = true) (w : World) (hE : Env w) :
    Calls Tryd.prog 29 #[.agg #[.int .i64 a, .int .i64 b, .int .i64 c]] w fun e w' => e = .returned (.tuple #[.string (str (ktext3 a.toNat b.toNat c.toNat)), .int .i64 0]) ∧ Below w.heap.size w w' := by
  have hpa := kright_parts hR
  replace hR := Aside0.mk hR
  replace hE := Aside0.mk hE
  have ca := Aside0.mk (fun w h => word_any a (by omega) (by omega) w h)
  have cb := Aside0.mk (fun w h => word_any b (by omega) (by omega) w h)
  have cc := Aside0.mk (fun w h => word_any c (by omega) (by omega) w h)
  have ha := kword_len (n := a.toNat) (by omega)
  have hb := kword_len (n := b.toNat) (by omega)
  have hc := kword_len (n := c.toNat) (by omega)
  have e3 := ktext3_app a.toNat b.toNat c.toNat
  rw [← str_size] at ha hb hc
  clear hpa
  generalize str (ktext3 a.toNat b.toNat c.toNat) = S at e3 ⊢
  generalize str (kword a.toNat) = sa at ca ha e3
  generalize str (kword b.toNat) = sb at cb hb e3
  generalize str (kword c.toNat) = sc at cc hc e3
  replace e3 := Aside0.mk e3
  have f1 : ¬ 9223372036854775807 < sa.size + 1 := by omega
  have f2 : ¬ 9223372036854775807 < sa.size + 1 + sb.size := by omega
  have f3 : ¬ 9223372036854775807 < sa.size + 1 + sb.size + 1 := by omega
  have f4 : ¬ 9223372036854775807 < sa.size + 1 + sb.size + 1 + sc.size := by omega
  clear ha hb hc
  go_enter Tryd.func29, Tryd.ntmps29
  go_upto_region 3 with (go_at_call 30; refine (keyRight_walk a b c _).mono ?_; rintro e w1 ⟨rfl, hb1⟩; rw [hR.out]; replace hb1 := Aside0.mk hb1)
  have hq := blk_below (blk_new w (.cells #[.int .i64 a, .int .i64 b, .int .i64 c] 23)) hb1.out
  have hB := (((Below.refl w.heap.size w).alloc (Nat.le_refl _) (.cells #[.int .i64 a, .int .i64 b, .int .i64 c] 23)).trans (hb1.out.mono (by rw [World.size_alloc]; omega)))
  have hT : TC w w.heap.size a b c w1.drew := TC.keep (TB.full ⟨hq, hB, hB.size, hE.out.below hB⟩) (Below.refl _ _).drew
  clear hq hB hb1
  obtain ⟨qb, hqb⟩ : ∃ q, w.heap.size = q := ⟨_, rfl⟩
  rw [hqb] at ⊢
  replace hT : TC w qb a b c w1.drew := hqb ▸ hT
  replace hqb := Aside0.mk hqb
  go_region_held3 (fun W => W.cell? ⟨qb, 0, none⟩ = some (.int .i64 a) ∧ W.cell? ⟨qb, 1, none⟩ = some (.int .i64 b) ∧ W.cell? ⟨qb, 2, none⟩ = some (.int .i64 c) ∧ TB w qb a b c W) (assumption) (first | (go_at_call 45; (with_reducible show Calls Tryd.prog 45 #[.int .i64 a] _ _); refine (ca.out _ (And.right (And.right (And.right (And.right (And.right (And.right (by assumption : TC w qb a b c _)))))))).mono ?_; rintro e w9 ⟨rfl, hb9⟩; have hT9 := TC.keep (by assumption : TC w qb a b c _) hb9; clear hb9) | (go_at_call 45; (with_reducible show Calls Tryd.prog 45 #[.int .i64 b] _ _); refine (cb.out _ (And.right (And.right (And.right (And.right (And.right (And.right (by assumption : TC w qb a b c _)))))))).mono ?_; rintro e w9 ⟨rfl, hb9⟩; have hT9 := TC.keep (by assumption : TC w qb a b c _) hb9; clear hb9) | (go_at_call 45; (with_reducible show Calls Tryd.prog 45 #[.int .i64 c] _ _); refine (cc.out _ (And.right (And.right (And.right (And.right (And.right (And.right (by assumption : TC w qb a b c _)))))))).mono ?_; rintro e w9 ⟨rfl, hb9⟩; have hT9 := TC.keep (by assumption : TC w qb a b c _) hb9; clear hb9))
  all_goals
    have hF := (‹TC w qb a b c _›).2.2.2.2.1
    go_wp2_with fail
    go_ret2
    exact ⟨by rw [← e3.out]; rfl, hF⟩
end Go.Proofs.YtfgnpplnjgjjkaaDoor.T
