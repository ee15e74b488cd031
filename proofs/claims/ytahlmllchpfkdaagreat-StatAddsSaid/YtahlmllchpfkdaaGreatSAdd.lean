/- 'Add', 'Saved', the equality of reports; 'awake'. -/
import Derived.Test.YtahlmllchpfkdaaGreatSOf
import Derived.Test.YtahlmllchpfkdaaGreatWEqStruct
import Derived.Laws.StructEq
import Derived.Laws.Tables
import Derived.Laws.Cover2
import Derived.KernelRfl
namespace Go.Proofs.YtahlmllchpfkdaaGreat.S
open Go.RowKit Go.Proofs.YtahlmllchpfkdaaGreatW.PrintWords Go.Proofs.YtahlmllchpfkdaaGreatL

set_option maxRecDepth 100000 in
theorem eq23 (n : Nat) (a b c d e f g a' b' c' d' e' f' g' : Int) (w : World) : (Op.equalIn (n + 2) 23 (rep a b c d e f g) (rep a' b' c' d' e' f' g')).run Tryz.prog w = .ok (a == a' && (b == b' && (c == c' && (d == d' && (e == e' && (f == f' && g == g')))))) w := by
  have u3 := Tryz.underlying3
  have a3 := Tryz.isAgg3
  have z3 := Tryz.sizeOf3
  refine eqA_of Tryz.underlying23 (by kernel_rfl) ?_
  refine eqf_cons (by rfl) (by go_simp <;> rfl) (by go_simp <;> rfl) (by go_simp) ?_
  refine eqf_cons (by rfl) (by go_simp <;> rfl) (by go_simp <;> rfl) (by go_simp) ?_
  refine eqf_cons (by rfl) (by go_simp <;> rfl) (by go_simp <;> rfl) (by go_simp) ?_
  refine eqf_cons (by rfl) (by go_simp <;> rfl) (by go_simp <;> rfl) (by go_simp) ?_
  refine eqf_cons (by rfl) (by go_simp <;> rfl) (by go_simp <;> rfl) (by go_simp) ?_
  refine eqf_cons (by rfl) (by go_simp <;> rfl) (by go_simp <;> rfl) (by go_simp) ?_
  exact eqf_last (by rfl) (by go_simp <;> rfl) (by go_simp <;> rfl) (by go_simp)

theorem saved_walk (a b c d e f g : Int) (ha : 0 ≤ a) (ha' : a ≤ 4000000000) (hb : 0 ≤ b) (hb' : b ≤ 4000000000) (hc : 0 ≤ c) (hc' : c ≤ 4000000000) (hd : 0 ≤ d) (hd' : d ≤ 4000000000) (w : World) :
    Calls Tryz.prog 6 #[rep a b c d e f g] w fun r W => r = .returned (.int .i64 (c + d - a - b)) ∧ Below w.heap.size w W := by
  go_enter Tryz.func6, Tryz.ntmps6
  go_wp2
  go_ret
  exact ⟨rfl, (Below.refl _ _).alloc (Nat.le_refl _) _⟩

set_option maxRecDepth 100000 in
theorem awake_walk (w : World) : Calls Tryz.prog 4 #[] w fun e W => e = .returned (.bool true) ∧ Below w.heap.size w W := by
  go_enter Tryz.func4, Tryz.ntmps4
  go_upto_region 2 with (go_at_call 7; refine (of_one _).mono ?_; rintro e w1 ⟨rfl, hb1⟩; have hx1 := Aside0.mk (blk_new w1 (repO 0 0 0 0 1 0 0)); replace hb1 := Aside0.mk (hb1.alloc hb1.size (repO 0 0 0 0 1 0 0)))
  generalize w1.alloc (repO 0 0 0 0 1 0 0) = W1 at hx1 hb1 ⊢
  generalize w1.heap.size = q at hx1 ⊢
  go_upto_region 3 with (go_at_call 7; refine (of_zero _).mono ?_; rintro e w2 ⟨rfl, hb2⟩; have hx2 := Aside0.mk (blk_alloc ((hb2.block _ (blk_lt hx1.out)).trans hx1.out) (repO 0 0 0 0 0 0 0)); replace hb2 := Aside0.mk ((hb1.out.trans (hb2.mono hb1.out.size)).alloc (Nat.le_trans hb1.out.size hb2.size) (repO 0 0 0 0 0 0 0)))
  generalize w2.alloc (repO 0 0 0 0 0 0 0) = W2 at hx2 hb2 ⊢
  have y0 := (blk_cell hx2.out 0).trans (show _ = some (Value.int .i64 0) from rfl)
  have y1 := (blk_cell hx2.out 1).trans (show _ = some (Value.int .i64 0) from rfl)
  have y2 := (blk_cell hx2.out 2).trans (show _ = some (Value.int .i64 0) from rfl)
  have y3 := (blk_cell hx2.out 3).trans (show _ = some (Value.int .i64 0) from rfl)
  have y4 := (blk_cell hx2.out 4).trans (show _ = some (Value.int .i64 1) from rfl)
  have y5 := (blk_cell hx2.out 5).trans (show _ = some (Value.int .i64 0) from rfl)
  have y6 := (blk_cell hx2.out 6).trans (show _ = some (Value.int .i64 0) from rfl)
  have he := eq23
  go_wp2_with (go_at_call 6; refine (saved_walk 1 2 3 5 0 0 0 (by decide) (by decide) (by decide) (by decide) (by decide) (by decide) (by decide) (by decide) _).mono ?_; rintro e w3 ⟨rfl, hb3⟩; replace hb3 := Aside0.mk (hb2.out.trans (hb3.mono hb2.out.size)))
  go_ret
  exact ⟨rfl, hb3.out⟩

set_option maxRecDepth 100000 in
theorem add_walk (a b c d e f g a' b' c' d' e' f' g' p : Int) (hp : max e e' = p) (h0 : 0 ≤ a) (h1 : a ≤ 1000000000) (h2 : 0 ≤ b) (h3 : b ≤ 1000000000) (h4 : 0 ≤ c) (h5 : c ≤ 1000000000) (h6 : 0 ≤ d) (h7 : d ≤ 1000000000) (h10 : 0 ≤ f) (h11 : f ≤ 1000000000) (h12 : 0 ≤ g) (h13 : g ≤ 1000000000)
    (k0 : 0 ≤ a') (k1 : a' ≤ 1000000000) (k2 : 0 ≤ b') (k3 : b' ≤ 1000000000) (k4 : 0 ≤ c') (k5 : c' ≤ 1000000000) (k6 : 0 ≤ d') (k7 : d' ≤ 1000000000) (k10 : 0 ≤ f') (k11 : f' ≤ 1000000000) (k12 : 0 ≤ g') (k13 : g' ≤ 1000000000) (w : World) :
    Calls Tryz.prog 5 #[rep a b c d e f g, rep a' b' c' d' e' f' g'] w fun r W => r = .returned (rep (a + a') (b + b') (c + c') (d + d') p (f + f') (g + g')) ∧ Below w.heap.size w W := by
  rcases Int.lt_or_le e e' with hlt | hle
  · have hpe : p = e' := by omega
    subst hpe
    clear hp
    go_enter Tryz.func5, Tryz.ntmps5
    go_wp2
    all_goals first | (exfalso; omega) | skip
    refine bodyPost_ret (v := rep (a + a') (b + b') (c + c') (d + d') p (f + f') (g + g')) (by simp [results, Tryz.results5, go_sem]) rfl ⟨rfl, ?_⟩
    exact (((Below.refl w.heap.size w).alloc (Nat.le_refl _) _).alloc (by simp) _).alloc (by simp; omega) _
  · have hpe : p = e := by omega
    subst hpe
    clear hp
    go_enter Tryz.func5, Tryz.ntmps5
    go_wp2
    all_goals first | (exfalso; omega) | skip
    refine bodyPost_ret (v := rep (a + a') (b + b') (c + c') (d + d') p (f + f') (g + g')) (by simp [results, Tryz.results5, go_sem]) rfl ⟨rfl, ?_⟩
    exact (((Below.refl w.heap.size w).alloc (Nat.le_refl _) _).alloc (by simp) _).alloc (by simp; omega) _
end Go.Proofs.YtahlmllchpfkdaaGreat.S
