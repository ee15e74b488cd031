/- The walk of the law StatAdds. -/
import Derived.Test.YtahlmllchpfkdaaGreatSAdd
namespace Go.Proofs.YtahlmllchpfkdaaGreat.S
open Go.RowKit Go.Proofs.YtahlmllchpfkdaaGreatW.PrintWords Go.Proofs.YtahlmllchpfkdaaGreatL

attribute [local go_sem] YReg.envOf
attribute [local go_sem high] eq23

theorem up_of {P : Program} {E : World → World → Prop} {W : World} {c : Value} {r : Result Next} (hr : ∀ w, E w w) (h : r = .ok (.value c) W) : YReg.upE P E W (.det c) r := by subst h; exact ⟨hr W, rfl⟩
theorem wrap_id {x : Int} (h0 : -9000000000000000000 ≤ x) (h1 : x ≤ 9000000000000000000) : IntKind.i64.wrap x = x := by rw [IntKind.wrap_i64]; omega

set_option maxHeartbeats 2000000 in
set_option maxRecDepth 100000 in
theorem adds_walk (a b c d e f g a' b' c' d' e' f' g' : Int) (w : World) : Calls Tryz.prog 3 #[rep a b c d e f g, rep a' b' c' d' e' f' g'] w fun r W => r = .returned (.bool true) ∧ Below w.heap.size w W := by
  have hA := blk_alloc (blk_alloc (blk_new w (repO a b c d e f g)) (repO a' b' c' d' e' f' g')) (.cells #[.int .i64 a, .int .i64 b, .int .i64 c, .int .i64 d, .int .i64 e, .int .i64 f, .int .i64 g, .int .i64 a', .int .i64 b', .int .i64 c', .int .i64 d', .int .i64 e', .int .i64 f', .int .i64 g'] 3)
  have hB := blk_alloc (blk_new (w.alloc (repO a b c d e f g)) (repO a' b' c' d' e' f' g')) (.cells #[.int .i64 a, .int .i64 b, .int .i64 c, .int .i64 d, .int .i64 e, .int .i64 f, .int .i64 g, .int .i64 a', .int .i64 b', .int .i64 c', .int .i64 d', .int .i64 e', .int .i64 f', .int .i64 g'] 3)
  have hL := blk_new ((w.alloc (repO a b c d e f g)).alloc (repO a' b' c' d' e' f' g')) (.cells #[.int .i64 a, .int .i64 b, .int .i64 c, .int .i64 d, .int .i64 e, .int .i64 f, .int .i64 g, .int .i64 a', .int .i64 b', .int .i64 c', .int .i64 d', .int .i64 e', .int .i64 f', .int .i64 g'] 3)
  simp only [World.size_alloc] at hA hB hL
  have hW := (((Below.refl w.heap.size w).alloc (Nat.le_refl _) (repO a b c d e f g)).alloc (by simp) (repO a' b' c' d' e' f' g')).alloc (by simp; omega) (.cells #[.int .i64 a, .int .i64 b, .int .i64 c, .int .i64 d, .int .i64 e, .int .i64 f, .int .i64 g, .int .i64 a', .int .i64 b', .int .i64 c', .int .i64 d', .int .i64 e', .int .i64 f', .int .i64 g'] 3)
  go_enter Tryz.func3, Tryz.ntmps3
  go_wp2_with fail
  generalize ((w.alloc (repO a b c d e f g)).alloc (repO a' b' c' d' e' f' g')).alloc (.cells #[.int .i64 a, .int .i64 b, .int .i64 c, .int .i64 d, .int .i64 e, .int .i64 f, .int .i64 g, .int .i64 a', .int .i64 b', .int .i64 c', .int .i64 d', .int .i64 e', .int .i64 f', .int .i64 g'] 3) = W1 at hA hB hL hW ⊢
  replace hA := Aside0.mk hA
  replace hB := Aside0.mk hB
  replace hL := Aside0.mk hL
  replace hW := Aside0.mk hW
  obtain ⟨xs, hxs⟩ : ∃ xs : List Int, xs = [a, b, c, d, e, f, g, a', b', c', d', e', f', g'] := ⟨_, rfl⟩
  have hx : Aside0 (∀ k, k < 14 → ∃ v, xs[k]? = some v ∧ W1.cell? ⟨w.heap.size + 2, k, none⟩ = some (.int .i64 v)) := ⟨fun k hk => by
    have h1 := blk_cell hL.out k
    have h2 : (#[.int .i64 a, .int .i64 b, .int .i64 c, .int .i64 d, .int .i64 e, .int .i64 f, .int .i64 g, .int .i64 a', .int .i64 b', .int .i64 c', .int .i64 d', .int .i64 e', .int .i64 f', .int .i64 g'] : Array Value)[k]? = (xs.map (Value.int .i64))[k]? := by rw [hxs]; simp
    rw [h2, List.getElem?_map] at h1
    have hlen : xs.length = 14 := by rw [hxs]; rfl
    rw [List.getElem?_eq_getElem (by omega)] at h1
    exact ⟨xs[k], List.getElem?_eq_getElem (by omega), h1⟩⟩
  go_loopw [39] (fun i wr => ∃ k : Nat, i = .int .i64 k ∧ k ≤ 14 ∧ wr = W1 ∧ ∀ j v, j < k → xs[j]? = some v → 0 ≤ v ∧ v ≤ 1000000000) (fun i _ => 14 - (intOf i).toNat)
  case atStart => exact ⟨0, rfl, Nat.zero_le _, rfl, fun j v h => absurd h (Nat.not_lt_zero _)⟩
  case round =>
    obtain ⟨k, rfl, hk, rfl, hall⟩ := hrel
    by_cases hk14 : k < 14
    · obtain ⟨v, hv, hc⟩ := hx.out k hk14
      replace hall := Aside0.mk hall
      replace hv := Aside0.mk hv
      by_cases hlo : v < 0
      · go_wp2_with (go_at_call 4; refine (awake_walk _).mono ?_; rintro e w2 ⟨rfl, hb2⟩; replace hb2 := Aside0.mk hb2)
        go_ret
        exact ⟨rfl, hW.out.trans (hb2.out.mono hW.out.size)⟩
      by_cases hhi : 1000000000 < v
      · go_wp2_with (go_at_call 4; refine (awake_walk _).mono ?_; rintro e w2 ⟨rfl, hb2⟩; replace hb2 := Aside0.mk hb2)
        go_ret
        exact ⟨rfl, hW.out.trans (hb2.out.mono hW.out.size)⟩
      have hlo' : 0 ≤ v := by omega
      have hhi' : v ≤ 1000000000 := by omega
      go_wp2_with fail
      go_roundw
      case rel => exact ⟨k + 1, by go_num, by omega, trivial, fun j u hj hu => by
        by_cases e : j = k
        · subst e
          rw [hv.out] at hu
          cases hu
          exact ⟨hlo', hhi'⟩
        · exact hall.out j u (by omega) hu⟩
      case measure => simp [intOf]; omega
    · obtain rfl : k = 14 := by omega
      obtain ⟨l0, u0⟩ := hall 0 a (by omega) (by rw [hxs]; rfl)
      obtain ⟨l1, u1⟩ := hall 1 b (by omega) (by rw [hxs]; rfl)
      obtain ⟨l2, u2⟩ := hall 2 c (by omega) (by rw [hxs]; rfl)
      obtain ⟨l3, u3⟩ := hall 3 d (by omega) (by rw [hxs]; rfl)
      obtain ⟨l4, u4⟩ := hall 4 e (by omega) (by rw [hxs]; rfl)
      obtain ⟨l5, u5⟩ := hall 5 f (by omega) (by rw [hxs]; rfl)
      obtain ⟨l6, u6⟩ := hall 6 g (by omega) (by rw [hxs]; rfl)
      obtain ⟨l7, u7⟩ := hall 7 a' (by omega) (by rw [hxs]; rfl)
      obtain ⟨l8, u8⟩ := hall 8 b' (by omega) (by rw [hxs]; rfl)
      obtain ⟨l9, u9⟩ := hall 9 c' (by omega) (by rw [hxs]; rfl)
      obtain ⟨l10, u10⟩ := hall 10 d' (by omega) (by rw [hxs]; rfl)
      obtain ⟨l11, u11⟩ := hall 11 e' (by omega) (by rw [hxs]; rfl)
      obtain ⟨l12, u12⟩ := hall 12 f' (by omega) (by rw [hxs]; rfl)
      obtain ⟨l13, u13⟩ := hall 13 g' (by omega) (by rw [hxs]; rfl)
      clear hall hx hL hk hk14
      have ca0 := (blk_cell hA.out 0).trans (show _ = some (Value.int .i64 a) from rfl)
      have ca1 := (blk_cell hA.out 1).trans (show _ = some (Value.int .i64 b) from rfl)
      have ca2 := (blk_cell hA.out 2).trans (show _ = some (Value.int .i64 c) from rfl)
      have ca3 := (blk_cell hA.out 3).trans (show _ = some (Value.int .i64 d) from rfl)
      have ca4 := (blk_cell hA.out 4).trans (show _ = some (Value.int .i64 e) from rfl)
      have ca5 := (blk_cell hA.out 5).trans (show _ = some (Value.int .i64 f) from rfl)
      have ca6 := (blk_cell hA.out 6).trans (show _ = some (Value.int .i64 g) from rfl)
      have cb0 := (blk_cell hB.out 0).trans (show _ = some (Value.int .i64 a') from rfl)
      have cb1 := (blk_cell hB.out 1).trans (show _ = some (Value.int .i64 b') from rfl)
      have cb2 := (blk_cell hB.out 2).trans (show _ = some (Value.int .i64 c') from rfl)
      have cb3 := (blk_cell hB.out 3).trans (show _ = some (Value.int .i64 d') from rfl)
      have cb4 := (blk_cell hB.out 4).trans (show _ = some (Value.int .i64 e') from rfl)
      have cb5 := (blk_cell hB.out 5).trans (show _ = some (Value.int .i64 f') from rfl)
      have cb6 := (blk_cell hB.out 6).trans (show _ = some (Value.int .i64 g') from rfl)
      obtain ⟨p, hp⟩ : ∃ p, max e e' = p := ⟨_, rfl⟩
      have hadd := Aside0.mk (add_walk a b c d e f g a' b' c' d' e' f' g' p hp l0 u0 l1 u1 l2 u2 l3 u3 l5 u5 l6 u6 l7 u7 l8 u8 l9 u9 l10 u10 l12 u12 l13 u13 wr)
      have hp' := Aside0.mk hp
      clear hp
      go_upto_region 8 with (go_at_call 5; refine hadd.out.mono ?_; rintro r w2 ⟨rfl, hb2⟩; have hA2 := Aside0.mk (blk_alloc ((hb2.block _ (blk_lt hA.out)).trans hA.out) (repO (a + a') (b + b') (c + c') (d + d') p (f + f') (g + g'))); have hB2 := Aside0.mk (blk_alloc ((hb2.block _ (blk_lt hB.out)).trans hB.out) (repO (a + a') (b + b') (c + c') (d + d') p (f + f') (g + g'))); have hC2 := Aside0.mk (blk_new w2 (repO (a + a') (b + b') (c + c') (d + d') p (f + f') (g + g'))); have hW2 := Aside0.mk ((hW.out.trans (hb2.mono hW.out.size)).alloc (Nat.le_trans hW.out.size hb2.size) (repO (a + a') (b + b') (c + c') (d + d') p (f + f') (g + g'))))
      generalize w2.alloc (repO (a + a') (b + b') (c + c') (d + d') p (f + f') (g + g')) = W2 at hA2 hB2 hC2 hW2 ⊢
      generalize w2.heap.size = q at hC2 ⊢
      clear hA hB hW hadd ca0 cb0 ca1 cb1 ca2 cb2 ca3 cb3 ca4 cb4 ca5 cb5 ca6 cb6
      have ca4 := (blk_cell hA2.out 4).trans (show _ = some (Value.int .i64 e) from rfl)
      have cb4 := (blk_cell hB2.out 4).trans (show _ = some (Value.int .i64 e') from rfl)
      by_cases hlt : e < e'
      · have hpe : p = e' := by have := hp'.out; omega
        subst hpe
        clear hp'
        go_upto_region 11 with fail
        clear ca4 cb4
        have ca0 : ∀ W', YReg.Ext W2.drew W' → W'.cell? ⟨w.heap.size, 0, none⟩ = some (.int .i64 a) := fun W' h => (blk_cell ((h.block _ (blk_lt hA2.out)).trans hA2.out) 0).trans rfl
        have ca1 : ∀ W', YReg.Ext W2.drew W' → W'.cell? ⟨w.heap.size, 1, none⟩ = some (.int .i64 b) := fun W' h => (blk_cell ((h.block _ (blk_lt hA2.out)).trans hA2.out) 1).trans rfl
        have ca2 : ∀ W', YReg.Ext W2.drew W' → W'.cell? ⟨w.heap.size, 2, none⟩ = some (.int .i64 c) := fun W' h => (blk_cell ((h.block _ (blk_lt hA2.out)).trans hA2.out) 2).trans rfl
        have ca3 : ∀ W', YReg.Ext W2.drew W' → W'.cell? ⟨w.heap.size, 3, none⟩ = some (.int .i64 d) := fun W' h => (blk_cell ((h.block _ (blk_lt hA2.out)).trans hA2.out) 3).trans rfl
        have ca4 : ∀ W', YReg.Ext W2.drew W' → W'.cell? ⟨w.heap.size, 4, none⟩ = some (.int .i64 e) := fun W' h => (blk_cell ((h.block _ (blk_lt hA2.out)).trans hA2.out) 4).trans rfl
        have ca5 : ∀ W', YReg.Ext W2.drew W' → W'.cell? ⟨w.heap.size, 5, none⟩ = some (.int .i64 f) := fun W' h => (blk_cell ((h.block _ (blk_lt hA2.out)).trans hA2.out) 5).trans rfl
        have ca6 : ∀ W', YReg.Ext W2.drew W' → W'.cell? ⟨w.heap.size, 6, none⟩ = some (.int .i64 g) := fun W' h => (blk_cell ((h.block _ (blk_lt hA2.out)).trans hA2.out) 6).trans rfl
        have cb0 : ∀ W', YReg.Ext W2.drew W' → W'.cell? ⟨w.heap.size + 1, 0, none⟩ = some (.int .i64 a') := fun W' h => (blk_cell ((h.block _ (blk_lt hB2.out)).trans hB2.out) 0).trans rfl
        have cb1 : ∀ W', YReg.Ext W2.drew W' → W'.cell? ⟨w.heap.size + 1, 1, none⟩ = some (.int .i64 b') := fun W' h => (blk_cell ((h.block _ (blk_lt hB2.out)).trans hB2.out) 1).trans rfl
        have cb2 : ∀ W', YReg.Ext W2.drew W' → W'.cell? ⟨w.heap.size + 1, 2, none⟩ = some (.int .i64 c') := fun W' h => (blk_cell ((h.block _ (blk_lt hB2.out)).trans hB2.out) 2).trans rfl
        have cb3 : ∀ W', YReg.Ext W2.drew W' → W'.cell? ⟨w.heap.size + 1, 3, none⟩ = some (.int .i64 d') := fun W' h => (blk_cell ((h.block _ (blk_lt hB2.out)).trans hB2.out) 3).trans rfl
        have cb4 : ∀ W', YReg.Ext W2.drew W' → W'.cell? ⟨w.heap.size + 1, 4, none⟩ = some (.int .i64 p) := fun W' h => (blk_cell ((h.block _ (blk_lt hB2.out)).trans hB2.out) 4).trans rfl
        have cb5 : ∀ W', YReg.Ext W2.drew W' → W'.cell? ⟨w.heap.size + 1, 5, none⟩ = some (.int .i64 f') := fun W' h => (blk_cell ((h.block _ (blk_lt hB2.out)).trans hB2.out) 5).trans rfl
        have cb6 : ∀ W', YReg.Ext W2.drew W' → W'.cell? ⟨w.heap.size + 1, 6, none⟩ = some (.int .i64 g') := fun W' h => (blk_cell ((h.block _ (blk_lt hB2.out)).trans hB2.out) 6).trans rfl
        have cc0 : ∀ W', YReg.Ext W2.drew W' → W'.cell? ⟨q, 0, none⟩ = some (.int .i64 (a + a')) := fun W' h => (blk_cell ((h.block _ (blk_lt hC2.out)).trans hC2.out) 0).trans rfl
        have cc1 : ∀ W', YReg.Ext W2.drew W' → W'.cell? ⟨q, 1, none⟩ = some (.int .i64 (b + b')) := fun W' h => (blk_cell ((h.block _ (blk_lt hC2.out)).trans hC2.out) 1).trans rfl
        have cc2 : ∀ W', YReg.Ext W2.drew W' → W'.cell? ⟨q, 2, none⟩ = some (.int .i64 (c + c')) := fun W' h => (blk_cell ((h.block _ (blk_lt hC2.out)).trans hC2.out) 2).trans rfl
        have cc3 : ∀ W', YReg.Ext W2.drew W' → W'.cell? ⟨q, 3, none⟩ = some (.int .i64 (d + d')) := fun W' h => (blk_cell ((h.block _ (blk_lt hC2.out)).trans hC2.out) 3).trans rfl
        have cc4 : ∀ W', YReg.Ext W2.drew W' → W'.cell? ⟨q, 4, none⟩ = some (.int .i64 p) := fun W' h => (blk_cell ((h.block _ (blk_lt hC2.out)).trans hC2.out) 4).trans rfl
        have cc5 : ∀ W', YReg.Ext W2.drew W' → W'.cell? ⟨q, 5, none⟩ = some (.int .i64 (f + f')) := fun W' h => (blk_cell ((h.block _ (blk_lt hC2.out)).trans hC2.out) 5).trans rfl
        have cc6 : ∀ W', YReg.Ext W2.drew W' → W'.cell? ⟨q, 6, none⟩ = some (.int .i64 (g + g')) := fun W' h => (blk_cell ((h.block _ (blk_lt hC2.out)).trans hC2.out) 6).trans rfl
        refine YReg.wp_region_tail 46 none YReg.Ext YReg.Ext YReg.Ext.refl YReg.Ext.trans YReg.Ext.trans (fun _ _ h => h) (by kernel_rfl) (by kernel_rfl) (by kernel_rfl) [(2, .det (.pointer (some ⟨w.heap.size, 0, none⟩))), (3, .det (.pointer (some ⟨w.heap.size + 1, 0, none⟩))), (7, .det (.pointer (some ⟨q, 0, none⟩))), (8, .det (.int .i64 p))] (YReg.base_cons rfl (YReg.base_cons rfl (YReg.base_cons rfl (YReg.base_cons rfl YReg.base_nil)))) ?_
        repeat (first
          | (refine YReg.walk_move (by decide) YReg.Ext.refl rfl rfl _ rfl (by kernel_rfl) (by kernel_rfl) ?_)
          | (refine YReg.run_1 (by decide) YReg.Ext.refl rfl rfl _ rfl (by kernel_rfl) (by kernel_rfl) ?_; apply Exists.intro; refine ⟨fun ρ W hE h1 => ?_, ?_⟩; (first | (go_simp; done) | (go_simp; rfl)))
          | (refine YReg.run_2 (by decide) YReg.Ext.refl rfl rfl rfl _ rfl (by kernel_rfl) (by kernel_rfl) ?_; apply Exists.intro; refine ⟨fun ρ W hE h1 h2 => ?_, ?_⟩; (first | (go_simp; done) | (go_simp; rfl))))
        rw [wrap_id (x := a + a') (by omega) (by omega), wrap_id (x := b + b') (by omega) (by omega), wrap_id (x := c + c') (by omega) (by omega), wrap_id (x := d + d') (by omega) (by omega), wrap_id (x := f + f') (by omega) (by omega), wrap_id (x := g + g') (by omega) (by omega)]
        refine YReg.walk_det (by decide) (rep (a + a') (b + b') (c + c') (d + d') p (f + f') (g + g')) _ rfl (by kernel_rfl) (by kernel_rfl) ?_ ?_
        · intro ρ W hG hk
          have k67 : ρ 67 = .int .i64 (a + a') := hk 67 (by decide)
          have k72 : ρ 72 = .int .i64 (b + b') := hk 72 (by decide)
          have k77 : ρ 77 = .int .i64 (c + c') := hk 77 (by decide)
          have k82 : ρ 82 = .int .i64 (d + d') := hk 82 (by decide)
          have k83 : ρ 83 = .int .i64 (p) := hk 83 (by decide)
          have k88 : ρ 88 = .int .i64 (f + f') := hk 88 (by decide)
          have k93 : ρ 93 = .int .i64 (g + g') := hk 93 (by decide)
          refine up_of YReg.Ext.refl ?_
          go_simp
        repeat (first
          | (refine YReg.walk_move (by decide) YReg.Ext.refl rfl rfl _ rfl (by kernel_rfl) (by kernel_rfl) ?_)
          | (refine YReg.run_1 (by decide) YReg.Ext.refl rfl rfl _ rfl (by kernel_rfl) (by kernel_rfl) ?_; apply Exists.intro; refine ⟨fun ρ W hE h1 => ?_, ?_⟩; (first | (go_simp; done) | (go_simp; rfl)))
          | (refine YReg.run_2 (by decide) YReg.Ext.refl rfl rfl rfl _ rfl (by kernel_rfl) (by kernel_rfl) ?_; apply Exists.intro; refine ⟨fun ρ W hE h1 h2 => ?_, ?_⟩; (first | (go_simp; done) | (go_simp; rfl))))
        refine YReg.walk_calld (by decide) (c := .int .i64 ((c + d - a - b) + (c' + d' - a' - b'))) (fun W hE => (saved_walk (a + a') (b + b') (c + c') (d + d') p (f + f') (g + g') (by omega) (by omega) (by omega) (by omega) (by omega) (by omega) (by omega) (by omega) W).mono (fun r W' ⟨h1, h2⟩ => ⟨_, h1, h2, by congr 1; omega⟩)) rfl (by kernel_rfl) rfl _ rfl (by kernel_rfl) (by kernel_rfl) ?_
        repeat (first
          | (refine YReg.walk_move (by decide) YReg.Ext.refl rfl rfl _ rfl (by kernel_rfl) (by kernel_rfl) ?_)
          | (refine YReg.run_1 (by decide) YReg.Ext.refl rfl rfl _ rfl (by kernel_rfl) (by kernel_rfl) ?_; apply Exists.intro; refine ⟨fun ρ W hE h1 => ?_, ?_⟩; (first | (go_simp; done) | (go_simp; rfl)))
          | (refine YReg.run_2 (by decide) YReg.Ext.refl rfl rfl rfl _ rfl (by kernel_rfl) (by kernel_rfl) ?_; apply Exists.intro; refine ⟨fun ρ W hE h1 h2 => ?_, ?_⟩; (first | (go_simp; done) | (go_simp; rfl))))
        refine YReg.walk_calld (by decide) (c := .int .i64 (c + d - a - b)) (fun W hE => (saved_walk a b c d e f g (by omega) (by omega) (by omega) (by omega) (by omega) (by omega) (by omega) (by omega) W).mono (fun r W' ⟨h1, h2⟩ => ⟨_, h1, h2, rfl⟩)) rfl (by kernel_rfl) rfl _ rfl (by kernel_rfl) (by kernel_rfl) ?_
        repeat (first
          | (refine YReg.walk_move (by decide) YReg.Ext.refl rfl rfl _ rfl (by kernel_rfl) (by kernel_rfl) ?_)
          | (refine YReg.run_1 (by decide) YReg.Ext.refl rfl rfl _ rfl (by kernel_rfl) (by kernel_rfl) ?_; apply Exists.intro; refine ⟨fun ρ W hE h1 => ?_, ?_⟩; (first | (go_simp; done) | (go_simp; rfl)))
          | (refine YReg.run_2 (by decide) YReg.Ext.refl rfl rfl rfl _ rfl (by kernel_rfl) (by kernel_rfl) ?_; apply Exists.intro; refine ⟨fun ρ W hE h1 h2 => ?_, ?_⟩; (first | (go_simp; done) | (go_simp; rfl))))
        refine YReg.walk_calld (by decide) (c := .int .i64 (c' + d' - a' - b')) (fun W hE => (saved_walk a' b' c' d' p f' g' (by omega) (by omega) (by omega) (by omega) (by omega) (by omega) (by omega) (by omega) W).mono (fun r W' ⟨h1, h2⟩ => ⟨_, h1, h2, rfl⟩)) rfl (by kernel_rfl) rfl _ rfl (by kernel_rfl) (by kernel_rfl) ?_
        refine YReg.run_2 (by decide) YReg.Ext.refl rfl rfl rfl _ rfl (by kernel_rfl) (by kernel_rfl) ?_
        refine ⟨.int .i64 ((c + d - a - b) + (c' + d' - a' - b')), fun ρ W hE h1 h2 => ?_, ?_⟩
        · have hwr := wrap_id (x := (c + d - a - b) + (c' + d' - a' - b')) (by omega) (by omega)
          go_simp
        repeat (first
          | (refine YReg.walk_move (by decide) YReg.Ext.refl rfl rfl _ rfl (by kernel_rfl) (by kernel_rfl) ?_)
          | (refine YReg.run_1 (by decide) YReg.Ext.refl rfl rfl _ rfl (by kernel_rfl) (by kernel_rfl) ?_; apply Exists.intro; refine ⟨fun ρ W hE h1 => ?_, ?_⟩; (first | (go_simp; done) | (go_simp; rfl)))
          | (refine YReg.run_2 (by decide) YReg.Ext.refl rfl rfl rfl _ rfl (by kernel_rfl) (by kernel_rfl) ?_; apply Exists.intro; refine ⟨fun ρ W hE h1 h2 => ?_, ?_⟩; (first | (go_simp; done) | (go_simp; rfl))))
        refine YReg.walk_calld (by decide) (c := .bool true) (fun W hE => (awake_walk W).mono (fun r W' ⟨h1, h2⟩ => ⟨_, h1, h2, rfl⟩)) rfl (by kernel_rfl) rfl _ rfl (by kernel_rfl) (by kernel_rfl) ?_
        repeat (first
          | (refine YReg.walk_move (by decide) YReg.Ext.refl rfl rfl _ rfl (by kernel_rfl) (by kernel_rfl) ?_)
          | (refine YReg.run_1 (by decide) YReg.Ext.refl rfl rfl _ rfl (by kernel_rfl) (by kernel_rfl) ?_; apply Exists.intro; refine ⟨fun ρ W hE h1 => ?_, ?_⟩; (first | (go_simp; done) | (go_simp; rfl)))
          | (refine YReg.run_2 (by decide) YReg.Ext.refl rfl rfl rfl _ rfl (by kernel_rfl) (by kernel_rfl) ?_; apply Exists.intro; refine ⟨fun ρ W hE h1 h2 => ?_, ?_⟩; (first | (go_simp; done) | (go_simp; rfl))))
        intro ρ W' hE _
        have hfin := Aside0.mk (hW2.out.trans (((Below.refl W2.heap.size W2).drew.trans hE).mono hW2.out.size))
        simp only [Act.put, List.setIfInBounds_toArray, List.set_cons_zero, List.set_cons_succ]
        clear hE hA2 hB2 hC2 hW2 ca0 cb0 cc0 ca1 cb1 cc1 ca2 cb2 cc2 ca3 cb3 cc3 ca4 cb4 cc4 ca5 cb5 cc5 ca6 cb6 cc6
        go_wp2
        go_ret
        exact ⟨rfl, hfin.out⟩
      · have hpe : p = e := by have := hp'.out; omega
        subst hpe
        clear hp'
        go_upto_region 11 with fail
        clear ca4 cb4
        have ca0 : ∀ W', YReg.Ext W2.drew W' → W'.cell? ⟨w.heap.size, 0, none⟩ = some (.int .i64 a) := fun W' h => (blk_cell ((h.block _ (blk_lt hA2.out)).trans hA2.out) 0).trans rfl
        have ca1 : ∀ W', YReg.Ext W2.drew W' → W'.cell? ⟨w.heap.size, 1, none⟩ = some (.int .i64 b) := fun W' h => (blk_cell ((h.block _ (blk_lt hA2.out)).trans hA2.out) 1).trans rfl
        have ca2 : ∀ W', YReg.Ext W2.drew W' → W'.cell? ⟨w.heap.size, 2, none⟩ = some (.int .i64 c) := fun W' h => (blk_cell ((h.block _ (blk_lt hA2.out)).trans hA2.out) 2).trans rfl
        have ca3 : ∀ W', YReg.Ext W2.drew W' → W'.cell? ⟨w.heap.size, 3, none⟩ = some (.int .i64 d) := fun W' h => (blk_cell ((h.block _ (blk_lt hA2.out)).trans hA2.out) 3).trans rfl
        have ca4 : ∀ W', YReg.Ext W2.drew W' → W'.cell? ⟨w.heap.size, 4, none⟩ = some (.int .i64 p) := fun W' h => (blk_cell ((h.block _ (blk_lt hA2.out)).trans hA2.out) 4).trans rfl
        have ca5 : ∀ W', YReg.Ext W2.drew W' → W'.cell? ⟨w.heap.size, 5, none⟩ = some (.int .i64 f) := fun W' h => (blk_cell ((h.block _ (blk_lt hA2.out)).trans hA2.out) 5).trans rfl
        have ca6 : ∀ W', YReg.Ext W2.drew W' → W'.cell? ⟨w.heap.size, 6, none⟩ = some (.int .i64 g) := fun W' h => (blk_cell ((h.block _ (blk_lt hA2.out)).trans hA2.out) 6).trans rfl
        have cb0 : ∀ W', YReg.Ext W2.drew W' → W'.cell? ⟨w.heap.size + 1, 0, none⟩ = some (.int .i64 a') := fun W' h => (blk_cell ((h.block _ (blk_lt hB2.out)).trans hB2.out) 0).trans rfl
        have cb1 : ∀ W', YReg.Ext W2.drew W' → W'.cell? ⟨w.heap.size + 1, 1, none⟩ = some (.int .i64 b') := fun W' h => (blk_cell ((h.block _ (blk_lt hB2.out)).trans hB2.out) 1).trans rfl
        have cb2 : ∀ W', YReg.Ext W2.drew W' → W'.cell? ⟨w.heap.size + 1, 2, none⟩ = some (.int .i64 c') := fun W' h => (blk_cell ((h.block _ (blk_lt hB2.out)).trans hB2.out) 2).trans rfl
        have cb3 : ∀ W', YReg.Ext W2.drew W' → W'.cell? ⟨w.heap.size + 1, 3, none⟩ = some (.int .i64 d') := fun W' h => (blk_cell ((h.block _ (blk_lt hB2.out)).trans hB2.out) 3).trans rfl
        have cb4 : ∀ W', YReg.Ext W2.drew W' → W'.cell? ⟨w.heap.size + 1, 4, none⟩ = some (.int .i64 e') := fun W' h => (blk_cell ((h.block _ (blk_lt hB2.out)).trans hB2.out) 4).trans rfl
        have cb5 : ∀ W', YReg.Ext W2.drew W' → W'.cell? ⟨w.heap.size + 1, 5, none⟩ = some (.int .i64 f') := fun W' h => (blk_cell ((h.block _ (blk_lt hB2.out)).trans hB2.out) 5).trans rfl
        have cb6 : ∀ W', YReg.Ext W2.drew W' → W'.cell? ⟨w.heap.size + 1, 6, none⟩ = some (.int .i64 g') := fun W' h => (blk_cell ((h.block _ (blk_lt hB2.out)).trans hB2.out) 6).trans rfl
        have cc0 : ∀ W', YReg.Ext W2.drew W' → W'.cell? ⟨q, 0, none⟩ = some (.int .i64 (a + a')) := fun W' h => (blk_cell ((h.block _ (blk_lt hC2.out)).trans hC2.out) 0).trans rfl
        have cc1 : ∀ W', YReg.Ext W2.drew W' → W'.cell? ⟨q, 1, none⟩ = some (.int .i64 (b + b')) := fun W' h => (blk_cell ((h.block _ (blk_lt hC2.out)).trans hC2.out) 1).trans rfl
        have cc2 : ∀ W', YReg.Ext W2.drew W' → W'.cell? ⟨q, 2, none⟩ = some (.int .i64 (c + c')) := fun W' h => (blk_cell ((h.block _ (blk_lt hC2.out)).trans hC2.out) 2).trans rfl
        have cc3 : ∀ W', YReg.Ext W2.drew W' → W'.cell? ⟨q, 3, none⟩ = some (.int .i64 (d + d')) := fun W' h => (blk_cell ((h.block _ (blk_lt hC2.out)).trans hC2.out) 3).trans rfl
        have cc4 : ∀ W', YReg.Ext W2.drew W' → W'.cell? ⟨q, 4, none⟩ = some (.int .i64 p) := fun W' h => (blk_cell ((h.block _ (blk_lt hC2.out)).trans hC2.out) 4).trans rfl
        have cc5 : ∀ W', YReg.Ext W2.drew W' → W'.cell? ⟨q, 5, none⟩ = some (.int .i64 (f + f')) := fun W' h => (blk_cell ((h.block _ (blk_lt hC2.out)).trans hC2.out) 5).trans rfl
        have cc6 : ∀ W', YReg.Ext W2.drew W' → W'.cell? ⟨q, 6, none⟩ = some (.int .i64 (g + g')) := fun W' h => (blk_cell ((h.block _ (blk_lt hC2.out)).trans hC2.out) 6).trans rfl
        refine YReg.wp_region_tail 46 none YReg.Ext YReg.Ext YReg.Ext.refl YReg.Ext.trans YReg.Ext.trans (fun _ _ h => h) (by kernel_rfl) (by kernel_rfl) (by kernel_rfl) [(2, .det (.pointer (some ⟨w.heap.size, 0, none⟩))), (3, .det (.pointer (some ⟨w.heap.size + 1, 0, none⟩))), (7, .det (.pointer (some ⟨q, 0, none⟩))), (8, .det (.int .i64 p))] (YReg.base_cons rfl (YReg.base_cons rfl (YReg.base_cons rfl (YReg.base_cons rfl YReg.base_nil)))) ?_
        repeat (first
          | (refine YReg.walk_move (by decide) YReg.Ext.refl rfl rfl _ rfl (by kernel_rfl) (by kernel_rfl) ?_)
          | (refine YReg.run_1 (by decide) YReg.Ext.refl rfl rfl _ rfl (by kernel_rfl) (by kernel_rfl) ?_; apply Exists.intro; refine ⟨fun ρ W hE h1 => ?_, ?_⟩; (first | (go_simp; done) | (go_simp; rfl)))
          | (refine YReg.run_2 (by decide) YReg.Ext.refl rfl rfl rfl _ rfl (by kernel_rfl) (by kernel_rfl) ?_; apply Exists.intro; refine ⟨fun ρ W hE h1 h2 => ?_, ?_⟩; (first | (go_simp; done) | (go_simp; rfl))))
        rw [wrap_id (x := a + a') (by omega) (by omega), wrap_id (x := b + b') (by omega) (by omega), wrap_id (x := c + c') (by omega) (by omega), wrap_id (x := d + d') (by omega) (by omega), wrap_id (x := f + f') (by omega) (by omega), wrap_id (x := g + g') (by omega) (by omega)]
        refine YReg.walk_det (by decide) (rep (a + a') (b + b') (c + c') (d + d') p (f + f') (g + g')) _ rfl (by kernel_rfl) (by kernel_rfl) ?_ ?_
        · intro ρ W hG hk
          have k67 : ρ 67 = .int .i64 (a + a') := hk 67 (by decide)
          have k72 : ρ 72 = .int .i64 (b + b') := hk 72 (by decide)
          have k77 : ρ 77 = .int .i64 (c + c') := hk 77 (by decide)
          have k82 : ρ 82 = .int .i64 (d + d') := hk 82 (by decide)
          have k83 : ρ 83 = .int .i64 (p) := hk 83 (by decide)
          have k88 : ρ 88 = .int .i64 (f + f') := hk 88 (by decide)
          have k93 : ρ 93 = .int .i64 (g + g') := hk 93 (by decide)
          refine up_of YReg.Ext.refl ?_
          go_simp
        repeat (first
          | (refine YReg.walk_move (by decide) YReg.Ext.refl rfl rfl _ rfl (by kernel_rfl) (by kernel_rfl) ?_)
          | (refine YReg.run_1 (by decide) YReg.Ext.refl rfl rfl _ rfl (by kernel_rfl) (by kernel_rfl) ?_; apply Exists.intro; refine ⟨fun ρ W hE h1 => ?_, ?_⟩; (first | (go_simp; done) | (go_simp; rfl)))
          | (refine YReg.run_2 (by decide) YReg.Ext.refl rfl rfl rfl _ rfl (by kernel_rfl) (by kernel_rfl) ?_; apply Exists.intro; refine ⟨fun ρ W hE h1 h2 => ?_, ?_⟩; (first | (go_simp; done) | (go_simp; rfl))))
        refine YReg.walk_calld (by decide) (c := .int .i64 ((c + d - a - b) + (c' + d' - a' - b'))) (fun W hE => (saved_walk (a + a') (b + b') (c + c') (d + d') p (f + f') (g + g') (by omega) (by omega) (by omega) (by omega) (by omega) (by omega) (by omega) (by omega) W).mono (fun r W' ⟨h1, h2⟩ => ⟨_, h1, h2, by congr 1; omega⟩)) rfl (by kernel_rfl) rfl _ rfl (by kernel_rfl) (by kernel_rfl) ?_
        repeat (first
          | (refine YReg.walk_move (by decide) YReg.Ext.refl rfl rfl _ rfl (by kernel_rfl) (by kernel_rfl) ?_)
          | (refine YReg.run_1 (by decide) YReg.Ext.refl rfl rfl _ rfl (by kernel_rfl) (by kernel_rfl) ?_; apply Exists.intro; refine ⟨fun ρ W hE h1 => ?_, ?_⟩; (first | (go_simp; done) | (go_simp; rfl)))
          | (refine YReg.run_2 (by decide) YReg.Ext.refl rfl rfl rfl _ rfl (by kernel_rfl) (by kernel_rfl) ?_; apply Exists.intro; refine ⟨fun ρ W hE h1 h2 => ?_, ?_⟩; (first | (go_simp; done) | (go_simp; rfl))))
        refine YReg.walk_calld (by decide) (c := .int .i64 (c + d - a - b)) (fun W hE => (saved_walk a b c d p f g (by omega) (by omega) (by omega) (by omega) (by omega) (by omega) (by omega) (by omega) W).mono (fun r W' ⟨h1, h2⟩ => ⟨_, h1, h2, rfl⟩)) rfl (by kernel_rfl) rfl _ rfl (by kernel_rfl) (by kernel_rfl) ?_
        repeat (first
          | (refine YReg.walk_move (by decide) YReg.Ext.refl rfl rfl _ rfl (by kernel_rfl) (by kernel_rfl) ?_)
          | (refine YReg.run_1 (by decide) YReg.Ext.refl rfl rfl _ rfl (by kernel_rfl) (by kernel_rfl) ?_; apply Exists.intro; refine ⟨fun ρ W hE h1 => ?_, ?_⟩; (first | (go_simp; done) | (go_simp; rfl)))
          | (refine YReg.run_2 (by decide) YReg.Ext.refl rfl rfl rfl _ rfl (by kernel_rfl) (by kernel_rfl) ?_; apply Exists.intro; refine ⟨fun ρ W hE h1 h2 => ?_, ?_⟩; (first | (go_simp; done) | (go_simp; rfl))))
        refine YReg.walk_calld (by decide) (c := .int .i64 (c' + d' - a' - b')) (fun W hE => (saved_walk a' b' c' d' e' f' g' (by omega) (by omega) (by omega) (by omega) (by omega) (by omega) (by omega) (by omega) W).mono (fun r W' ⟨h1, h2⟩ => ⟨_, h1, h2, rfl⟩)) rfl (by kernel_rfl) rfl _ rfl (by kernel_rfl) (by kernel_rfl) ?_
        refine YReg.run_2 (by decide) YReg.Ext.refl rfl rfl rfl _ rfl (by kernel_rfl) (by kernel_rfl) ?_
        refine ⟨.int .i64 ((c + d - a - b) + (c' + d' - a' - b')), fun ρ W hE h1 h2 => ?_, ?_⟩
        · have hwr := wrap_id (x := (c + d - a - b) + (c' + d' - a' - b')) (by omega) (by omega)
          go_simp
        repeat (first
          | (refine YReg.walk_move (by decide) YReg.Ext.refl rfl rfl _ rfl (by kernel_rfl) (by kernel_rfl) ?_)
          | (refine YReg.run_1 (by decide) YReg.Ext.refl rfl rfl _ rfl (by kernel_rfl) (by kernel_rfl) ?_; apply Exists.intro; refine ⟨fun ρ W hE h1 => ?_, ?_⟩; (first | (go_simp; done) | (go_simp; rfl)))
          | (refine YReg.run_2 (by decide) YReg.Ext.refl rfl rfl rfl _ rfl (by kernel_rfl) (by kernel_rfl) ?_; apply Exists.intro; refine ⟨fun ρ W hE h1 h2 => ?_, ?_⟩; (first | (go_simp; done) | (go_simp; rfl))))
        refine YReg.walk_calld (by decide) (c := .bool true) (fun W hE => (awake_walk W).mono (fun r W' ⟨h1, h2⟩ => ⟨_, h1, h2, rfl⟩)) rfl (by kernel_rfl) rfl _ rfl (by kernel_rfl) (by kernel_rfl) ?_
        repeat (first
          | (refine YReg.walk_move (by decide) YReg.Ext.refl rfl rfl _ rfl (by kernel_rfl) (by kernel_rfl) ?_)
          | (refine YReg.run_1 (by decide) YReg.Ext.refl rfl rfl _ rfl (by kernel_rfl) (by kernel_rfl) ?_; apply Exists.intro; refine ⟨fun ρ W hE h1 => ?_, ?_⟩; (first | (go_simp; done) | (go_simp; rfl)))
          | (refine YReg.run_2 (by decide) YReg.Ext.refl rfl rfl rfl _ rfl (by kernel_rfl) (by kernel_rfl) ?_; apply Exists.intro; refine ⟨fun ρ W hE h1 h2 => ?_, ?_⟩; (first | (go_simp; done) | (go_simp; rfl))))
        intro ρ W' hE _
        have hfin := Aside0.mk (hW2.out.trans (((Below.refl W2.heap.size W2).drew.trans hE).mono hW2.out.size))
        simp only [Act.put, List.setIfInBounds_toArray, List.set_cons_zero, List.set_cons_succ]
        clear hE hA2 hB2 hC2 hW2 ca0 cb0 cc0 ca1 cb1 cc1 ca2 cb2 cc2 ca3 cb3 cc3 ca4 cb4 cc4 ca5 cb5 cc5 ca6 cb6 cc6
        go_wp2
        go_ret
        exact ⟨rfl, hfin.out⟩
end Go.Proofs.YtahlmllchpfkdaaGreat.S
