/- The walk of the law OrderAll. -/
import Derived.Test.YtnncomhgclffaaaOBody
import Derived.Sort.CutIn
import Derived.Test.YtnncomhgclffaaaOFence
namespace Go.Proofs.Ytnncomhgclffaaa.O
open Go.RowKit Go.Shelf Go.OIter Go.Proofs.YtnncomhgclffaaaW.PrintWords Go.Proofs.Ytnncomhgclffaaa.POrderAll

attribute [local go_sem] Oper.semAt_some
attribute [local go_sem high] seq_nil
attribute [local go_sem] OReg.envOf

/-- Worlds that differ by draws alone. -/
def Dr (A C : World) : Prop := ∃ q, C = A.drewN q
theorem Dr.refl (A : World) : Dr A A := ⟨0, rfl⟩
theorem Dr.trans (A B C : World) (h : Dr A B) (k : Dr B C) : Dr A C := by
  obtain ⟨q, rfl⟩ := h
  obtain ⟨q2, rfl⟩ := k
  exact ⟨q + q2, by simp [World.drewN, Nat.add_assoc]⟩
theorem Dr.cell {A C : World} (h : Dr A.drew C) (p : Addr) : C.cell? p = A.cell? p := by
  obtain ⟨q, rfl⟩ := h
  rfl

theorem bs_start (w : World) (n st : Int) (q : Nat) : Bs w n st 0 ((((((w.alloc (.cells #[.int .i64 n] 3)).alloc (.cells #[.int .i64 st] 3)).alloc (.cells #[.bool false] 4)).drewN q).alloc (.cells #[.int .i64 n] 3)).alloc (.cells #[.int .i64 0] 3)) ∧
    Boxed ((((((w.alloc (.cells #[.int .i64 n] 3)).alloc (.cells #[.int .i64 st] 3)).alloc (.cells #[.bool false] 4)).drewN q).alloc (.cells #[.int .i64 n] 3)).alloc (.cells #[.int .i64 0] 3)) (w.heap.size + 1 + 1 + 1) 3 (.int .i64 n) ∧
    ((((((w.alloc (.cells #[.int .i64 n] 3)).alloc (.cells #[.int .i64 st] 3)).alloc (.cells #[.bool false] 4)).drewN q).alloc (.cells #[.int .i64 n] 3)).alloc (.cells #[.int .i64 0] 3)).heap.size = w.heap.size + 5 := by
  have b0 := Boxed.new w 3 (.int .i64 n)
  have b1 := Boxed.new (w.alloc (.cells #[.int .i64 n] 3)) 3 (.int .i64 st)
  have b2 := Boxed.new ((w.alloc (.cells #[.int .i64 n] 3)).alloc (.cells #[.int .i64 st] 3)) 4 (.bool false)
  have l2 := ((((Below.refl w.heap.size w).alloc (Nat.le_refl _) (.cells #[.int .i64 n] 3)).alloc (by simp) (.cells #[.int .i64 st] 3)).alloc (by simp; omega) (.cells #[.bool false] 4))
  have hs2 : (((w.alloc (.cells #[.int .i64 n] 3)).alloc (.cells #[.int .i64 st] 3)).alloc (.cells #[.bool false] 4)).heap.size = w.heap.size + 1 + 1 + 1 := by simp
  replace b0 := (b0.alloc (.cells #[.int .i64 st] 3)).alloc (.cells #[.bool false] 4)
  replace b1 := b1.alloc (.cells #[.bool false] 4)
  simp only [World.size_alloc] at b1 b2
  generalize ((w.alloc (.cells #[.int .i64 n] 3)).alloc (.cells #[.int .i64 st] 3)).alloc (.cells #[.bool false] 4) = V at b0 b1 b2 l2 hs2 ⊢
  have l3 : Below w.heap.size w (V.drewN q) := ⟨l2.1, l2.2, l2.3, l2.4, l2.5⟩
  have hs3 : (V.drewN q).heap.size = w.heap.size + 1 + 1 + 1 := hs2
  replace b0 : Boxed (V.drewN q) w.heap.size 3 (.int .i64 n) := b0
  replace b1 : Boxed (V.drewN q) (w.heap.size + 1) 3 (.int .i64 st) := b1
  replace b2 : Boxed (V.drewN q) (w.heap.size + 1 + 1) 4 (.bool false) := b2
  generalize V.drewN q = U at b0 b1 b2 l3 hs3 ⊢
  have b3 := Boxed.new U 3 (.int .i64 n)
  have b4 := Boxed.new (U.alloc (.cells #[.int .i64 n] 3)) 3 (.int .i64 0)
  simp only [World.size_alloc] at b3 b4
  rw [hs3] at b3 b4
  exact ⟨⟨(b0.alloc _).alloc _, (b1.alloc _).alloc _, (b2.alloc _).alloc _, b4, (l3.alloc (by omega) _).alloc (by simp; omega) _⟩, b3.alloc _, by simp [hs3]⟩

theorem law_post {w W3 : World} {n st : Int} {i D : Nat} (hB : Bs w n st i W3) (hD : w.heap.size + 5 ≤ D) (hK : W3.heap[D]? = some (.deferred (some []))) (t : Array Value) (ht : t[4]? = some (.pointer (some ⟨w.heap.size + 1 + 1, 0, none⟩))) :
    LeavesInM Fence.wide 5 Try.prog Try.f12 t (fun e w' => e = .returned (.bool true) ∧ Below w.heap.size w w') [{ target := .collected D, args := #[] }] .returning (W3.setCell ⟨w.heap.size + 1 + 1, 0, none⟩ (.bool true)) := by
  have y1 := hB.2.2.1.set (.bool true)
  have y2 : (W3.setCell ⟨w.heap.size + 1 + 1, 0, none⟩ (.bool true)).heap[D]? = some (.deferred (some [])) := (Below.heap_setCell _ _ _ _ (by show D ≠ w.heap.size + 1 + 1; omega)).trans hK
  have yb : Below w.heap.size w (W3.setCell ⟨w.heap.size + 1 + 1, 0, none⟩ (.bool true)) := hB.2.2.2.2.setCell (by show w.heap.size ≤ w.heap.size + 1 + 1; omega) _
  generalize W3.setCell ⟨w.heap.size + 1 + 1, 0, none⟩ (.bool true) = W4 at y1 y2 yb ⊢
  have z1 : Boxed (W4.putObj D (.deferred none)) (w.heap.size + 1 + 1) 4 (.bool true) := (World.putObj_heap_other (by omega)).trans y1
  have hc := z1.cell
  refine ⟨by simp, .inl ⟨_, _, rfl, run_takeDeferred y2, ?_⟩⟩
  exact ⟨_, by simp [results, Try.results12, go_sem, hc, ht], rfl, yb.trans (belowK_b (w := w) (Nat.le_refl _) W4 D _ _ (by omega) y2 rfl rfl)⟩

theorem want_walk (m : Nat) (hm : m ≤ 6) (W : World) (b : Nat) (v0 : Value) (h : Kd.R (Kd.int .i64) 3 W b (fun _ => True) v0 (firstL m)) :
    Calls Try.prog 61 #[.slice none 0 0, v0] W fun e W2 => ∃ A c, e = .returned (.slice A (fct m) c) ∧ Kd.V (Kd.slice 3 (Kd.int .i64)) 40 W2 0 (fun k => W.heap.size ≤ k) (.slice A (fct m) c) (orders m) ∧ Below W.heap.size W W2 := by
  obtain ⟨A, c, rfl⟩ := Kd.R_slice h
  obtain ⟨_, h1, h2⟩ := Kd.R_reads' h
  refine (retiaryref27_Orders.calls 64 (fun _ => False) none 0 [] A c (firstL m) (orders m) W (Kd.V_nil _ _ _ _ _) h2 h1 (orders_ok m hm)).mono ?_
  rintro e W2 ⟨v, rfl, hN, hb⟩
  obtain ⟨A', c', rfl⟩ := Kd.N_slice hN
  have hV := Kd.V_mono (ok' := fun k => W.heap.size ≤ k) (Kd.N_V (base' := 0) hN) (fun k hk => hk.elim False.elim id)
  rw [orders_len m hm] at hV ⊢
  exact ⟨A', c', rfl, hV, hb⟩

/-- The range that sees nothing. -/
def NI (w : World) (n st : Int) (pre : List El) (W : World) : Prop := pre = [] ∧ Bs w n st 0 W
theorem NI.low (w : World) (n st : Int) (B : Nat) (hB : w.heap.size + 5 ≤ B) : Low B (NI w n st) := fun _ _ _ h hc => ⟨h.1, h.2.below (hc.mono hB)⟩

set_option maxRecDepth 100000 in
set_option maxHeartbeats 4000000 in
theorem all_walk (n st : Int) (w : World) : Calls Try.prog 12 #[.int .i64 n, .int .i64 st] w fun e w' => e = .returned (.bool true) ∧ Below w.heap.size w w' := by
  have hro : Fence.wide.round = none := rfl
  have hcount : ∃ kk ee, order_Count.f 8 n = some (kk, ee) ∧ ((n < 0 ∧ kk = 0 ∧ ee = 13) ∨ (6 < n ∧ kk = 0 ∧ ee = 15) ∨ ∃ m : Nat, n = m ∧ m ≤ 6 ∧ kk = fct m ∧ ee = 0) := by
    by_cases c1 : n < 0
    · exact ⟨0, 13, by simp [order_Count.f, c1], .inl ⟨c1, rfl, rfl⟩⟩
    · by_cases c2 : 6 < n
      · exact ⟨0, 15, by rw [order_Count.f, if_neg (by omega), if_pos c2], .inr (.inl ⟨c2, rfl, rfl⟩)⟩
      · obtain ⟨m, rfl⟩ := Int.eq_ofNat_of_zero_le (show 0 ≤ n by omega)
        exact ⟨_, _, count_ok m (by omega), .inr (.inr ⟨m, rfl, by omega, rfl, rfl⟩)⟩
  obtain ⟨kk, ee, hcf, hcase⟩ := hcount
  have hC := Aside0.mk (fun W => order_Count.calls 8 n kk ee W hcf)
  have hst := Aside0.mk (bs_start w n st)
  clear hcf
  replace hcase := Aside0.mk hcase
  refine (callsIn_wide (n := 5)).1 (callsIn_of_wp_marks Try.func12 rfl trivial (wpIn_wide.2 ?_) hro)
  simp only [Try.ntmps12, List.size_toArray, List.length_cons, List.length_nil, Nat.reduceAdd, Nat.reduceSub, Array.replicate_succ, Array.replicate_zero, List.push_toArray, List.append_toArray, List.nil_append, List.cons_append]
  go_upto_region 6 with (first | (go_at_call 58; refine (hC.out _).mono ?_; rintro e w2 ⟨rfl, q, rfl⟩) | (go_at_call 59; refine (orders_fn _ _).mono ?_; rintro e w2 ⟨rfl, rfl⟩))
  obtain ⟨hB, hN, hs⟩ := hst.out q
  have c0 := hB.1.cell
  generalize (((((w.alloc (.cells #[.int .i64 n] 3)).alloc (.cells #[.int .i64 st] 3)).alloc (.cells #[.bool false] 4)).drewN q).alloc (.cells #[.int .i64 n] 3)).alloc (.cells #[.int .i64 0] 3) = W2 at hB hN hs c0 ⊢
  clear hC hst
  have hNone : ∀ c : Int, order_Count.f 0 n = some (0, c) → c ≠ 0 → Iter Fence.wide (5 - 1) Try.prog 97 #[.pointer (some ⟨w.heap.size + 1 + 1 + 1, 0, none⟩)] [] 0 3 W2 := fun c h1 h2 => none_iter (5 - 1) (by decide) _ n c h1 h2 0 W2 hN
  replace hB := Aside0.mk hB
  replace hs := Aside0.mk hs
  rcases hcase.out with ⟨c, rfl, rfl⟩ | ⟨c, rfl, rfl⟩ | ⟨m, rfl, hm, rfl, rfl⟩
  · have d0 : decide (n < 0) = true := decide_eq_true c
    have hIt := hNone 13 (count_neg n c) (by decide)
    replace hIt := Aside0.mk hIt
    clear hNone hcase
    replace c := Aside0.mk c
    go_wp2
    refine (wpIn_wide (n := 5)).1 ?_
    refine' OIter.wpIn_range hro (by decide) (gf := 97) (lb := #[.pointer (some ⟨w.heap.size + 1 + 1 + 1, 0, none⟩)]) rfl trivial (enters_of Try.func97 (by kernel_rfl) rfl)
      hIt.out rfl (NI w n st) (fun _ _ _ => False) (NI.low w n st _ (by have := hs.out; omega)) (fun _ _ _ _ h _ => h) ⟨rfl, hB.out⟩ _ ?assign ?body ?done ?stop
    case assign =>
      intro l x W K hK
      gi_wp2
      exact hK
    case body =>
      rintro l pre x W hI ⟨g1, _⟩
      cases g1
    case done =>
      rintro D ys W hD hl ⟨_, hB3⟩ hK
      have c4 := hB3.2.2.2.1.cell
      have c0 := hB3.1.cell
      have hAw := Aside0.mk (awake_walk W)
      have hD' := Aside0.mk (show w.heap.size + 5 ≤ D from by have := hs.out; omega)
      have hfin : Aside0 (∀ W3, Below W.heap.size W W3 → Bs w n st 0 W3 ∧ W3.heap[D]? = some (.deferred (some []))) := ⟨fun W3 hb => ⟨hB3.below (hb.mono hB3.lt), (hb.block _ (Array.getElem?_eq_some_iff.1 hK).1).trans hK⟩⟩
      replace hB3 := Aside0.mk hB3
      clear hB hs hIt hD hl
      go_wp2_with (go_at_call 60; refine hAw.out.mono ?_; rintro e w5 ⟨rfl, hb5⟩; have hf5 := (hfin.out w5 hb5).1.2.2.1.frozen; have hg5 := (hfin.out w5 hb5).1.2.2.1.cell)
      exact law_post (hfin.out _ hb5).1 hD'.out (hfin.out _ hb5).2 _ rfl
    case stop =>
      rintro D c pre W _ h _
      exact h.elim
  · have d0 : decide (n < 0) = false := decide_eq_false (by omega)
    have d1 : decide (6 < n) = true := decide_eq_true c
    have hIt := hNone 15 (count_big n c) (by decide)
    replace hIt := Aside0.mk hIt
    clear hNone hcase
    replace c := Aside0.mk c
    go_wp2
    refine (wpIn_wide (n := 5)).1 ?_
    refine' OIter.wpIn_range hro (by decide) (gf := 97) (lb := #[.pointer (some ⟨w.heap.size + 1 + 1 + 1, 0, none⟩)]) rfl trivial (enters_of Try.func97 (by kernel_rfl) rfl)
      hIt.out rfl (NI w n st) (fun _ _ _ => False) (NI.low w n st _ (by have := hs.out; omega)) (fun _ _ _ _ h _ => h) ⟨rfl, hB.out⟩ _ ?assign ?body ?done ?stop
    case assign =>
      intro l x W K hK
      gi_wp2
      exact hK
    case body =>
      rintro l pre x W hI ⟨g1, _⟩
      cases g1
    case done =>
      rintro D ys W hD hl ⟨_, hB3⟩ hK
      have c4 := hB3.2.2.2.1.cell
      have c0 := hB3.1.cell
      have hAw := Aside0.mk (awake_walk W)
      have hD' := Aside0.mk (show w.heap.size + 5 ≤ D from by have := hs.out; omega)
      have hfin : Aside0 (∀ W3, Below W.heap.size W W3 → Bs w n st 0 W3 ∧ W3.heap[D]? = some (.deferred (some []))) := ⟨fun W3 hb => ⟨hB3.below (hb.mono hB3.lt), (hb.block _ (Array.getElem?_eq_some_iff.1 hK).1).trans hK⟩⟩
      replace hB3 := Aside0.mk hB3
      clear hB hs hIt hD hl
      go_wp2_with (go_at_call 60; refine hAw.out.mono ?_; rintro e w5 ⟨rfl, hb5⟩; have hf5 := (hfin.out w5 hb5).1.2.2.1.frozen; have hg5 := (hfin.out w5 hb5).1.2.2.1.cell)
      exact law_post (hfin.out _ hb5).1 hD'.out (hfin.out _ hb5).2 _ rfl
    case stop =>
      rintro D c pre W _ h _
      exact h.elim
  · have d0 : decide ((m : Int) < 0) = false := decide_eq_false (by omega)
    have d1 : decide (6 < (m : Int)) = false := decide_eq_false (by omega)
    clear hNone hcase
    have hF := Aside0.mk (fun W => POrderAll.retiaryref27_First.calls 8 (m : Int) (firstL m) W (first_ok m hm))
    have hO := Aside0.mk (fun W b v0 h => want_walk m hm W b v0 h)
    replace hN := Aside0.mk hN
    go_upto_block 1 with (first | (go_at_call 62; refine (hF.out _).mono ?_; rintro e w2 ⟨v0, rfl, hv0, hb0⟩) | (go_at_call 61; refine (hO.out _ _ _ hv0).mono ?_; rintro e w3 ⟨A, cw, rfl, hV, hb1⟩))
    have h5 : w.heap.size + 5 ≤ w2.heap.size := by have := hs.out; have := hb0.size; omega
    have h1 : w2.heap.size ≤ w3.heap.size := hb1.size
    have hN4 : (w3.alloc (.cells #[.slice A (fct m) cw] 98)).heap.size = w3.heap.size + 1 := by simp
    have hI0 : Aside0 (OI w m st w2.heap.size (w3.heap.size + 1) w3.heap.size A cw [] (w3.alloc (.cells #[.slice A (fct m) cw] 98))) := ⟨⟨Nat.zero_le _,
      (hB.out.below (((hb0.mono (by have := hs.out; omega)).trans (hb1.mono h5)).alloc (by omega) _)),
      Boxed.new w3 98 (.slice A (fct m) cw), Kd.V_mono (Kd.V_alloc (Kd.V_bound hV) _) (fun k hk => ⟨hk.1, by have := hk.2; omega⟩)⟩⟩
    have hNn : Boxed (w3.alloc (.cells #[.slice A (fct m) cw] 98)) (w.heap.size + 1 + 1 + 1) 3 (.int .i64 m) := (show Boxed w3 (w.heap.size + 1 + 1 + 1) 3 (.int .i64 m) from (hb1.block _ (by omega)).trans ((hb0.block _ (by have := hs.out; omega)).trans hN.out)).alloc _
    generalize w2.heap.size = B1 at h5 h1 hI0
    generalize w3.alloc (.cells #[.slice A (fct m) cw] 98) = W4 at hN4 hI0 hNn ⊢
    generalize w3.heap.size = wb at h1 hI0 hN4 ⊢
    clear hV hb0 hb1 hv0 hB hs hF hO hN
    have hIt := orders_iter (5 - 1) (by decide) (w.heap.size + 1 + 1 + 1) m hm W4 hNn
    refine (wpIn_wide (n := 5)).1 ?_
    refine' OIter.wpIn_range hro (by decide) (gf := 97) (lb := #[.pointer (some ⟨w.heap.size + 1 + 1 + 1, 0, none⟩)]) rfl trivial (enters_of Try.func97 (by kernel_rfl) rfl)
      hIt rfl (OI w m st B1 (wb + 1) wb A cw) (OX w m st B1 (wb + 1) wb A cw) (by rw [hN4]; exact OI.low h5 h1 (by omega)) (fun c => by rw [hN4]; exact OX.low h5 h1 (by omega) c) hI0.out _ ?assign ?body ?done ?stop
    case assign =>
      intro l x W K hK
      gi_wp2
      exact hK
    case body =>
      clear hI0 hNn hIt
      rintro l pre ⟨xs, xv⟩ W hI ⟨g1, g2, ⟨g, cap, g3⟩, g4⟩
      dsimp only at g1 g2 g3 g4 ⊢
      subst g3
      have hi : pre.length < fct m := by
        have := (List.getElem?_eq_some_iff.1 g1).1
        rwa [orders_len m hm] at this
      have hxs : (orders m).getD pre.length [] = xs := by simp [List.getD, g1]
      rw [hN4] at g4 ⊢
      obtain ⟨hgB, hgl⟩ := row_at g4
      have hJ := Aside0.mk (OJ.start hI g4 g2)
      have c0 := hI.2.1.1.cell
      have c8 := hI.2.1.2.2.2.1.cell
      have c9 := hI.2.2.1.cell
      have di : decide ((fct m : Int) ≤ (pre.length : Int)) = false := decide_eq_false (by omega)
      replace hxs := Aside0.mk hxs
      replace hI := Aside0.mk hI
      clear g1 g2 g4
      gi_wp2
      gi_loopg [73] m (fun kq v73 wr => ∃ k : Nat, v73 = .int .i64 k ∧ k ≤ m ∧ kq = m - k ∧ Aside0 (OJ w m st B1 (wb + 1) wb A cw pre.length g cap xs W k wr))
      case atStart => exact ⟨0, rfl, by omega, by omega, hJ⟩
      case round =>
        clear hJ c0 c8 c9 hI di
        obtain ⟨k, rfl, hk, rfl, hJ⟩ := hrel
        by_cases hlt : k < m
        · obtain ⟨ad, a0, cc, e, r1, r2⟩ := hJ.out.2.1.read hm hi hlt
          subst e
          rw [hxs.out] at r2
          have c1 := hJ.out.at hlt
          have c8 := hJ.out.1.2.2.2.1.cell
          have c9 := hJ.out.2.1.1.cell
          have f1 := hJ.out.free k
          have wk := wr1 k (by omega)
          generalize xs.getD k 0 = y at c1 r2
          have hst := Aside0.mk (fun q => (hJ.out.drewN (by omega) (by omega) q).store h5 h1 (by omega) (by omega) (.int .i64 99))
          clear hJ
          have k1 : ∀ W', Dr wr.drew W' → W'.cell? ⟨g, k, none⟩ = some (.int .i64 y) := fun W' h => (h.cell _).trans c1
          have k2 : ∀ W', Dr wr.drew W' → W'.cell? ⟨wb, 0, none⟩ = some (.slice (some ad) (fct m) cw) := fun W' h => (h.cell _).trans c9
          have k3 : ∀ W', Dr wr.drew W' → W'.cell? ⟨w.heap.size + 1 + 1 + 1 + 1, 0, none⟩ = some (.int .i64 (pre.length : Nat)) := fun W' h => (h.cell _).trans c8
          have k4 : ∀ W', Dr wr.drew W' → W'.cell? (ad.add pre.length) = some (.slice (some a0) m cc) := fun W' h => (h.cell _).trans r1
          have k5 : ∀ W', Dr wr.drew W' → W'.cell? (a0.add k) = some (.int .i64 y) := fun W' h => (h.cell _).trans r2
          have hk2 : (k : Int) < m := by omega
          have hi2 : (pre.length : Int) < fct m := by omega
          gi_upto_region 18 with fail
          gi_cut [87] from 119 (fun a wx => a = .bool false ∧ ∃ q, wx = wr.drewN q)
          case first =>
            refine OReg.wpIn_region Dr Dr.refl Dr.trans (by kernel_rfl) (by kernel_rfl) (by kernel_rfl) [(8, .det (.pointer (some ⟨w.heap.size + 1 + 1 + 1 + 1, 0, none⟩))), (9, .det (.pointer (some ⟨wb, 0, none⟩))), (10, .det (.slice (some ⟨g, 0, none⟩) m cap)), (11, .det (.int .i64 (k : Int)))] (OReg.base_cons rfl (OReg.base_cons rfl (OReg.base_cons rfl (OReg.base_cons rfl OReg.base_nil)))) ?_
            repeat (first
              | (refine OReg.walk_move Dr.refl rfl rfl _ rfl (by kernel_rfl) (by kernel_rfl) ?_)
              | (refine OReg.run_1 Dr.refl rfl rfl _ rfl (by kernel_rfl) (by kernel_rfl) ?_; apply Exists.intro; refine ⟨fun ρ W hE h1 => ?_, ?_⟩; (go_simp; try rfl))
              | (refine OReg.run_2 Dr.refl rfl rfl rfl _ rfl (by kernel_rfl) (by kernel_rfl) ?_; apply Exists.intro; refine ⟨fun ρ W hE h1 h2 => ?_, ?_⟩; (go_simp; try rfl)))
            intro ρ W' hE _
            replace hE := Aside0.mk (Dr.trans _ _ _ (show Dr wr wr.drew from ⟨1, rfl⟩) hE)
            simp only [Act.put, List.setIfInBounds_toArray, List.set_cons_zero, List.set_cons_succ]
            clear k1 k2 k3 k4 k5
            gi_wp2_with fail
            gi_meet
            exact ⟨rfl, hE.out⟩
          case rest =>
            obtain ⟨rfl, q, rfl⟩ := hcut
            clear k1 k2 k3 k4 k5 r1 r2 c8 c9
            gi_wp2
            gi_roundg (m - (k + 1))
            case measure => omega
            case rel => exact ⟨k + 1, by simp, by omega, rfl, ⟨hst.out q⟩⟩
        · obtain rfl : k = m := by omega
          have c8 := hJ.out.1.2.2.2.1.cell
          have f8 := hJ.out.1.2.2.2.1.frozen
          have hnx := hJ.out.1.next (pre.length + 1)
          have e1 : ((pre.length + 1 : Nat) : Int) = (pre.length : Int) + 1 := by omega
          have wk : wrap64 ((pre.length : Int) + 1) = (pre.length : Int) + 1 := by
            have := (fct_small k hm).2
            unfold wrap64
            omega
          rw [e1] at hnx
          have c8' := hnx.2.2.2.1.cell
          have c3' := hnx.2.1.cell
          rw [e1] at c8'
          have hfr := Aside0.mk (fr_low hJ.out.2.2.1 ⟨w.heap.size + 1 + 1 + 1 + 1, 0, none⟩ (by show w.heap.size + 1 + 1 + 1 + 1 < wb + 1; omega) (.int .i64 ((pre.length : Int) + 1)))
          have hwv := Aside0.mk (hJ.out.2.1.step (W' := wr.setCell ⟨w.heap.size + 1 + 1 + 1 + 1, 0, none⟩ (.int .i64 ((pre.length : Int) + 1))) (fun b hb _ => Below.heap_setCell _ _ _ b (by show b ≠ w.heap.size + 1 + 1 + 1 + 1; omega)) h1 (by omega))
          replace hnx := Aside0.mk hnx
          clear hJ hk hlt hxs
          by_cases hst : (pre.length : Int) + 1 = st
          · have hse : ((pre.length : Int) + 1 == st) = true := beq_iff_eq.2 hst
            have hst' := Aside0.mk hst
            clear hst
            gi_wp2
            exact ⟨hfr.out, rfl, by rw [List.length_append]; simpa using hst'.out, by rw [List.length_append]; simp; omega, by rw [List.length_append]; exact hnx.out, hwv.out⟩
          · have hse : ((pre.length : Int) + 1 == st) = false := beq_eq_false_iff_ne.2 hst
            clear hst
            gi_wp2
            exact ⟨hfr.out, by rw [List.length_append]; simp; omega, by rw [List.length_append]; exact hnx.out, hwv.out⟩
    case done =>
      rintro D ys W hD hl hI hK
      rw [orders_len m hm] at hl
      have c8 := hI.2.1.2.2.2.1.cell
      have c9 := hI.2.2.1.cell
      have c3 := hI.2.1.2.1.cell
      have hAw := Aside0.mk (awake_walk W)
      have hD' := Aside0.mk (show w.heap.size + 5 ≤ D from by omega)
      have hfin : Aside0 (∀ W3, Below W.heap.size W W3 → Bs w m st ys.length W3 ∧ W3.heap[D]? = some (.deferred (some []))) := ⟨fun W3 hb => ⟨hI.2.1.below (hb.mono hI.2.1.lt), (hb.block _ (Array.getElem?_eq_some_iff.1 hK).1).trans hK⟩⟩
      clear hI hI0 hNn hIt hD hK
      rw [hl] at c8 hfin
      clear hl
      go_wp2_with (go_at_call 60; refine hAw.out.mono ?_; rintro e w5 ⟨rfl, hb5⟩; have hf5 := (hfin.out w5 hb5).1.2.2.1.frozen; have hg5 := (hfin.out w5 hb5).1.2.2.1.cell)
      exact law_post (hfin.out _ hb5).1 hD'.out (hfin.out _ hb5).2 _ rfl
    case stop =>
      rintro D c pre W hD ⟨rfl, hpst, hI⟩ hK
      have c8 := hI.2.1.2.2.2.1.cell
      have c9 := hI.2.2.1.cell
      have c3 := hI.2.1.2.1.cell
      have hAw := Aside0.mk (awake_walk W)
      have hD' := Aside0.mk (show w.heap.size + 5 ≤ D from by omega)
      have hfin : Aside0 (∀ W3, Below W.heap.size W W3 → Bs w m st pre.length W3 ∧ W3.heap[D]? = some (.deferred (some []))) := ⟨fun W3 hb => ⟨hI.2.1.below (hb.mono hI.2.1.lt), (hb.block _ (Array.getElem?_eq_some_iff.1 hK).1).trans hK⟩⟩
      clear hI hI0 hNn hIt hD hK
      by_cases hl : pre.length = fct m
      · rw [hl] at c8 hfin
        clear hl hpst
        gi_wp2
        go_wp2_with (go_at_call 60; refine hAw.out.mono ?_; rintro e w5 ⟨rfl, hb5⟩; have hf5 := (hfin.out w5 hb5).1.2.2.1.frozen; have hg5 := (hfin.out w5 hb5).1.2.2.1.cell)
        exact law_post (hfin.out _ hb5).1 hD'.out (hfin.out _ hb5).2 _ rfl
      · have hl1 : ((pre.length : Int) == (fct m : Int)) = false := beq_eq_false_iff_ne.2 (by omega)
        have hl2 : ((pre.length : Int) == st) = true := beq_iff_eq.2 hpst
        clear hl hpst
        gi_wp2
        go_wp2_with (go_at_call 60; refine hAw.out.mono ?_; rintro e w5 ⟨rfl, hb5⟩; have hf5 := (hfin.out w5 hb5).1.2.2.1.frozen; have hg5 := (hfin.out w5 hb5).1.2.2.1.cell)
        exact law_post (hfin.out _ hb5).1 hD'.out (hfin.out _ hb5).2 _ rfl
end Go.Proofs.Ytnncomhgclffaaa.O
