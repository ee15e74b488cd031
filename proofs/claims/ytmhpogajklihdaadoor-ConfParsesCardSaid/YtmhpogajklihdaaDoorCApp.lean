/- The library's 'BinarySearchFunc' at a row of layer 20 that rises. The closure of 'without', and the library's 'IndexFunc' with it. The library's 'IndexFunc' with the closure of 'without'. The library's 'DeleteFunc' with the closure of 'without'. 'without' and 'Diff' of layer 20. 'Same' of layer 20, with the library's 'EqualFunc'. 'small' of the laws. Ids appended to a new row of none. -/
import Derived.Test.YtmhpogajklihdaaDoorCSorts
import Derived.Laws.OwnMore
namespace Go.Proofs.YtmhpogajklihdaaDoor.C
open Go.RowKit Go.Shelf Go.Lib Go.Sort Go.Proofs.YtmhpogajklihdaaDoorW.PrintWords

attribute [local go_sem] XReg.envOf

/-- Is x in the list? -/
def hasM (L : List M) (x : M) : Bool := L.any fun y => cmpM y x == 0
theorem hasM_iff {L : List M} {x : M} : hasM L x = true ↔ x ∈ L := by
  unfold hasM
  rw [List.any_eq_true]
  constructor
  · rintro ⟨y, hy, e⟩
    have e2 : y = x := cmpM_zero (by simpa using e)
    rw [← e2]; exact hy
  · intro h
    exact ⟨x, h, by simp [cmpM_self]⟩
theorem search_end {L : List M} (hr : Rising L) {x : M} {i : Nat} (h1 : ∀ t (_ : t < L.length), t < i → ltM L[t] x) (h2 : ∀ t (_ : t < L.length), i ≤ t → ¬ ltM L[t] x) : x ∈ L ↔ ∃ h : i < L.length, cmpM L[i] x = 0 := by
  constructor
  · intro hx
    obtain ⟨t, ht, rfl⟩ := List.getElem_of_mem hx
    have hti : ¬ t < i := fun q => ltM_irrefl _ (h1 t ht q)
    by_cases e : t = i
    · subst e; exact ⟨ht, cmpM_self _⟩
    · have hi : i < L.length := by omega
      exact absurd (List.pairwise_iff_getElem.1 hr i t hi ht (by omega)) (h2 i hi (Nat.le_refl _))
  · rintro ⟨h, e⟩
    rw [← cmpM_zero e]
    exact List.getElem_mem h

section
variable {w : World} {v u : Value} {L : List M}

set_option maxHeartbeats 1000000 in
set_option maxRecDepth 100000 in
theorem search_walk (h : Reads w v L) (hl : L.length ≤ 100000) (hr : Rising L) (x : M) (hx : IdsAt w u x.2) : Calls Tryd.prog 51 #[v, .agg #[.string x.1, u], .func (.func 13) #[] #[]] w fun e w' => (∃ i : Int, e = .returned (.tuple #[.int .i64 i, .bool (hasM L x)])) ∧ Gr w w' := by
  have hA : Gr w (w.alloc (.cells #[.string x.1, u] 24)) := Gr.alloc _ _
  have p1 := blk_new w #[.string x.1, u] 24
  replace h := h.below hA.below
  replace hx := hx.below hA.below
  obtain ⟨A, cap, rfl, hm, hc⟩ := h
  obtain ⟨U, ucap, rfl, hU1, hU2⟩ := hx
  replace hx : IdsAt (w.alloc (.cells #[.string x.1, .slice U x.2.length ucap] 24)) (.slice U x.2.length ucap) x.2 := ⟨U, ucap, rfl, hU1, hU2⟩
  clear hU1 hU2
  replace hc := Aside.mk hc
  replace hA := Aside.mk hA
  replace hx := Aside.mk hx
  replace p1 := Aside.mk p1
  go_enter Tryd.func51, Tryd.ntmps51
  go_upto_region 1 with fail
  generalize hW : w.alloc (.cells #[.string x.1, .slice U x.2.length ucap] 24) = W at hA p1 hx hc ⊢
  clear hW
  generalize w.heap.size = nb at p1 ⊢
  go_wp2_with fail
  go_loopw [9, 10] (fun a b wr => ∃ i j : Nat, a = .int .i64 (i : Int) ∧ b = .int .i64 (j : Int) ∧ i ≤ j ∧ j ≤ L.length ∧ (∀ t (_ : t < L.length), t < i → ltM L[t] x) ∧ (∀ t (_ : t < L.length), j ≤ t → ¬ ltM L[t] x) ∧ Gr W wr) (fun a b _ => (intOf b).toNat - (intOf a).toNat)
  case atStart => exact ⟨0, L.length, rfl, rfl, Nat.zero_le _, Nat.le_refl _, fun _ _ h => absurd h (by omega), fun _ _ h => absurd h (by omega), Gr.refl _⟩
  case round =>
    obtain ⟨i, j, rfl, rfl, hij, hj, h1, h2, hG⟩ := hrel
    replace h1 := Aside.mk h1
    replace h2 := Aside.mk h2
    replace hG := Aside.mk hG
    by_cases hlt : i < j
    · go_upto_region 5 with fail
      obtain ⟨m, hm1, hm2, hm3⟩ : ∃ m : Nat, ((i : Int) + j) / 2 = (m : Int) ∧ i ≤ m ∧ m < j := ⟨(i + j) / 2, by omega, by omega, by omega⟩
      rw [hm1]
      clear hm1
      have hmL : m < L.length := by omega
      obtain ⟨b, o, um, rfl, hbl, g0, g1, g2⟩ := hc.out m hmL
      have hb : ∀ W', Gr wr.drew W' → Below W.heap.size W W' := fun W' h => (Gr.trans _ _ _ (Gr.trans _ _ _ hG.out (Gr.drew wr)) h).below
      have c0 : ∀ W', Gr wr.drew W' → W'.cell? ⟨b, o + m * 2, none⟩ = some (.string L[m].1) := fun W' h => ((hb W' h).cell (p := ⟨b, o + m * 2, none⟩) hbl).trans g0
      have c1 : ∀ W', Gr wr.drew W' → W'.cell? ⟨b, o + m * 2 + 1, none⟩ = some um := fun W' h => ((hb W' h).cell (p := ⟨b, o + m * 2 + 1, none⟩) hbl).trans g1
      have c2 : ∀ W', Gr wr.drew W' → W'.cell? ⟨nb, 0, none⟩ = some (.string x.1) := fun W' h => ((hb W' h).cell (p := ⟨nb, 0, none⟩) (blk_lt p1.out)).trans ((blk_cell p1.out 0).trans rfl)
      have c3 : ∀ W', Gr wr.drew W' → W'.cell? ⟨nb, 1, none⟩ = some (.slice U x.2.length ucap) := fun W' h => ((hb W' h).cell (p := ⟨nb, 1, none⟩) (blk_lt p1.out)).trans ((blk_cell p1.out 1).trans rfl)
      have k13 : ∀ W', Gr wr.drew W' → Calls Tryd.prog 13 (#[.agg #[.string L[m].1, um], .agg #[.string x.1, .slice U x.2.length ucap]] ++ #[]) W' fun e W2 => ∃ u, e = .returned u ∧ Gr W' W2 ∧ u = .int .i64 (cmpM L[m] x) := fun W' h => by
        rw [Array.append_empty]
        exact (compare_walk L[m] x (g2.below (hb W' h)) (hx.out.below (hb W' h))).mono fun e W2 ⟨h1, h2⟩ => ⟨_, h1, h2, rfl⟩
      obtain ⟨ua, uc, rfl, _, _⟩ := id g2
      replace k13 := Aside.mk k13
      clear g0 g1 g2 hb
      refine XReg.wp_region Gr Gr.refl Gr.trans (by kernel_rfl) (by kernel_rfl) [(0, .det (.slice (some ⟨b, o, none⟩) L.length cap)), (2, .det (.func (.func 13) #[] #[])), (4, .det (.pointer (some ⟨nb, 0, none⟩))), (11, .det (.int .i64 (m : Int)))] (XReg.base_cons rfl (XReg.base_cons rfl (XReg.base_cons rfl (XReg.base_cons rfl XReg.base_nil)))) ?_
      repeat (first
        | (refine XReg.walk_move Gr.refl rfl rfl _ rfl (by kernel_rfl) (by kernel_rfl) ?_)
        | (refine XReg.walk_callv k13.out rfl rfl (by kernel_rfl) rfl _ rfl (by kernel_rfl) (by kernel_rfl) ?_)
        | (refine XReg.run_1 Gr.refl rfl rfl _ rfl (by kernel_rfl) (by kernel_rfl) ?_; apply Exists.intro; refine ⟨fun ρ W hE h1 => ?_, ?_⟩; (go_simp; try rfl))
        | (refine XReg.run_2 Gr.refl rfl rfl rfl _ rfl (by kernel_rfl) (by kernel_rfl) ?_; apply Exists.intro; refine ⟨fun ρ W hE h1 h2 => ?_, ?_⟩; (go_simp; try rfl)))
      intro ρ W' hE _
      replace hE := Aside.mk (Gr.trans _ _ _ (Gr.drew wr) hE)
      simp only [Act.put, List.setIfInBounds_toArray, List.set_cons_zero, List.set_cons_succ]
      clear c0 c1 c2 c3 k13
      by_cases hd : cmpM L[m] x < 0
      · have hq : ∀ t (_ : t < L.length), t < m + 1 → ltM L[t] x := fun t ht h => by
          by_cases e : t = m
          · subst e; exact hd
          · exact cmpM_trans (List.pairwise_iff_getElem.1 hr t m ht hmL (by omega)) hd
        replace hq := Aside.mk hq
        rw [decide_eq_true hd]
        clear hd
        go_wp2_with fail
        go_roundw
        case rel => exact ⟨m + 1, j, by go_num, rfl, by omega, hj, hq.out, h2.out, Gr.trans _ _ _ hG.out hE.out⟩
        case measure => simp [intOf]; omega
      · have hq : ∀ t (_ : t < L.length), m ≤ t → ¬ ltM L[t] x := fun t ht h => by
          by_cases e : t = m
          · subst e; exact hd
          · exact fun q => hd (cmpM_trans (List.pairwise_iff_getElem.1 hr m t hmL ht (by omega)) q)
        replace hq := Aside.mk hq
        rw [decide_eq_false hd]
        clear hd
        go_wp2_with fail
        go_roundw
        case rel => exact ⟨i, m, rfl, rfl, by omega, by omega, h1.out, hq.out, Gr.trans _ _ _ hG.out hE.out⟩
        case measure => simp [intOf]; omega
    · obtain rfl : i = j := by omega
      have hend := search_end hr h1.out h2.out
      by_cases hi : i < L.length
      · have hres : hasM L x = (cmpM L[i] x == 0) := by
          by_cases e : cmpM L[i] x = 0
          · rw [hasM_iff.2 (hend.2 ⟨hi, e⟩), e]; rfl
          · have : ¬ hasM L x = true := fun q => e (hend.1 (hasM_iff.1 q)).2
            simp [this, e]
        replace hres := Aside.mk hres
        clear hend
        have hi2 : (i : Int) < L.length := by omega
        go_upto_region 8 with fail
        obtain ⟨b, o, um, rfl, hbl, g0, g1, g2⟩ := hc.out i hi
        have hb : ∀ W', Gr wr.drew W' → Below W.heap.size W W' := fun W' h => (Gr.trans _ _ _ (Gr.trans _ _ _ hG.out (Gr.drew wr)) h).below
        have c0 : ∀ W', Gr wr.drew W' → W'.cell? ⟨b, o + i * 2, none⟩ = some (.string L[i].1) := fun W' h => ((hb W' h).cell (p := ⟨b, o + i * 2, none⟩) hbl).trans g0
        have c1 : ∀ W', Gr wr.drew W' → W'.cell? ⟨b, o + i * 2 + 1, none⟩ = some um := fun W' h => ((hb W' h).cell (p := ⟨b, o + i * 2 + 1, none⟩) hbl).trans g1
        have c2 : ∀ W', Gr wr.drew W' → W'.cell? ⟨nb, 0, none⟩ = some (.string x.1) := fun W' h => ((hb W' h).cell (p := ⟨nb, 0, none⟩) (blk_lt p1.out)).trans ((blk_cell p1.out 0).trans rfl)
        have c3 : ∀ W', Gr wr.drew W' → W'.cell? ⟨nb, 1, none⟩ = some (.slice U x.2.length ucap) := fun W' h => ((hb W' h).cell (p := ⟨nb, 1, none⟩) (blk_lt p1.out)).trans ((blk_cell p1.out 1).trans rfl)
        have k13 : ∀ W', Gr wr.drew W' → Calls Tryd.prog 13 (#[.agg #[.string L[i].1, um], .agg #[.string x.1, .slice U x.2.length ucap]] ++ #[]) W' fun e W2 => ∃ u, e = .returned u ∧ Gr W' W2 ∧ u = .int .i64 (cmpM L[i] x) := fun W' h => by
          rw [Array.append_empty]
          exact (compare_walk L[i] x (g2.below (hb W' h)) (hx.out.below (hb W' h))).mono fun e W2 ⟨h1, h2⟩ => ⟨_, h1, h2, rfl⟩
        obtain ⟨ua, uc, rfl, _, _⟩ := id g2
        replace k13 := Aside.mk k13
        clear g0 g1 g2 hb
        refine XReg.wp_region Gr Gr.refl Gr.trans (by kernel_rfl) (by kernel_rfl) [(0, .det (.slice (some ⟨b, o, none⟩) L.length cap)), (2, .det (.func (.func 13) #[] #[])), (4, .det (.pointer (some ⟨nb, 0, none⟩))), (8, .det (.int .i64 (L.length : Int))), (9, .det (.int .i64 (i : Int)))] (XReg.base_cons rfl (XReg.base_cons rfl (XReg.base_cons rfl (XReg.base_cons rfl (XReg.base_cons rfl XReg.base_nil))))) ?_
        repeat (first
          | (refine XReg.walk_move Gr.refl rfl rfl _ rfl (by kernel_rfl) (by kernel_rfl) ?_)
          | (refine XReg.walk_assign Gr.refl rfl rfl _ rfl (by kernel_rfl) (by kernel_rfl) ?_)
          | (refine XReg.walk_callv k13.out rfl rfl (by kernel_rfl) rfl _ rfl (by kernel_rfl) (by kernel_rfl) ?_)
          | (refine XReg.run_1 Gr.refl rfl rfl _ rfl (by kernel_rfl) (by kernel_rfl) ?_; apply Exists.intro; refine ⟨fun ρ W hE h1 => ?_, ?_⟩; (go_simp; try rfl))
          | (refine XReg.run_2 Gr.refl rfl rfl rfl _ rfl (by kernel_rfl) (by kernel_rfl) ?_; apply Exists.intro; refine ⟨fun ρ W hE h1 h2 => ?_, ?_⟩; (go_simp; try rfl)))
        intro ρ W' hE _
        replace hE := Aside.mk (Gr.trans _ _ _ (Gr.drew wr) hE)
        simp only [Act.put, List.setIfInBounds_toArray, List.set_cons_zero, List.set_cons_succ]
        clear c0 c1 c2 c3 k13
        go_wp2_with fail
        go_ret2
        exact ⟨⟨_, by rw [hres.out]; rfl⟩, Gr.trans _ _ _ hA.out (Gr.trans _ _ _ hG.out hE.out)⟩
      · have hres : hasM L x = false := by
          have : ¬ hasM L x = true := fun q => hi (hend.1 (hasM_iff.1 q)).1
          simpa using this
        replace hres := Aside.mk hres
        clear hend
        have hi2 : ¬ (i : Int) < L.length := by omega
        go_upto_region 8 with fail
        refine XReg.wp_region Gr Gr.refl Gr.trans (by kernel_rfl) (by kernel_rfl) [(0, .det (.slice A L.length cap)), (2, .det (.func (.func 13) #[] #[])), (8, .det (.int .i64 (L.length : Int))), (9, .det (.int .i64 (i : Int)))] (XReg.base_cons rfl (XReg.base_cons rfl (XReg.base_cons rfl (XReg.base_cons rfl XReg.base_nil)))) ?_
        repeat (first
          | (refine XReg.walk_skip _ rfl (by kernel_rfl) (by rfl) ?_)
          | (refine XReg.walk_move Gr.refl rfl rfl _ rfl (by kernel_rfl) (by kernel_rfl) ?_)
          | (refine XReg.walk_assign Gr.refl rfl rfl _ rfl (by kernel_rfl) (by kernel_rfl) ?_)
          | (refine XReg.run_1 Gr.refl rfl rfl _ rfl (by kernel_rfl) (by kernel_rfl) ?_; apply Exists.intro; refine ⟨fun ρ W hE h1 => ?_, ?_⟩; (go_simp; try rfl))
          | (refine XReg.run_2 Gr.refl rfl rfl rfl _ rfl (by kernel_rfl) (by kernel_rfl) ?_; apply Exists.intro; refine ⟨fun ρ W hE h1 h2 => ?_, ?_⟩; (go_simp; try rfl)))
        intro ρ W' hE _
        replace hE := Aside.mk (Gr.trans _ _ _ (Gr.drew wr) hE)
        simp only [Act.put, List.setIfInBounds_toArray, List.set_cons_zero, List.set_cons_succ]
        go_wp2_with fail
        go_ret2
        exact ⟨⟨_, by rw [hres.out]; rfl⟩, Gr.trans _ _ _ hA.out (Gr.trans _ _ _ hG.out hE.out)⟩
end
end Go.Proofs.YtmhpogajklihdaaDoor.C
namespace Go.Proofs.YtmhpogajklihdaaDoor.C
open Go.RowKit Go.Shelf Go.Lib Go.Sort Go.Proofs.YtmhpogajklihdaaDoorW.PrintWords

section
variable {w : World} {v u : Value} {L : List M} {c : Nat}

/-- The row that the closure looks into. -/
structure Look (w : World) (c : Nat) (L : List M) : Prop where
  lt : c < w.heap.size
  at_ : ∃ v, w.cell? ⟨c, 0, none⟩ = some v ∧ Reads w v L
  few : L.length ≤ 100000
  up : Rising L
theorem Look.below {w w' : World} {c : Nat} {L : List M} (h : Look w c L) (hb : Below w.heap.size w w') : Look w' c L := by
  obtain ⟨v, h1, h2⟩ := h.at_
  exact ⟨Nat.lt_of_lt_of_le h.lt hb.size, ⟨v, (hb.cell (p := ⟨c, 0, none⟩) h.lt).trans h1, h2.below hb⟩, h.few, h.up⟩

set_option maxRecDepth 100000 in
theorem in_walk (h : Look w c L) (x : M) (hx : IdsAt w u x.2) : Calls Tryd.prog 50 #[.agg #[.string x.1, u], .pointer (some ⟨c, 0, none⟩)] w fun e w' => e = .returned (.bool (hasM L x)) ∧ Gr w w' := by
  have hA : Gr w (w.alloc (.cells #[.string x.1, u] 24)) := Gr.alloc _ _
  have p1 := blk_new w #[.string x.1, u] 24
  replace h := h.below hA.below
  replace hx := hx.below hA.below
  obtain ⟨v, hc, hR⟩ := h.at_
  have hS := Aside.mk (search_walk hR h.few h.up x hx)
  obtain ⟨A, cap, rfl, _, _⟩ := hR
  obtain ⟨U, ucap, rfl, _, _⟩ := hx
  have d0 := (blk_cell p1 0).trans rfl
  have d1 := (blk_cell p1 1).trans rfl
  replace hA := Aside.mk hA
  clear h p1
  go_enter Tryd.func50, Tryd.ntmps50
  go_wp2_with (go_at_call 51; refine hS.out.mono ?_; rintro e w2 ⟨⟨i, rfl⟩, hG⟩; replace hG := Aside.mk hG)
  go_ret
  exact ⟨rfl, Gr.trans _ _ _ hA.out hG.out⟩
end
end Go.Proofs.YtmhpogajklihdaaDoor.C
namespace Go.Proofs.YtmhpogajklihdaaDoor.C
open Go.RowKit Go.Shelf Go.Lib Go.Sort Go.Proofs.YtmhpogajklihdaaDoorW.PrintWords

section
variable {w : World} {v : Value} {K L : List M} {c : Nat}

set_option maxHeartbeats 1000000 in
set_option maxRecDepth 100000 in
theorem index_walk (h : Look w c L) (hK : Reads w v K) : Calls Tryd.prog 67 #[v, .func (.func 50) #[] #[.pointer (some ⟨c, 0, none⟩)]] w fun e w' => (∃ i : Int, e = .returned (.int .i64 i) ∧
    ((i = -1 ∧ ∀ x ∈ K, hasM L x = false) ∨ ∃ (j : Nat) (hj : j < K.length), i = j ∧ hasM L K[j] = true ∧ ∀ t (_ : t < K.length), t < j → hasM L K[t] = false)) ∧ Gr w w' := by
  obtain ⟨A, cap, rfl, hm, hc⟩ := hK
  replace hc := Aside.mk hc
  replace h := Aside.mk h
  go_enter Tryd.func67, Tryd.ntmps67
  go_wp2_with fail
  go_loopw [8] (fun a wr => ∃ i : Nat, a = .int .i64 (i : Int) ∧ i ≤ K.length ∧ (∀ t (_ : t < K.length), t < i → hasM L K[t] = false) ∧ Gr w wr) (fun a _ => K.length - (intOf a).toNat)
  case atStart => exact ⟨0, rfl, Nat.zero_le _, fun _ _ h => absurd h (by omega), Gr.refl _⟩
  case round =>
    obtain ⟨i, rfl, hi, h1, hG⟩ := hrel
    by_cases hlt : i < K.length
    · obtain ⟨b, o, u, rfl, hbl, g0, g1, g2⟩ := hc.out i hlt
      have c0 := (hG.below.cell (p := ⟨b, o + i * 2, none⟩) hbl).trans g0
      have c1 := (hG.below.cell (p := ⟨b, o + i * 2 + 1, none⟩) hbl).trans g1
      have hC := Aside.mk (in_walk (h.out.below hG.below) K[i] (g2.below hG.below))
      obtain ⟨U, ucap, rfl, _, _⟩ := g2
      replace h1 := Aside.mk h1
      replace hG := Aside.mk hG
      clear g0 g1
      generalize hp : hasM L K[i] = p at hC
      cases p
      · replace hp := Aside.mk hp
        go_wp2_with (go_at_call 50; refine hC.out.mono ?_; rintro e w2 ⟨rfl, hG2⟩; replace hG2 := Aside.mk hG2)
        go_roundw
        case rel =>
          refine ⟨i + 1, by go_num, by omega, fun t ht h => ?_, Gr.trans _ _ _ hG.out hG2.out⟩
          by_cases e : t = i
          · subst e; exact hp.out
          · exact h1.out t ht (by omega)
        case measure => simp [intOf]; omega
      · replace hp := Aside.mk hp
        go_wp2_with (go_at_call 50; refine hC.out.mono ?_; rintro e w2 ⟨rfl, hG2⟩; replace hG2 := Aside.mk hG2)
        go_ret
        exact ⟨⟨_, rfl, .inr ⟨i, hlt, rfl, hp.out, h1.out⟩⟩, Gr.trans _ _ _ hG.out hG2.out⟩
    · obtain rfl : i = K.length := by omega
      replace h1 := Aside.mk h1
      replace hG := Aside.mk hG
      go_wp2_with fail
      go_ret
      refine ⟨⟨_, rfl, .inl ⟨rfl, fun x hx => ?_⟩⟩, hG.out⟩
      obtain ⟨t, ht, rfl⟩ := List.getElem_of_mem hx
      exact h1.out t ht ht
end
end Go.Proofs.YtmhpogajklihdaaDoor.C
namespace Go.Proofs.YtmhpogajklihdaaDoor.C
open Go.RowKit Go.Shelf Go.Lib Go.Sort Go.Proofs.YtmhpogajklihdaaDoorW.PrintWords

/-- What is left without those of L. -/
def away (L : List M) (l : List P) : List P := l.filter fun p => !hasM L (key p)
theorem away_step (L : List M) (l : List P) (q : Nat) (hq : q < l.length) : away L (l.take (q + 1)) = if hasM L (key l[q]) then away L (l.take q) else away L (l.take q) ++ [l[q]] := by
  unfold away
  rw [List.take_succ_eq_append_getElem hq, List.filter_append]
  split <;> rename_i h <;> simp [h]
theorem away_all (L : List M) (l : List P) (h : ∀ p ∈ l, hasM L (key p) = false) : away L l = l := by
  unfold away
  rw [List.filter_eq_self]
  intro p hp
  rw [h p hp]; rfl

section
variable {w0 w W : World} {v : Value} {L : List M} {l : List P} {c : Nat}

set_option maxHeartbeats 4000000 in
set_option maxRecDepth 100000 in
theorem delete_walk (h : Look w0 c L) (hw : Below w0.heap.size w0 w) (hO : Owns w w0.heap.size 24 v l) (hl : l.length ≤ 100000) : Calls Tryd.prog 49 #[v, .func (.func 50) #[] #[.pointer (some ⟨c, 0, none⟩)]] w fun e w' => ∃ r, e = .returned r ∧ Owns w' w0.heap.size 24 r (away L l) ∧ Below w0.heap.size w0 w' := by
  have hI := Aside.mk (index_walk (h.below hw) hO.reads)
  by_cases hn : 0 < l.length
  · obtain ⟨g, cap, rfl, hBg, hR⟩ := hO.row hn
    have hD : Ids w w0.heap.size l := hO.2
    clear hO
    have hgl := hR.lt
    have hcap : l.length ≤ cap ∧ cap ≤ maxLen := by obtain ⟨_, _, _, _, h⟩ := hR; exact h
    have hmax : maxLen ≤ 9223372036854775807 := by decide
    have hws := hw.size
    replace h := Aside.mk h
    replace hw := Aside.mk hw
    replace hR := Aside.mk hR
    replace hD := Aside.mk hD
    go_enter Tryd.func49, Tryd.ntmps49
    go_wp2_with fail
    go_at_call 67
    refine hI.out.mono ?_
    rintro e w1 ⟨⟨i, rfl, hi⟩, hG⟩
    have hR1 := hR.out.below hG.below
    have hD1 := hD.out.below hG.below
    have hB1 := hw.out.trans (hG.below.mono hws)
    clear hR hD hG hI hw
    replace hB1 := Aside.mk hB1
    rcases hi with ⟨rfl, hnone⟩ | ⟨j, hj, rfl, hhas, hbef⟩
    · have e := away_all L l (fun p hp => hnone (key p) (List.mem_map_of_mem hp))
      replace e := Aside.mk e
      clear hnone
      have hO := hR1.owns hBg (k := l.length) (Nat.le_refl _)
      rw [List.take_length] at hO
      replace hO := Aside.mk hO
      replace hD1 := Aside.mk hD1
      go_wp2_with fail
      go_ret
      refine ⟨_, rfl, ?_, hB1.out⟩
      rw [e.out]
      exact ⟨hO.out, hD1.out⟩
    · have hjl : j < l.length := by simpa using hj
      have e1 : away L (l.take (j + 1)) = l.take j := by
        rw [away_step L l j hjl, if_pos (by simpa using hhas)]
        apply away_all
        intro p hp
        obtain ⟨t, ht, rfl⟩ := List.getElem_of_mem hp
        have ht2 : t < j := by rw [List.length_take] at ht; omega
        have := hbef t (by simp; omega) ht2
        simpa using this
      clear hhas hbef
      replace e1 := Aside.mk e1
      replace hR1 := Aside.mk hR1
      replace hD1 := Aside.mk hD1
      have hne : ((j : Int) == -1) = false := by rw [beq_eq_false_iff_ne]; omega
      go_wp2_with fail
      go_loopw [6, 5] (fun a b wr => ∃ (q p : Nat) (m : List P), a = .int .i64 (q : Int) ∧ b = .int .i64 (p : Int) ∧ q ≤ l.length ∧ p < q ∧ RowAt wr g cap m ∧ m.length = l.length ∧ m.take p = away L (l.take q) ∧ (∀ i, p ≤ i → m[i]? = l[i]?) ∧ Ids wr w0.heap.size l ∧ Below w0.heap.size w0 wr) (fun a _ _ => l.length - (intOf a).toNat)
      case atStart => exact ⟨j + 1, j, l, by go_num, rfl, by omega, by omega, hR1.out, rfl, e1.out.symm, fun _ _ => rfl, hD1.out, hB1.out⟩
      case round =>
        clear hR1 hD1 hB1 e1
        obtain ⟨q, p, m, rfl, rfl, hq, hpq, hRm, hml, htk, hrest, hIm, hBm⟩ := hrel
        by_cases hqN : q < l.length
        · have hst := away_step L l q hqN
          have ma : m[q]'(by omega) = l[q] := by
            have := hrest q (by omega)
            rw [List.getElem?_eq_getElem (by omega), List.getElem?_eq_getElem hqN] at this
            exact Option.some.inj this
          have c0 := hRm.cell0 (j := q) (by omega)
          have c1 := hRm.cell1 (j := q) (by omega)
          rw [ma] at c0 c1
          have hidq := hIm _ (List.getElem_mem hqN)
          obtain ⟨U, ucap, eU⟩ := owns_form hidq
          rw [eU] at c1
          clear ma
          go_upto_region 8 with fail
          have hA : Gr wr (wr.alloc (.cells #[.string l[q].1, .slice U l[q].2.1.length ucap] 24)) := Gr.alloc _ _
          have p1 := blk_new wr #[.string l[q].1, .slice U l[q].2.1.length ucap] 24
          have hRW := hRm.below hA.below
          have hIW := hIm.below hA.below
          have hBW := hBm.trans (hA.below.mono hBm.size)
          generalize wr.alloc (.cells #[.string l[q].1, .slice U l[q].2.1.length ucap] 24) = W1 at p1 hRW hIW hBW ⊢
          clear c0 c1 hRm hIm hBm hA
          generalize wr.heap.size = n at p1 ⊢
          have hidW := (hIW _ (List.getElem_mem hqN)).at_
          rw [eU] at hidW
          have hC := Aside.mk (in_walk (h.out.below hBW) (key l[q]) hidW)
          have d0 := (blk_cell p1 0).trans rfl
          have d1 := (blk_cell p1 1).trans rfl
          generalize hp : hasM L (key l[q]) = b at hC
          rw [hp] at hst
          replace hp := Aside.mk hp
          replace eU := Aside.mk eU
          replace htk := Aside.mk htk
          replace hst := Aside.mk hst
          replace hrest := Aside.mk hrest
          replace hRW := Aside.mk hRW
          replace hIW := Aside.mk hIW
          replace hBW := Aside.mk hBW
          replace p1 := Aside.mk p1
          clear hidq hidW
          cases b
          · go_upto_region 8 with fail
            go_wp2_with (go_at_call 50; refine hC.out.mono ?_; rintro e w2 ⟨rfl, hG2⟩; have f0 := (hG2.below.cell (p := ⟨n, 0, none⟩) (blk_lt p1.out)).trans d0; have f1 := (hG2.below.cell (p := ⟨n, 1, none⟩) (blk_lt p1.out)).trans d1; have hR4 := hRW.out.below hG2.below; have hI4 := Aside.mk (hIW.out.below hG2.below); have hB4 := Aside.mk (hBW.out.trans (hG2.below.mono hBW.out.size)); have hfr := hR4.frozen; have hp4 : p < m.length := (by omega); have hp5 : p < l.length := (by omega); have hR5 := hR4.store hp4 l[q]; rw [eU.out] at hR5; have hx0 := hR4.cell0 hp4; have hx1 := hR4.cell1 hp4; replace hR4 := Aside.mk hR4; replace hR5 := Aside.mk hR5; replace hG2 := Aside.mk hG2)
            go_roundw
            case rel =>
              refine ⟨q + 1, p + 1, m.set p l[q], by go_num, by go_num, by omega, by omega, hR5.out, by rw [List.length_set]; exact hml, ?_, fun i hi => ?_, hI4.out.row hR4.out (fun b hb => (Below.heap_setCell _ _ _ _ hb).trans (Below.heap_setCell _ _ _ _ hb)), hB4.out.trans (((Below.refl _ w2).setCell hBg _).setCell hBg _)⟩
              · rw [hst.out, List.take_succ_eq_append_getElem (by rw [List.length_set]; exact hp4), List.getElem_set_self, List.take_set_of_le (Nat.le_refl _), htk.out]
                rfl
              · rw [List.getElem?_set_ne (by omega)]
                exact hrest.out i (by omega)
            case measure => simp [intOf]; omega
          · go_wp2_with (go_at_call 50; refine hC.out.mono ?_; rintro e w2 ⟨rfl, hG2⟩; replace hG2 := Aside.mk hG2)
            go_roundw
            case rel => exact ⟨q + 1, p, m, by go_num, rfl, by omega, by omega, hRW.out.below hG2.out.below, hml, by rw [hst.out, htk.out]; rfl, hrest.out, hIW.out.below hG2.out.below, hBW.out.trans (hG2.out.below.mono hBW.out.size)⟩
            case measure => simp [intOf]; omega
        · obtain rfl : q = l.length := by omega
          rw [List.take_length] at htk
          have hp3 : p ≤ l.length := by omega
          obtain ⟨w3, hrun, hR3, hk3, hB3⟩ := run_clear hRm p (l.length - p) (cap - p) (by omega)
          have hI3 := Aside.mk (hIm.row hRm hk3)
          replace hB3 := Aside.mk (hBm.trans (hB3 _ hBg))
          replace hR3 := Aside.mk hR3
          replace htk := Aside.mk htk
          clear hRm hIm hBm hrest hk3
          go_wp2_with fail
          go_ret
          refine ⟨_, rfl, ⟨?_, fun x hx => hI3.out x (List.mem_filter.1 hx).1⟩, hB3.out⟩
          have hlen : (away L l).length = p := by rw [← htk.out, List.length_take]; omega
          have h3 := hR3.out
          rw [htk.out] at h3
          have := h3.owns hBg (k := p) (by omega)
          rw [List.take_of_length_le (by omega)] at this
          rw [hlen]
          exact this
  · have hnil : l = [] := List.eq_nil_of_length_eq_zero (by omega)
    subst hnil
    obtain ⟨a, cp, rfl⟩ := owns_form hO.1
    replace hO := Aside.mk hO
    replace hw := Aside.mk hw
    go_enter Tryd.func49, Tryd.ntmps49
    go_wp2_with fail
    go_at_call 67
    refine hI.out.mono ?_
    rintro e w1 ⟨⟨i, rfl, hi⟩, hG⟩
    have e1 : i = -1 := by
      rcases hi with ⟨e, _⟩ | ⟨j, hj, _⟩
      · exact e
      · simp at hj
    subst e1
    replace hG := Aside.mk hG
    go_wp2_with fail
    go_ret
    exact ⟨_, rfl, hO.out.below hG.out.below, hw.out.trans (hG.out.below.mono hw.out.size)⟩
end
end Go.Proofs.YtmhpogajklihdaaDoor.C
namespace Go.Proofs.YtmhpogajklihdaaDoor.C
open Go.RowKit Go.Shelf Go.Lib Go.Sort Go.Proofs.YtmhpogajklihdaaDoorW.PrintWords

theorem away_mem {L : List M} {l : List P} {x : M} : x ∈ (away L l).map key ↔ x ∈ l.map key ∧ x ∉ L := by
  unfold away
  constructor
  · intro h
    obtain ⟨p, hp, rfl⟩ := List.mem_map.1 h
    obtain ⟨h1, h2⟩ := List.mem_filter.1 hp
    refine ⟨List.mem_map_of_mem h1, fun q => ?_⟩
    rw [hasM_iff.2 q] at h2
    cases h2
  · rintro ⟨h, hn⟩
    obtain ⟨p, hp, rfl⟩ := List.mem_map.1 h
    refine List.mem_map_of_mem (List.mem_filter.2 ⟨hp, ?_⟩)
    cases e : hasM L (key p) with
    | false => rfl
    | true => exact absurd (hasM_iff.1 e) hn

section
variable {w : World} {v v2 : Value} {K L : List M}

set_option maxHeartbeats 1000000 in
set_option maxRecDepth 100000 in
theorem without_walk (hK : Reads w v K) (fK : Few K) (hL : Reads w v2 L) (fL : Few L) : Calls Tryd.prog 33 #[v, v2] w fun e w' => ∃ r l, e = .returned r ∧ Owns w' w.heap.size 24 r l ∧ Rising (l.map key) ∧ (∀ x, x ∈ l.map key ↔ x ∈ K ∧ x ∉ L) ∧ Below w.heap.size w w' := by
  have hA : Below w.heap.size w (w.alloc (.cells #[v2] 26)) := (Gr.alloc _ _).below
  have p1 := blk_new w #[v2] 26
  have hK0 := Aside.mk hK
  have hC := Aside.mk (csort_walk (hL.below hA) fL)
  obtain ⟨A, cap, rfl, _, _⟩ := hK
  obtain ⟨A2, cap2, rfl, _, _⟩ := hL
  have hn : w.heap.size < (w.alloc (.cells #[.slice A2 L.length cap2] 26)).heap.size := by simp
  go_enter Tryd.func33, Tryd.ntmps33
  go_upto_region 1 with fail
  generalize w.alloc (.cells #[.slice A2 L.length cap2] 26) = W at hA p1 hC hn ⊢
  have c0 := (blk_cell p1 0).trans rfl
  replace hA := Aside.mk hA
  go_wp2_with fail
  go_at_call 16
  refine hC.out.mono ?_
  rintro e w2 ⟨rY, lY, rfl, hOY, hrY, hmY, hBY, hlY⟩
  have hn2 := hn
  obtain ⟨n, hnw⟩ : ∃ n, n = w.heap.size := ⟨_, rfl⟩
  rw [← hnw] at p1 hn hn2 hA ⊢
  replace hnw := Aside.mk hnw
  obtain ⟨aY, cY, rfl⟩ := owns_form hOY.1
  have q1 : w2.heap[n]? = some (.cells #[.slice A2 L.length cap2] 26 (0, 0)) := (hBY.block n hn).trans p1
  have q2 := (blk_cell q1 0).trans rfl
  have q3 := blk_frozen q1
  have hAo := hA.out
  have hOY3 : Owns (w2.setCell ⟨n, 0, none⟩ (.slice aY lY.length cY)) W.heap.size 24 (.slice aY lY.length cY) lY := ⟨owns_move hOY.1 (fun b hb _ _ => Below.heap_setCell _ _ _ _ (by show b ≠ n; omega)), fun p hp => owns_move (hOY.2 p hp) (fun b hb _ _ => Below.heap_setCell _ _ _ _ (by show b ≠ n; omega))⟩
  have hB3 : Below n w (w2.setCell ⟨n, 0, none⟩ (.slice aY lY.length cY)) := (hAo.trans (hBY.mono (by omega))).setCell (Nat.le_refl _) _
  have q4 : (w2.setCell ⟨n, 0, none⟩ (.slice aY lY.length cY)).cell? ⟨n, 0, none⟩ = some (.slice aY lY.length cY) := (blk_cell (blk_set q1 0 _) 0).trans rfl
  have hn3 : n < (w2.setCell ⟨n, 0, none⟩ (.slice aY lY.length cY)).heap.size := blk_lt (blk_set q1 0 _)
  have hLk : Look (w2.setCell ⟨n, 0, none⟩ (.slice aY lY.length cY)) n (lY.map key) := ⟨hn3, ⟨_, q4, hOY3.reads⟩, by have := fL.1; rw [List.length_map]; omega, hrY⟩
  have hK3 := hK0.out.below (hB3.mono (by rw [hnw.out]; exact Nat.le_refl _))
  have hS := Aside.mk (csort_walk hK3 fK)
  replace hLk := Aside.mk hLk
  replace hB3 := Aside.mk hB3
  replace hmY := Aside.mk hmY
  clear hrY hBY hOY hOY3 hK3 q4 p1 hn hn2 hAo
  go_wp2_with fail
  generalize w2.setCell ⟨n, 0, none⟩ (.slice aY lY.length cY) = w3 at hS hLk hB3 hn3 ⊢
  go_at_call 16
  refine hS.out.mono ?_
  rintro e w4 ⟨rX, lX, rfl, hOX, hrX, hmX, hB4, hlX⟩
  have hD := Aside.mk (delete_walk hLk.out hB4 hOX (by have := fK.1; omega))
  obtain ⟨aX, cX, rfl⟩ := owns_form hOX.1
  replace hrX := Aside.mk hrX
  replace hmX := Aside.mk hmX
  clear hOX hB4 hS
  go_wp2_with fail
  go_at_call 49
  refine hD.out.mono ?_
  rintro e w5 ⟨r5, rfl, hO5, hB5⟩
  obtain ⟨a5, c5, rfl⟩ := owns_form hO5.1
  replace hO5 := Aside.mk hO5
  replace hB5 := Aside.mk hB5
  go_wp2_with fail
  go_ret
  have hs3 := hB3.out.size
  refine ⟨_, _, rfl, hO5.out.base (by rw [← hnw.out]; omega), ?_, fun x => ?_, by rw [← hnw.out]; exact hB3.out.trans (hB5.out.mono (by omega))⟩
  · refine hrX.out.sublist ?_
    exact (List.filter_sublist).map key
  · rw [← hmX.out x, ← hmY.out x]
    exact away_mem

set_option maxRecDepth 100000 in
theorem diff_walk (hK : Reads w v K) (fK : Few K) (hL : Reads w v2 L) (fL : Few L) : Calls Tryd.prog 17 #[v, v2] w fun e w' => ∃ r1 r2 l1 l2, e = .returned (.tuple #[r1, r2]) ∧ Owns w' w.heap.size 24 r1 l1 ∧ Rising (l1.map key) ∧ (∀ x, x ∈ l1.map key ↔ x ∈ K ∧ x ∉ L) ∧ Owns w' w.heap.size 24 r2 l2 ∧ Rising (l2.map key) ∧ (∀ x, x ∈ l2.map key ↔ x ∈ L ∧ x ∉ K) ∧ Below w.heap.size w w' := by
  have hA := Aside.mk (without_walk hK fK hL fL)
  have hK0 := Aside.mk hK
  have hL0 := Aside.mk hL
  obtain ⟨A, cap, rfl, _, _⟩ := hK
  obtain ⟨A2, cap2, rfl, _, _⟩ := hL
  go_enter Tryd.func17, Tryd.ntmps17
  go_wp2_with fail
  go_at_call 33
  refine hA.out.mono ?_
  rintro e w1 ⟨r1, l1, rfl, hO1, hr1, hm1, hB1⟩
  have hC := Aside.mk (without_walk (hL0.out.below hB1) fL (hK0.out.below hB1) fK)
  have hO1' := Aside.mk hO1
  replace hr1 := Aside.mk hr1
  replace hm1 := Aside.mk hm1
  obtain ⟨a1, c1, rfl⟩ := owns_form hO1.1
  have hs := hB1.size
  replace hB1 := Aside.mk hB1
  clear hO1
  go_wp2_with fail
  go_at_call 33
  refine hC.out.mono ?_
  rintro e w2 ⟨r2, l2, rfl, hO2, hr2, hm2, hB2⟩
  have hO3 := Aside.mk (hO1'.out.below hB2)
  have hO4 := Aside.mk (hO2.base hs)
  obtain ⟨a2, c2, rfl⟩ := owns_form hO2.1
  have hB3 := Aside.mk (hB1.out.trans (hB2.mono hs))
  replace hr2 := Aside.mk hr2
  replace hm2 := Aside.mk hm2
  clear hO2 hB2 hC hA
  go_wp2_with fail
  go_ret2
  exact ⟨_, _, _, _, rfl, hO3.out, hr1.out, hm1.out, hO4.out, hr2.out, hm2.out, hB3.out⟩
end
end Go.Proofs.YtmhpogajklihdaaDoor.C
namespace Go.Proofs.YtmhpogajklihdaaDoor.C
open Go.RowKit Go.Shelf Go.Lib Go.Sort Go.Proofs.YtmhpogajklihdaaDoorW.PrintWords

section
variable {w : World} {v v2 : Value} {K L : List M}

set_option maxHeartbeats 1000000 in
set_option maxRecDepth 100000 in
theorem equal_walk (hK : Reads w v K) (hL : Reads w v2 L) : Calls Tryd.prog 35 #[v, v2, .func (.func 32) #[] #[]] w fun e w' => e = .returned (.bool (decide (K = L))) ∧ Gr w w' := by
  obtain ⟨A, cap, rfl, hm, hc⟩ := hK
  obtain ⟨A2, cap2, rfl, hm2, hc2⟩ := hL
  replace hc := Aside.mk hc
  replace hc2 := Aside.mk hc2
  by_cases hlen : K.length = L.length
  · go_enter Tryd.func35, Tryd.ntmps35
    have hne : ((K.length : Int) != L.length) = false := by simp [hlen]
    replace hlen : K.length ≤ L.length ∧ L.length ≤ K.length := by omega
    go_wp2_with fail
    go_loopw [17] (fun a wr => ∃ i : Nat, a = .int .i64 (i : Int) ∧ i ≤ K.length ∧ K.take i = L.take i ∧ Gr w wr) (fun a _ => K.length - (intOf a).toNat)
    case atStart => exact ⟨0, rfl, Nat.zero_le _, rfl, Gr.refl _⟩
    case round =>
      obtain ⟨i, rfl, hi, h1, hG⟩ := hrel
      by_cases hlt : i < K.length
      · have hlt2 : i < L.length := by omega
        obtain ⟨b, o, u, rfl, hbl, g0, g1, g2⟩ := hc.out i hlt
        obtain ⟨b2, o2, u2, rfl, hbl2, k0, k1, k2⟩ := hc2.out i hlt2
        obtain ⟨U, uc, rfl, _, _⟩ := id g2
        obtain ⟨U2, uc2, rfl, _, _⟩ := id k2
        have x0 := (hG.below.cell (p := ⟨b, o + i * 2, none⟩) hbl).trans g0
        have x1 := (hG.below.cell (p := ⟨b, o + i * 2 + 1, none⟩) hbl).trans g1
        have hA1 : Gr w (wr.alloc (.cells #[.string K[i].1, .slice U K[i].2.length uc] 24)) := Gr.trans _ _ _ hG (Gr.alloc _ _)
        have y0 := (hA1.below.cell (p := ⟨b2, o2 + i * 2, none⟩) hbl2).trans k0
        have y1 := (hA1.below.cell (p := ⟨b2, o2 + i * 2 + 1, none⟩) hbl2).trans k1
        have hA2 : Gr w ((wr.alloc (.cells #[.string K[i].1, .slice U K[i].2.length uc] 24)).alloc (.cells #[.string L[i].1, .slice U2 L[i].2.length uc2] 24)) := Gr.trans _ _ _ hA1 (Gr.alloc _ _)
        have p1 := (Below.heap_alloc _ (.cells #[.string L[i].1, .slice U2 L[i].2.length uc2] 24) _ (by simp)).trans (blk_new wr #[.string K[i].1, .slice U K[i].2.length uc] 24)
        have p2 := blk_new (wr.alloc (.cells #[.string K[i].1, .slice U K[i].2.length uc] 24)) #[.string L[i].1, .slice U2 L[i].2.length uc2] 24
        rw [World.size_alloc] at p2
        have hC := Aside.mk (one_walk K[i] L[i] (g2.below hA2.below) (k2.below hA2.below))
        have d0 := (blk_cell p1 0).trans rfl
        have d1 := (blk_cell p1 1).trans rfl
        have d2 := (blk_cell p2 0).trans rfl
        have d3 := (blk_cell p2 1).trans rfl
        have t1 := List.take_succ_eq_append_getElem hlt
        have t2 := List.take_succ_eq_append_getElem hlt2
        replace hA2 := Aside.mk hA2
        replace t1 := Aside.mk t1
        replace t2 := Aside.mk t2
        replace h1 := Aside.mk h1
        clear g0 g1 g2 k0 k1 k2 hA1 p1 p2 hG
        by_cases hd : K[i] = L[i]
        · rw [decide_eq_true hd] at hC
          replace hd := Aside.mk hd
          go_wp2_with (go_at_call 32; refine hC.out.mono ?_; rintro e w2 ⟨rfl, hG2⟩; replace hG2 := Aside.mk hG2)
          go_roundw
          case rel => exact ⟨i + 1, by go_num, by omega, by rw [t1.out, t2.out, h1.out, hd.out], Gr.trans _ _ _ hA2.out hG2.out⟩
          case measure => simp [intOf]; omega
        · rw [decide_eq_false hd] at hC
          have e : decide (K = L) = false := decide_eq_false (fun q => hd (by subst q; rfl))
          replace e := Aside.mk e
          replace hd := Aside.mk hd
          go_wp2_with (go_at_call 32; refine hC.out.mono ?_; rintro e w2 ⟨rfl, hG2⟩; replace hG2 := Aside.mk hG2)
          go_ret
          exact ⟨congrArg (fun q => Ending.returned (.bool q)) e.out.symm, Gr.trans _ _ _ hA2.out hG2.out⟩
      · obtain rfl : i = K.length := by omega
        have e : K = L := by
          rw [List.take_length] at h1
          rw [h1, List.take_of_length_le (by omega)]
        replace e := Aside.mk (decide_eq_true e)
        replace hG := Aside.mk hG
        clear h1
        go_wp2_with fail
        go_ret
        exact ⟨congrArg (fun q => Ending.returned (.bool q)) e.out.symm, hG.out⟩
  · have hne : ((K.length : Int) != L.length) = true := by rw [bne_iff_ne]; omega
    have e : decide (K = L) = false := decide_eq_false (fun q => hlen (by rw [q]))
    rw [e]
    clear e
    go_enter Tryd.func35, Tryd.ntmps35
    go_wp2_with fail
    go_ret
    exact ⟨rfl, Gr.refl _⟩

set_option maxRecDepth 100000 in
theorem same_walk (hK : Reads w v K) (hL : Reads w v2 L) : Calls Tryd.prog 20 #[v, v2] w fun e w' => e = .returned (.bool (decide (K = L))) ∧ Gr w w' := by
  have hC := Aside.mk (equal_walk hK hL)
  obtain ⟨A, cap, rfl, _, _⟩ := hK
  obtain ⟨A2, cap2, rfl, _, _⟩ := hL
  generalize decide (K = L) = p at hC
  go_enter Tryd.func20, Tryd.ntmps20
  go_wp2_with (go_at_call 35; refine hC.out.mono ?_; rintro e w2 ⟨rfl, hG2⟩; replace hG2 := Aside.mk hG2)
  go_ret
  exact ⟨rfl, hG2.out⟩
end
end Go.Proofs.YtmhpogajklihdaaDoor.C
namespace Go.Proofs.YtmhpogajklihdaaDoor.C
open Go.RowKit Go.Shelf Go.Lib Go.Sort Go.Proofs.YtmhpogajklihdaaDoorW.PrintWords

/-- A match of few ids and a short rule. -/
def tiny (m : M) : Bool := !(decide (20 < m.2.length) || decide (60 < m.1.size))
def smallB (L : List M) : Bool := L.all tiny && decide (L.length ≤ 40)
theorem small_few {L : List M} (h : smallB L = true) : Few L := by
  unfold smallB at h
  rw [Bool.and_eq_true, List.all_eq_true, decide_eq_true_eq] at h
  refine ⟨by omega, fun m hm => ?_⟩
  have := h.1 m hm
  unfold tiny at this
  simp at this
  omega

section
variable {w : World} {v : Value} {L : List M}

set_option maxHeartbeats 1000000 in
set_option maxRecDepth 100000 in
theorem small_walk (hL : Reads w v L) : Calls Tryd.prog 9 #[v] w fun e w' => e = .returned (.bool (smallB L)) ∧ Gr w w' := by
  obtain ⟨A, cap, rfl, hm, hc⟩ := hL
  replace hc := Aside.mk hc
  go_enter Tryd.func9, Tryd.ntmps9
  go_wp2_with fail
  go_loopw [7] (fun a wr => ∃ i : Nat, a = .int .i64 (i : Int) ∧ i ≤ L.length ∧ (∀ t (_ : t < L.length), t < i → tiny L[t] = true) ∧ Gr w wr) (fun a _ => L.length - (intOf a).toNat)
  case atStart => exact ⟨0, rfl, Nat.zero_le _, fun _ _ h => absurd h (by omega), Gr.refl _⟩
  case round =>
    obtain ⟨i, rfl, hi, h1, hG⟩ := hrel
    by_cases hlt : i < L.length
    · obtain ⟨b, o, u, rfl, hbl, g0, g1, g2⟩ := hc.out i hlt
      have x0 := (hG.below.cell (p := ⟨b, o + i * 2, none⟩) hbl).trans g0
      have x1 := (hG.below.cell (p := ⟨b, o + i * 2 + 1, none⟩) hbl).trans g1
      obtain ⟨U, uc, rfl, _, _⟩ := g2
      have hA1 := Aside.mk (show Gr w (wr.alloc (.cells #[.string L[i].1, .slice U L[i].2.length uc] 24)) from Gr.trans _ _ _ hG (Gr.alloc _ _))
      have p1 := blk_new wr #[.string L[i].1, .slice U L[i].2.length uc] 24
      have d0 := (blk_cell p1 0).trans rfl
      have d1 := (blk_cell p1 1).trans rfl
      replace h1 := Aside.mk h1
      clear hG g0 g1 p1
      by_cases ht : tiny L[i] = true
      · have ht2 : ¬ 20 < L[i].2.length ∧ ¬ 60 < L[i].1.size := by
          unfold tiny at ht; simp at ht; omega
        replace ht := Aside.mk ht
        obtain ⟨t1, t2⟩ := ht2
        have t1' : ¬ (20 : Int) < L[i].2.length := by omega
        have t2' : ¬ (60 : Int) < L[i].1.size := by omega
        go_wp2_with fail
        go_roundw
        case rel =>
          refine ⟨i + 1, by go_num, by omega, fun t ht2 h => ?_, hA1.out⟩
          by_cases e : t = i
          · subst e; exact ht.out
          · exact h1.out t ht2 (by omega)
        case measure => simp [intOf]; omega
      · have hs : smallB L = false := by
          unfold smallB
          rw [Bool.and_eq_false_iff]
          left
          rw [List.all_eq_false]
          exact ⟨L[i], List.getElem_mem hlt, ht⟩
        have ht2 : 20 < L[i].2.length ∨ 60 < L[i].1.size := by
          unfold tiny at ht; simp at ht; omega
        replace hs := Aside.mk hs
        clear ht
        by_cases t1 : 20 < L[i].2.length
        · have t1' : (20 : Int) < L[i].2.length := by omega
          go_wp2_with fail
          go_ret
          exact ⟨congrArg (fun q => Ending.returned (.bool q)) hs.out.symm, hA1.out⟩
        · have t1' : ¬ (20 : Int) < L[i].2.length := by omega
          have t2' : (60 : Int) < L[i].1.size := by omega
          go_wp2_with fail
          go_ret
          exact ⟨congrArg (fun q => Ending.returned (.bool q)) hs.out.symm, hA1.out⟩
    · obtain rfl : i = L.length := by omega
      have hs : smallB L = decide (L.length ≤ 40) := by
        unfold smallB
        rw [List.all_eq_true.2 (fun m hm => by obtain ⟨t, ht, rfl⟩ := List.getElem_of_mem hm; exact h1 t ht ht)]
        rfl
      replace hs := Aside.mk hs
      replace hG := Aside.mk hG
      clear h1
      go_wp2_with fail
      go_ret
      refine ⟨?_, hG.out⟩
      rw [hs.out]
      simp
      omega
end
end Go.Proofs.YtmhpogajklihdaaDoor.C
namespace Go.Proofs.YtmhpogajklihdaaDoor.C
open Go.RowKit Go.Shelf Go.Lib Go.Sort Go.Proofs.YtmhpogajklihdaaDoorW.PrintWords

theorem app_ids {w : World} {b B : Nat} {u : Value} {ids : List Int} (hb : w.heap[b]? = some (.cells #[] 3 (0, 0))) (hB : B ≤ b) (h : IdsAt w u ids) (hl : ids.length ≤ 1000000) :
    ∃ v W', (Builtin.append_ #[22, 22] 22 #[.slice (some ⟨b, 0, none⟩) 0 0, u]).run Tryd.prog w = .ok v W' ∧ XReg.Ext w W' ∧ IdOwn W' B v ids := by
  obtain ⟨A, cap, rfl, hm, hc⟩ := h
  obtain ⟨i0, hi, hz0, hz1, hz2⟩ := info_parts info3
  have hmax : 1000000 ≤ maxLen := by decide
  have hbl := blk_lt hb
  have h0 : w.ownsRow B 3 1 (.slice (some ⟨b, 0, none⟩) 0 0) 0 [] := ⟨rfl, .inr ⟨b, 0, #[], rfl, hB, hb, Nat.le_refl _, Nat.zero_le _, rfl, rfl⟩⟩
  by_cases hn : 0 < ids.length
  · obtain ⟨b', o', e, _, _⟩ := hc 0 hn
    subst e
    have hnews : ∀ j u, (ids.map (Value.int .i64))[j]? = some u → w.cell? ((⟨b', o', none⟩ : Addr).add j) = some u := fun j u hj => by
      have hj' : j < ids.length := by have := (List.getElem?_eq_some_iff.1 hj).1; simpa using this
      obtain ⟨b2, o2, e, _, hcell⟩ := hc j hj'
      cases e
      rw [List.getElem?_map, List.getElem?_eq_getElem hj'] at hj
      rw [← hj]
      unfold Addr.add
      split
      · rename_i e0; subst e0; exact hcell
      · exact hcell
    have h1 : ∀ u ∈ ids.map (Value.int .i64), u.oneCell' = true := fun u hu => by
      obtain ⟨x, _, rfl⟩ := List.mem_map.1 hu
      rfl
    obtain ⟨v', w', hrun, hown, _⟩ := run_append_own (P := Tryd.prog) w B 22 22 3 i0 (.int .i64 0) 1 8 Tryd.underlying22 hi hz0 hz1 hz2 rfl (by decide) _ 0 [] h0 ⟨b', o', none⟩ ids.length cap (ids.map (Value.int .i64)) (by simp) hnews h1 (by omega) (by omega) (by omega)
    have hg := run_append_grow (P := Tryd.prog) w 22 22 3 i0 (.int .i64 0) Tryd.underlying22 hi hz0 ⟨b, 0, none⟩ 0 0 [] (by simp) (fun j v hj => by simp at hj) ⟨b', o', none⟩ ids.length cap (ids.map (Value.int .i64)) (by simp [hz1]) hnews (by omega) (by omega) (by rw [hz2, nextslicecap_zero (by omega)]; omega)
    rw [hrun] at hg
    injection hg with e1 e2
    refine ⟨v', w', hrun, ?_, ?_⟩
    · rw [e2]; exact (Gr.trans _ _ _ (Gr.drew w) (Gr.alloc _ _)).below
    · have := hown
      rw [Nat.zero_add, List.nil_append] at this
      exact this
  · have e : ids = [] := List.eq_nil_of_length_eq_zero (by omega)
    subst e
    refine ⟨.slice (some ⟨b, 0, none⟩) 0 0, w, ?_, XReg.Ext.refl w, h0⟩
    cases A with
    | none => simp [Builtin.append_, run_underlying Tryd.underlying22, sizeOf, typeInfo, hi, Builtin.lenOf, Builtin.firstCells, storeCells]
    | some a => simp [Builtin.append_, run_underlying Tryd.underlying22, sizeOf, typeInfo, hi, Builtin.lenOf, Builtin.firstCells, storeCells, loadCells, loadCellsFrom]
end Go.Proofs.YtmhpogajklihdaaDoor.C
