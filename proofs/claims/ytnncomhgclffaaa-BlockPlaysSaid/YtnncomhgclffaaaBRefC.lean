/- The document's blocks as a state that is written: Close and Free. -/
import Derived.Test.YtnncomhgclffaaaBRefB
namespace Go.Proofs.Ytnncomhgclffaaa.BI
open Go.RowKit Go.Shelf Go.Proofs.YtnncomhgclffaaaW.PrintWords Go.Proofs.YtnncomhgclffaaaL Go.Proofs.Ytnncomhgclffaaa.LL Go.Proofs.Ytnncomhgclffaaa.LS

def pairC (Q : List (ByteArray × Int)) : List Value := Q.flatMap fun p => [.string p.1, .int .i64 p.2]
theorem pairC_at : ∀ (Q : List (ByteArray × Int)) (j : Nat) (hj : j < Q.length), (pairC Q)[j * 2]? = some (.string Q[j].1) ∧ (pairC Q)[j * 2 + 1]? = some (.int .i64 Q[j].2)
  | [], _, hj => absurd hj (Nat.not_lt_zero _)
  | p :: Q, 0, _ => ⟨rfl, rfl⟩
  | p :: Q, j + 1, hj => by
    have := pairC_at Q j (by simpa using hj)
    have e : pairC (p :: Q) = .string p.1 :: .int .i64 p.2 :: pairC Q := rfl
    rw [e, show (j + 1) * 2 = j * 2 + 1 + 1 by omega]
    simpa using this

/-- The document's blocks at block xb, with rows that the run owns, all in blocks of G. -/
def XO (W : World) (xb base : Nat) (G : Nat → Prop) (ks : List ByteArray) (Q : List (ByteArray × Int)) : Prop :=
  ∃ vr vp, W.heap[xb]? = some (.cells #[vr, vp] 116 (0, 0)) ∧ W.ownsRow base 9 1 vr ks.length (ks.map Value.string) ∧ W.ownsRow base 124 2 vp Q.length (pairC Q) ∧ G xb ∧ (∀ b, vr.ownBlock = some b → G b) ∧ ∀ b, vp.ownBlock = some b → G b

section
variable {w W : World} {xb base : Nat} {G : Nat → Prop} {ks : List ByteArray} {Q : List (ByteArray × Int)}

theorem XO.is (h : XO w xb base G ks Q) : ∃ A B c d, XIs w xb A B c d ks Q := by
  obtain ⟨vr, vp, h1, h2, h3, _⟩ := h
  have hS : ∃ A c, vr = .slice A ks.length c ∧ RowS w A ks := by
    obtain ⟨A, c, e, hr⟩ := strs_read h2
    exact ⟨A, c, e, hr⟩
  have hP : ∃ B d, vp = .slice B Q.length d ∧ RowP w B Q := by
    by_cases h0 : 0 < Q.length
    · obtain ⟨g, cap, rfl, _, hl⟩ := owns_form1 h3 h0
      refine ⟨_, cap, rfl, fun j hj => ⟨g, rfl, hl, ?_, ?_⟩⟩
      · rw [h3.cellAt _ (by omega)]; exact (pairC_at Q j hj).1
      · rw [h3.cellAt _ (by omega)]; exact (pairC_at Q j hj).2
    · obtain ⟨a, cap, rfl⟩ := owns_form h3
      exact ⟨a, cap, rfl, fun j hj => absurd hj (by omega)⟩
  obtain ⟨A, c, rfl, hr⟩ := hS
  obtain ⟨B, d, rfl, hp⟩ := hP
  exact ⟨A, B, c, d, h1, hr, hp⟩
theorem XO.move (h : XO w xb base G ks Q) (hk : ∀ b, G b → b < w.heap.size → W.heap[b]? = w.heap[b]?) : XO W xb base G ks Q := by
  obtain ⟨vr, vp, h1, h2, h3, g1, g2, g3⟩ := h
  exact ⟨vr, vp, (hk xb g1 (blk_lt h1)).trans h1, owns_move h2 (fun b _ hl e => hk b (g2 b e) hl), owns_move h3 (fun b _ hl e => hk b (g3 b e) hl), g1, g2, g3⟩
theorem XO.below (h : XO w xb base G ks Q) (hb : Below w.heap.size w W) : XO W xb base G ks Q := h.move fun b _ hl => hb.block b hl
theorem XO.mono {G' : Nat → Prop} (h : XO w xb base G ks Q) (hg : ∀ b, G b → b < w.heap.size → G' b) : XO w xb base G' ks Q := by
  obtain ⟨vr, vp, h1, h2, h3, g1, g2, g3⟩ := h
  refine ⟨vr, vp, h1, h2, h3, hg _ g1 (blk_lt h1), fun b e => hg b (g2 b e) ?_, fun b e => hg b (g3 b e) ?_⟩
  · obtain ⟨cs, hc⟩ := own_typed h2 b e; exact blk_lt hc
  · obtain ⟨cs, hc⟩ := own_typed h3 b e; exact blk_lt hc

theorem info124 : (Try.prog.info? 124).map (fun i => (i.zero, i.size, i.bytes)) = some (some (.agg #[.string ⟨#[]⟩, .int .i64 0]), 2, 24) := by kernel_rfl

/-- Both rows anew. -/
theorem XO.put {vr vp : Value} {o : Array Value} (hx : W.heap[xb]? = some (.cells o 116 (0, 0))) (ho : o.size = 2) (h2 : W.ownsRow base 9 1 vr ks.length (ks.map Value.string)) (h3 : W.ownsRow base 124 2 vp Q.length (pairC Q)) :
    XO ((W.setCell ⟨xb, 0, none⟩ vr).setCell ⟨xb, 1, none⟩ vp) xb base (fun b => b = xb ∨ base ≤ b) ks Q := by
  obtain ⟨a, b, rfl⟩ : ∃ a b, o = #[a, b] := by
    obtain ⟨l⟩ := o
    match l, ho with
    | [a, b], _ => exact ⟨a, b, rfl⟩
  have n1 : some xb ≠ vr.ownBlock := own_ne h2 hx (by decide)
  have n2 : some xb ≠ vp.ownBlock := own_ne h3 hx (by decide)
  have far : ∀ y, y ≠ xb → ((W.setCell ⟨xb, 0, none⟩ vr).setCell ⟨xb, 1, none⟩ vp).heap[y]? = W.heap[y]? := fun y hy => (Below.heap_setCell _ _ _ _ hy).trans (Below.heap_setCell _ _ _ _ hy)
  exact ⟨vr, vp, blk_set (blk_set hx 0 vr) 1 vp, owns_move h2 (fun y _ _ e => far y (fun q => n1 (by rw [← q]; exact e.symm))), owns_move h3 (fun y _ _ e => far y (fun q => n2 (by rw [← q]; exact e.symm))), .inl rfl, fun y e => .inr (own_from h2 e), fun y e => .inr (own_from h3 e)⟩

theorem cells_new (w : World) (cs : List Value) (t : TypeId) {n : Nat} (hn : n = w.heap.size) : ∀ j u, cs[j]? = some u → (w.alloc (.cells cs.toArray t)).cell? ((⟨n, 0, none⟩ : Addr).add j) = some u := by
  intro j u hj
  subst hn
  have h := blk_cell (blk_new w (.cells cs.toArray t)) j
  have e : (⟨w.heap.size, 0, none⟩ : Addr).add j = ⟨w.heap.size, j, none⟩ := by
    unfold Addr.add
    split
    · rename_i e; subst e; rfl
    · simp
  rw [e, h]
  simpa using hj

theorem owns_other {w1 : World} {vr vp : Value} {n m : Nat} {xs ys : List Value} {o : Obj} (h : W.ownsRow base 9 1 vr n xs) (h3 : W.ownsRow base 124 2 vp m ys) (hg : (W.alloc o).grownBy w1 vp.ownBlock) : w1.ownsRow base 9 1 vr n xs :=
  owns_move h fun b _ hl e => (hg.block b (by simp; omega) (fun q => by
    obtain ⟨c1, e1⟩ := own_typed h b e
    obtain ⟨c2, e2⟩ := own_typed h3 b q.symm
    rw [e1] at e2
    cases e2)).trans (Below.heap_alloc _ _ _ hl)
theorem pairC_append (P : List (ByteArray × Int)) (p : ByteArray × Int) : pairC (P ++ [p]) = pairC P ++ [.string p.1, .int .i64 p.2] := by simp [pairC]

set_option maxHeartbeats 4000000 in
set_option maxRecDepth 100000 in
theorem rclose_walk (h : XO w xb base G ks Q) (k : ByteArray) (hn : ks.length < 100000) (hq : Q.length < 100000) :
    Calls Try.prog 75 #[.pointer (some ⟨xb, 0, none⟩), .string k] w fun e W => (∃ z, e = .returned z) ∧ XO W xb w.heap.size (fun b => b = xb ∨ w.heap.size ≤ b) (ks.filter fun y => decide (y ≠ k)) (Q.filter fun p => decide (p.1 ≠ k)) ∧ Ch w W (fun b => b = xb) := by
  obtain ⟨A, B, c, d, hX⟩ := h.is
  clear h
  obtain ⟨i0, hi, hz0, hz1, hz2⟩ := info_parts info9
  obtain ⟨i1, ji, jz0, jz1, jz2⟩ := info_parts info124
  replace hi := Aside0.mk hi
  replace hz0 := Aside0.mk hz0
  replace hz1 := Aside0.mk hz1
  replace hz2 := Aside0.mk hz2
  replace ji := Aside0.mk ji
  replace jz0 := Aside0.mk jz0
  replace jz1 := Aside0.mk jz1
  replace jz2 := Aside0.mk jz2
  have c0 : w.cell? ⟨xb, 0, none⟩ = some (.slice A ks.length c) := (blk_cell hX.1 0).trans rfl
  have hr := Aside0.mk hX.2.1
  have hp := Aside0.mk hX.2.2
  have hx := Aside0.mk hX.1
  clear hX
  have hmax : 100000 ≤ maxLen := by decide
  go_enter Try.func75, Try.ntmps75
  go_wp2_with fail
  go_loopw [15, 4] (fun i t wr => ∃ (j : Nat) (L : List ByteArray), i = .int .i64 j ∧ j ≤ ks.length ∧ L = (ks.take j).filter (fun y => decide (y ≠ k)) ∧ wr.ownsRow w.heap.size 9 1 t L.length (L.map Value.string) ∧ Below w.heap.size w wr) (fun i _ _ => ks.length - (intOf i).toNat)
  case atStart => exact ⟨0, [], rfl, Nat.zero_le _, rfl, World.ownsRow_nil _ _ _ _, Below.refl _ _⟩
  case round =>
    obtain ⟨j, L, rfl, hj, hL, hown, hB⟩ := hrel
    by_cases hjl : j < ks.length
    · obtain ⟨g, rfl, hgl, hcell⟩ := hr.out j hjl
      have f0 := (hB.cell (p := ⟨g, j, none⟩) hgl).trans hcell
      have hLl : L.length ≤ j := by
        rw [hL]
        exact Nat.le_trans (List.length_filter_le _ _) (by rw [List.length_take]; omega)
      have htake : (ks.take (j + 1)).filter (fun y => decide (y ≠ k)) = if ks[j] = k then L else L ++ [ks[j]] := by
        rw [List.take_succ_eq_append_getElem hjl, List.filter_append, ← hL]
        by_cases q : ks[j] = k <;> simp [q]
      clear hL hcell
      obtain ⟨A5, c5, rfl⟩ := owns_form hown
      replace hown := Aside0.mk hown
      replace hB := Aside0.mk hB
      by_cases q : ks[j] = k
      · have hb : (ks[j].toList == k.toList) = true := by rw [str_eq]; exact decide_eq_true q
        rw [if_pos q] at htake
        replace htake := Aside0.mk htake
        clear q
        go_wp2
        go_roundw
        case rel => exact ⟨j + 1, L, by go_num, by omega, htake.out.symm, hown.out, hB.out⟩
        case measure => simp [intOf]; omega
      · have hb : (ks[j].toList == k.toList) = false := by rw [str_eq]; exact decide_eq_false q
        rw [if_neg q] at htake
        replace htake := Aside0.mk htake
        clear q
        go_wp2_with (at_builtin; refine wpList_append_own _ rfl _ _ 41 rfl w.heap.size 9 i0 (.string ⟨#[]⟩) 1 16 Try.underlying41 hi.out hz0.out hz1.out hz2.out rfl (by decide) _ _ _ rfl (hown.out.alloc _) ⟨wr.heap.size, 0, none⟩ 1 1 [.string ks[j]] rfl rfl (cell_one_new _ _ _) (by simp [Value.oneCell']) (by omega) (by omega) (by have := hB.out.size; simp; omega) ?_; intro v3 w3 hown3 hgr3 _; have hB3 := Aside0.mk (app_below hB.out hown.out hgr3); replace hown3 := Aside0.mk hown3)
        go_roundw
        case rel => exact ⟨j + 1, L ++ [ks[j]], by go_num, by omega, htake.out.symm, by simpa using hown3.out, hB3.out⟩
        case measure => simp [intOf]; omega
    · obtain rfl : j = ks.length := by omega
      rw [List.take_length] at hL
      subst hL
      generalize hL : ks.filter (fun y => decide (y ≠ k)) = L at hown
      replace hL := Aside0.mk hL
      obtain ⟨A5, c5, rfl⟩ := owns_form hown
      have c1 : wr.cell? ⟨xb, 1, none⟩ = some (.slice B Q.length d) := (blk_cell ((hB.block xb (blk_lt hx.out)).trans hx.out) 1).trans rfl
      replace hown := Aside0.mk hown
      replace hB := Aside0.mk hB
      clear c0
      go_wp2_with fail
      go_loopw [32, 5] (fun i t wq => ∃ (j : Nat) (P : List (ByteArray × Int)), i = .int .i64 j ∧ j ≤ Q.length ∧ P = (Q.take j).filter (fun p => decide (p.1 ≠ k)) ∧ wq.ownsRow w.heap.size 124 2 t P.length (pairC P) ∧ wq.ownsRow w.heap.size 9 1 (.slice A5 L.length c5) L.length (L.map Value.string) ∧ Below w.heap.size w wq) (fun i _ _ => Q.length - (intOf i).toNat)
      case atStart => exact ⟨0, [], rfl, Nat.zero_le _, rfl, World.ownsRow_nil _ _ _ _, hown.out, hB.out⟩
      case round =>
        clear hown hB
        obtain ⟨j, P, rfl, hj, hP, hown, hown2, hB⟩ := hrel
        by_cases hjl : j < Q.length
        · obtain ⟨g, rfl, hgl, hd0, hd1⟩ := hp.out j hjl
          have f0 := (hB.cell (p := ⟨g, j * 2, none⟩) hgl).trans hd0
          have f1 := (hB.cell (p := ⟨g, j * 2 + 1, none⟩) hgl).trans hd1
          have hPl : P.length ≤ j := by
            rw [hP]
            exact Nat.le_trans (List.length_filter_le _ _) (by rw [List.length_take]; omega)
          have htake : (Q.take (j + 1)).filter (fun p => decide (p.1 ≠ k)) = if Q[j].1 = k then P else P ++ [Q[j]] := by
            rw [List.take_succ_eq_append_getElem hjl, List.filter_append, ← hP]
            by_cases q : Q[j].1 = k <;> simp [q]
          clear hP hd0 hd1
          have hB2 := Aside0.mk (hB.alloc hB.size (.cells #[.string Q[j].1, .int .i64 Q[j].2] 124))
          have hown4 := Aside0.mk (hown2.alloc (.cells #[.string Q[j].1, .int .i64 Q[j].2] 124))
          have hown5 := hown.alloc (.cells #[.string Q[j].1, .int .i64 Q[j].2] 124)
          obtain ⟨A6, c6, rfl⟩ := owns_form hown
          replace hown5 := Aside0.mk hown5
          have hsz := hB.size
          clear hown hown2 hB
          by_cases q : Q[j].1 = k
          · have hb : (Q[j].1.toList == k.toList) = true := by rw [str_eq]; exact decide_eq_true q
            rw [if_pos q] at htake
            replace htake := Aside0.mk htake
            clear q
            go_wp2
            go_roundw
            case rel => exact ⟨j + 1, P, by go_num, by omega, htake.out.symm, hown5.out, hown4.out, hB2.out⟩
            case measure => simp [intOf]; omega
          · have hb : (Q[j].1.toList == k.toList) = false := by rw [str_eq]; exact decide_eq_false q
            rw [if_neg q] at htake
            replace htake := Aside0.mk htake
            clear q
            have o0 := (blk_cell (blk_new wr (.cells #[.string Q[j].1, .int .i64 Q[j].2] 124)) 0)
            have o1 := (blk_cell (blk_new wr (.cells #[.string Q[j].1, .int .i64 Q[j].2] 124)) 1)
            have ol : wr.heap.size < (wr.alloc (.cells #[.string Q[j].1, .int .i64 Q[j].2] 124)).heap.size := by simp
            replace o0 := o0.trans (show _ = some (Value.string Q[j].1) from rfl)
            replace o1 := o1.trans (show _ = some (Value.int .i64 Q[j].2) from rfl)
            go_upto_region 12 with fail
            generalize wr.alloc (.cells #[.string Q[j].1, .int .i64 Q[j].2] 124) = W1 at hB2 hown4 hown5 o0 o1 ol ⊢
            clear f0 f1
            have hs1 := hB2.out.size
            go_wp2_with (at_builtin; refine wpList_append_own _ rfl _ _ 114 rfl w.heap.size 124 i1 (.agg #[.string ⟨#[]⟩, .int .i64 0]) 2 24 Try.underlying114 ji.out jz0.out jz1.out jz2.out rfl (by decide) _ _ _ rfl (hown5.out.alloc _) ⟨W1.heap.size, 0, none⟩ 1 1 [.string Q[j].1, .int .i64 Q[j].2] rfl rfl (cells_new _ _ _ (by simp)) (by simp [Value.oneCell']) (by omega) (by omega) (by simp; omega) ?_; intro v3 w3 hown3 hgr3 _; have hB3 := Aside0.mk (app_below hB2.out hown5.out hgr3); have hown6 := Aside0.mk (owns_other hown4.out hown5.out hgr3); replace hown3 := Aside0.mk hown3)
            go_roundw
            case rel => exact ⟨j + 1, P ++ [Q[j]], by go_num, by omega, htake.out.symm, by rw [pairC_append]; simpa using hown3.out, hown6.out, hB3.out⟩
            case measure => simp [intOf]; omega
        · obtain rfl : j = Q.length := by omega
          rw [List.take_length] at hP
          subst hP
          generalize hP : Q.filter (fun p => decide (p.1 ≠ k)) = P at hown ⊢
          replace hP := Aside0.mk hP
          have hxx := (hB.block xb (blk_lt hx.out)).trans hx.out
          have u0 := blk_frozen hxx 0
          have u1 := blk_frozen hxx 1
          have u2 : w.heap.size ≤ _ := hB.size
          have hfin := Aside0.mk (XO.put hxx rfl hown2 hown)
          have y0 : _ := (blk_cell hxx 0)
          have y1 : _ := (blk_cell hxx 1)
          have z1 := blk_frozen (blk_set hxx 0 (.slice A5 L.length c5)) 1
          obtain ⟨A6, c6, rfl⟩ := owns_form hown
          clear hown hown2
          replace hB := Aside0.mk hB
          go_wp2
          go_end0
          rw [hL.out, hP.out]
          exact ⟨⟨_, rfl⟩, hfin.out, (((Ch.of_below hB.out (fun b => b = xb)).setCell ⟨xb, 0, none⟩ (fun _ => rfl) _).setCell ⟨xb, 1, none⟩ (fun _ => rfl) _)⟩
end
end Go.Proofs.Ytnncomhgclffaaa.BI
