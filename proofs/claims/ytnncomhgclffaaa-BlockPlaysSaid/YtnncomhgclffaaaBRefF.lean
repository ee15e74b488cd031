/- The document's Free. -/
import Derived.Test.YtnncomhgclffaaaBRefC
namespace Go.Proofs.Ytnncomhgclffaaa.BI
open Go.RowKit Go.Shelf Go.Proofs.YtnncomhgclffaaaW.PrintWords Go.Proofs.YtnncomhgclffaaaL Go.Proofs.Ytnncomhgclffaaa.LL Go.Proofs.Ytnncomhgclffaaa.LS

section
variable {w W : World} {xb base : Nat} {G : Nat → Prop} {ks : List ByteArray} {Q : List (ByteArray × Int)}

theorem owns_base {b b' : Nat} {e : TypeId} {size n : Nat} {v : Value} {xs : List Value} (h : W.ownsRow b e size v n xs) (hb : b' ≤ b) : W.ownsRow b' e size v n xs := by
  refine ⟨h.1, ?_⟩
  rcases h.2 with h2 | ⟨g, cap, cur, rfl, hg, r⟩
  · exact .inl h2
  · exact .inr ⟨g, cap, cur, rfl, Nat.le_trans hb hg, r⟩

/-- The pairs anew, in a world where what lay has not changed. -/
theorem XO.pairs {vp : Value} {Q' : List (ByteArray × Int)} (h : XO w xb base G ks Q) (hB : Below w.heap.size w W) (hbase : base ≤ w.heap.size) (h3 : W.ownsRow w.heap.size 124 2 vp Q'.length (pairC Q')) :
    XO (W.setCell ⟨xb, 1, none⟩ vp) xb base (fun b => G b ∨ w.heap.size ≤ b) ks Q' := by
  obtain ⟨vr, vp0, k1, k2, k3, g1, g2, g3⟩ := h.below hB
  have n1 : some xb ≠ vr.ownBlock := own_ne k2 k1 (by decide)
  have n2 : some xb ≠ vp.ownBlock := own_ne h3 k1 (by decide)
  have far : ∀ y, y ≠ xb → (W.setCell ⟨xb, 1, none⟩ vp).heap[y]? = W.heap[y]? := fun y hy => Below.heap_setCell _ _ _ _ hy
  exact ⟨vr, vp, blk_set k1 1 vp, owns_move k2 (fun y _ _ e => far y (fun q => n1 (by rw [← q]; exact e.symm))), owns_base (owns_move h3 (fun y _ _ e => far y (fun q => n2 (by rw [← q]; exact e.symm)))) hbase, .inl g1, fun b e => .inl (g2 b e), fun b e => .inr (own_from h3 e)⟩

set_option maxHeartbeats 4000000 in
set_option maxRecDepth 100000 in
theorem rfree_walk (h : XO w xb base G ks Q) (hbase : base ≤ w.heap.size) (k : ByteArray) (v : Int) (hq : Q.length < 100000) :
    Calls Try.prog 79 #[.pointer (some ⟨xb, 0, none⟩), .string k, .int .i64 v] w fun e W => (∃ z, e = .returned z) ∧ XO W xb base (fun b => G b ∨ w.heap.size ≤ b) ks (Q.filter fun p => decide (p.1 ≠ k ∨ p.2 ≠ v)) ∧ Ch w W (fun b => b = xb) := by
  obtain ⟨A, B, c, d, hX⟩ := h.is
  obtain ⟨i1, ji, jz0, jz1, jz2⟩ := info_parts info124
  replace ji := Aside0.mk ji
  replace jz0 := Aside0.mk jz0
  replace jz1 := Aside0.mk jz1
  replace jz2 := Aside0.mk jz2
  have c1 : w.cell? ⟨xb, 1, none⟩ = some (.slice B Q.length d) := (blk_cell hX.1 1).trans rfl
  have hp := Aside0.mk hX.2.2
  have hx := Aside0.mk hX.1
  replace h := Aside0.mk h
  clear hX
  have hmax : 100000 ≤ maxLen := by decide
  go_enter Try.func79, Try.ntmps79
  go_wp2_with fail
  go_loopw [14, 6] (fun i t wq => ∃ (j : Nat) (P : List (ByteArray × Int)), i = .int .i64 j ∧ j ≤ Q.length ∧ P = (Q.take j).filter (fun p => decide (p.1 ≠ k ∨ p.2 ≠ v)) ∧ wq.ownsRow w.heap.size 124 2 t P.length (pairC P) ∧ Below w.heap.size w wq) (fun i _ _ => Q.length - (intOf i).toNat)
  case atStart => exact ⟨0, [], rfl, Nat.zero_le _, rfl, World.ownsRow_nil _ _ _ _, Below.refl _ _⟩
  case round =>
    obtain ⟨j, P, rfl, hj, hP, hown, hB⟩ := hrel
    by_cases hjl : j < Q.length
    · obtain ⟨g, rfl, hgl, hd0, hd1⟩ := hp.out j hjl
      have f0 := (hB.cell (p := ⟨g, j * 2, none⟩) hgl).trans hd0
      have f1 := (hB.cell (p := ⟨g, j * 2 + 1, none⟩) hgl).trans hd1
      have hPl : P.length ≤ j := by
        rw [hP]
        exact Nat.le_trans (List.length_filter_le _ _) (by rw [List.length_take]; omega)
      have htake : (Q.take (j + 1)).filter (fun p => decide (p.1 ≠ k ∨ p.2 ≠ v)) = if Q[j].1 = k ∧ Q[j].2 = v then P else P ++ [Q[j]] := by
        rw [List.take_succ_eq_append_getElem hjl, List.filter_append, ← hP]
        by_cases q : Q[j].1 = k <;> by_cases q2 : Q[j].2 = v <;> simp [q, q2]
      clear hP hd0 hd1
      have hB2 := Aside0.mk (hB.alloc hB.size (.cells #[.string Q[j].1, .int .i64 Q[j].2] 124))
      have hown5 := hown.alloc (.cells #[.string Q[j].1, .int .i64 Q[j].2] 124)
      obtain ⟨A6, c6, rfl⟩ := owns_form hown
      replace hown5 := Aside0.mk hown5
      have hsz := hB.size
      clear hown hB
      have o0 := (blk_cell (blk_new wr (.cells #[.string Q[j].1, .int .i64 Q[j].2] 124)) 0)
      have o1 := (blk_cell (blk_new wr (.cells #[.string Q[j].1, .int .i64 Q[j].2] 124)) 1)
      have ol : wr.heap.size < (wr.alloc (.cells #[.string Q[j].1, .int .i64 Q[j].2] 124)).heap.size := by simp
      replace o0 := o0.trans (show _ = some (Value.string Q[j].1) from rfl)
      replace o1 := o1.trans (show _ = some (Value.int .i64 Q[j].2) from rfl)
      go_upto_region 4 with fail
      generalize wr.alloc (.cells #[.string Q[j].1, .int .i64 Q[j].2] 124) = W1 at hB2 hown5 o0 o1 ol ⊢
      clear f0 f1
      have hs1 := hB2.out.size
      by_cases q : Q[j].1 = k
      · have hb : (Q[j].1.toList == k.toList) = true := by rw [str_eq]; exact decide_eq_true q
        by_cases q2 : Q[j].2 = v
        · have hb2 : (Q[j].2 == v) = true := beq_iff_eq.2 q2
          have hb3 : (Q[j].2 != v) = false := by rw [q2]; simp
          rw [if_pos ⟨q, q2⟩] at htake
          replace htake := Aside0.mk htake
          clear q q2
          go_wp2
          go_roundw
          case rel => exact ⟨j + 1, P, by go_num, by omega, htake.out.symm, hown5.out, hB2.out⟩
          case measure => simp [intOf]; omega
        · have hb2 : (Q[j].2 == v) = false := beq_eq_false_iff_ne.2 q2
          have hb3 : (Q[j].2 != v) = true := bne_iff_ne.2 q2
          rw [if_neg (fun x => q2 x.2)] at htake
          replace htake := Aside0.mk htake
          clear q q2
          go_wp2_with (at_builtin; refine wpList_append_own _ rfl _ _ 114 rfl w.heap.size 124 i1 (.agg #[.string ⟨#[]⟩, .int .i64 0]) 2 24 Try.underlying114 ji.out jz0.out jz1.out jz2.out rfl (by decide) _ _ _ rfl (hown5.out.alloc _) ⟨W1.heap.size, 0, none⟩ 1 1 [.string Q[j].1, .int .i64 Q[j].2] rfl rfl (cells_new _ _ _ (by simp)) (by simp [Value.oneCell']) (by omega) (by omega) (by simp; omega) ?_; intro v3 w3 hown3 hgr3 _; have hB3 := Aside0.mk (app_below hB2.out hown5.out hgr3); replace hown3 := Aside0.mk hown3)
          go_roundw
          case rel => exact ⟨j + 1, P ++ [Q[j]], by go_num, by omega, htake.out.symm, by rw [pairC_append]; simpa using hown3.out, hB3.out⟩
          case measure => simp [intOf]; omega
      · have hb : (Q[j].1.toList == k.toList) = false := by rw [str_eq]; exact decide_eq_false q
        rw [if_neg (fun x => q x.1)] at htake
        replace htake := Aside0.mk htake
        clear q
        go_wp2_with (at_builtin; refine wpList_append_own _ rfl _ _ 114 rfl w.heap.size 124 i1 (.agg #[.string ⟨#[]⟩, .int .i64 0]) 2 24 Try.underlying114 ji.out jz0.out jz1.out jz2.out rfl (by decide) _ _ _ rfl (hown5.out.alloc _) ⟨W1.heap.size, 0, none⟩ 1 1 [.string Q[j].1, .int .i64 Q[j].2] rfl rfl (cells_new _ _ _ (by simp)) (by simp [Value.oneCell']) (by omega) (by omega) (by simp; omega) ?_; intro v3 w3 hown3 hgr3 _; have hB3 := Aside0.mk (app_below hB2.out hown5.out hgr3); replace hown3 := Aside0.mk hown3)
        go_roundw
        case rel => exact ⟨j + 1, P ++ [Q[j]], by go_num, by omega, htake.out.symm, by rw [pairC_append]; simpa using hown3.out, hB3.out⟩
        case measure => simp [intOf]; omega
    · obtain rfl : j = Q.length := by omega
      rw [List.take_length] at hP
      subst hP
      generalize hP : Q.filter (fun p => decide (p.1 ≠ k ∨ p.2 ≠ v)) = P at hown
      replace hP := Aside0.mk hP
      have hxx := (hB.block xb (blk_lt hx.out)).trans hx.out
      have u1 := blk_frozen hxx 1
      have u2 : w.heap.size ≤ _ := hB.size
      have hfin := Aside0.mk (XO.pairs h.out hB hbase hown)
      have y1 : _ := (blk_cell hxx 1)
      obtain ⟨A6, c6, rfl⟩ := owns_form hown
      clear hown
      replace hB := Aside0.mk hB
      go_wp2
      go_end0
      rw [hP.out]
      exact ⟨⟨_, rfl⟩, hfin.out, ((Ch.of_below hB.out (fun b => b = xb)).setCell ⟨xb, 1, none⟩ (fun _ => rfl) _)⟩
end
end Go.Proofs.Ytnncomhgclffaaa.BI
