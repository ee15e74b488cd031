/- 'Block' of package block at (triple, string). -/
import Derived.Test.YtnncomhgclffaaaTFun
namespace Go.Proofs.Ytnncomhgclffaaa.BT
open Go.RowKit Go.Proofs.YtnncomhgclffaaaW.PrintWords Go.Proofs.YtnncomhgclffaaaL Go.Proofs.Ytnncomhgclffaaa.LL Go.Proofs.Ytnncomhgclffaaa.LT

section
variable {w W : World} {bb lb mb : Nat} {Fl : Nat → Prop} {hd : P2 → Int} {gb : P2 → Nat} {ks : List P2} {vs : P2 → List ByteArray} {vals : List P2}

/-- 'o, ok := b.owners[k]' with k in a box. -/
structure At (W : World) (bb mb n : Nat) (k1 k2 k3 : Int) (r : Value) : Prop where
  c1 : W.cell? ⟨bb, 1, none⟩ = some (.map (some mb))
  c2 : ∀ o, (W.alloc o).cell? ⟨bb, 1, none⟩ = some (.map (some mb))
  p0 : W.cell? ⟨n, 0, none⟩ = some (.int .i64 k1)
  p1 : W.cell? ⟨n, 1, none⟩ = some (.int .i64 k2)
  p2 : W.cell? ⟨n, 2, none⟩ = some (.int .i64 k3)
  p3 : ∀ o j, (W.alloc o).cell? ⟨n, j, none⟩ = W.cell? ⟨n, j, none⟩
  l1 : (Instr.lookup 160 (.map (some mb)) (.agg #[.int .i64 k1, .int .i64 k2, .int .i64 k3]) true).run Try.prog W.drew = .ok r W.drew
  l2 : ∀ o, (Instr.lookup 160 (.map (some mb)) (.agg #[.int .i64 k1, .int .i64 k2, .int .i64 k3]) true).run Try.prog (W.alloc o).drew = .ok r (W.alloc o).drew
theorem at_of (h : BIs W bb lb mb Fl hd gb ks vs vals) {n : Nat} {k1 k2 k3 : Int} (hp : W.heap[n]? = some (.cells #[.int .i64 k1, .int .i64 k2, .int .i64 k3] 60 (0, 0))) (hk : Good (k1, k2, k3)) :
    At W bb mb n k1 k2 k3 (if (k1, k2, k3) ∈ ks then .tuple #[ownerOf (hd (k1, k2, k3)) (gb (k1, k2, k3)), .bool true] else .tuple #[noOwner, .bool false]) := by
  have hl : ∀ W', (∀ b, b < W.heap.size → W'.heap[b]? = W.heap[b]?) → (Instr.lookup 160 (.map (some mb)) (.agg #[.int .i64 k1, .int .i64 k2, .int .i64 k3]) true).run Try.prog W' = .ok (if (k1, k2, k3) ∈ ks then .tuple #[ownerOf (hd (k1, k2, k3)) (gb (k1, k2, k3)), .bool true] else .tuple #[noOwner, .bool false]) W' := fun W' hW' => by
    have := (h.move (W := W') (fun b _ hl => hW' b hl)).own.look Try.underlying160 (zeroO W') (x := (k1, k2, k3)) hk true
    by_cases hm : (k1, k2, k3) ∈ ks
    · simp only [ownMap, hm, if_true, Option.getD_some, Option.isSome_some, triCode, ownerOf] at this ⊢
      exact this
    · simp only [ownMap, hm, if_false, if_true, Option.getD_none, Option.isSome_none, triCode, noOwner] at this ⊢
      exact this
  exact ⟨h.c1, fun o => (World.cell?_of_block (Below.heap_alloc W o bb (blk_lt h.head))).trans h.c1, (blk_cell hp 0).trans rfl, (blk_cell hp 1).trans rfl, (blk_cell hp 2).trans rfl,
    fun o j => World.cell?_of_block (Below.heap_alloc W o n (blk_lt hp)), hl W.drew (fun _ _ => rfl), fun o => hl (W.alloc o).drew (fun b hb => Below.heap_alloc W o b hb)⟩

set_option maxHeartbeats 1000000 in
set_option maxRecDepth 100000 in
theorem block_no (h : BIs w bb lb mb Fl hd gb ks vs vals) (k : P2) (v : ByteArray) (hk : Good k) (hv : v.size ≤ maxLen) (hn : v ∈ vs k ∨ k ∉ ks) :
    Calls Try.prog 66 #[.pointer (some ⟨bb, 0, none⟩), tri k, .string v] w fun e w' => e = .returned (.tuple #[.bool false, .bool false]) ∧ Below w.heap.size w w' := by
  have h0 := h.move (W := w.alloc (.cells #[.int .i64 k.1, .int .i64 k.2.1, .int .i64 k.2.2] 60)) (fun b _ hl => Below.heap_alloc _ _ _ hl)
  have hB := Aside0.mk ((Below.refl w.heap.size w).alloc (Nat.le_refl _) (.cells #[.int .i64 k.1, .int .i64 k.2.1, .int .i64 k.2.2] 60))
  have hp := blk_new w (.cells #[.int .i64 k.1, .int .i64 k.2.1, .int .i64 k.2.2] 60)
  replace h0 := Aside0.mk h0
  clear h
  obtain ⟨k1, k2, k3⟩ := k
  unfold tri
  go_enter Try.func66, Try.ntmps66
  go_upto_region 1 with fail
  dsimp only at h0 hB hp ⊢
  generalize w.alloc (.cells #[.int .i64 k1, .int .i64 k2, .int .i64 k3] 60) = W at h0 hB hp ⊢
  generalize w.heap.size = n at hp ⊢
  obtain ⟨c1, c2, p0, p1, p2, p3, hl1, hl2⟩ := at_of h0.out hp hk
  by_cases hm : (k1, k2, k3) ∈ ks
  · have hv2 := hn.resolve_right (fun x => x hm)
    have hbl : (Instr.lookup 164 (.map (some (gb (k1, k2, k3)))) (.string v) false).run Try.prog (W.alloc (.cells #[.int .i64 (hd (k1, k2, k3)), .map (some (gb (k1, k2, k3)))] 166)).drew = .ok (.int .i64 1) (W.alloc (.cells #[.int .i64 (hd (k1, k2, k3)), .map (some (gb (k1, k2, k3)))] 166)).drew := by
      have := by_look (W := (W.alloc (.cells #[.int .i64 (hd (k1, k2, k3)), .map (some (gb (k1, k2, k3)))] 166)).drew) ((h0.out.by_ _ hm).of_heap (Below.heap_alloc _ _ _ (h0.out.by_ _ hm).lt)) hv
      simpa only [hv2, if_true] using this
    simp only [hm, if_true, ownerOf] at hl1 hl2
    clear hn hv2
    go_region
    go_wp2
    go_ret2
    exact ⟨rfl, (hB.out.alloc (by have := hB.out.size; omega) _).drew⟩
  · simp only [hm, if_false, noOwner] at hl1 hl2
    clear hn
    go_region
    go_wp2
    go_ret2
    exact ⟨rfl, (hB.out.alloc (by have := hB.out.size; omega) _).drew⟩

theorem sum_set' {ks : List P2} (hn : ks.Nodup) {k : P2} (hk : k ∈ ks) (vs : P2 → List ByteArray) (x : List ByteArray) : sumOf ks (upd vs k x) + (vs k).length = sumOf ks vs + x.length := by
  obtain ⟨a, b, rfl⟩ := List.append_of_mem hk
  rw [sumOf_upd hn, sumOf_append, sumOf_append, sumOf_cons]
  omega

set_option maxHeartbeats 1000000 in
set_option maxRecDepth 100000 in
theorem block_yes (h : BIs w bb lb mb Fl hd gb ks vs vals) (k : P2) (v : ByteArray) (hk : Good k) (hv : v.size ≤ maxLen) (hm : k ∈ ks) (hnv : v ∉ vs k) (hN : sumOf ks vs < 100000) :
    Calls Try.prog 66 #[.pointer (some ⟨bb, 0, none⟩), tri k, .string v] w
      (BPost w (.tuple #[.bool (decide ((vs k).length = 0)), .bool true]) bb lb mb Fl hd gb ks (upd vs k (vs k ++ [v])) vals) := by
  have h0 := h.move (W := w.alloc (.cells #[.int .i64 k.1, .int .i64 k.2.1, .int .i64 k.2.2] 60)) (fun b _ hl => Below.heap_alloc _ _ _ hl)
  have hC := Aside0.mk ((Ch.refl w (BFoot bb mb Fl gb ks)).alloc (.cells #[.int .i64 k.1, .int .i64 k.2.1, .int .i64 k.2.2] 60))
  have hp := blk_new w (.cells #[.int .i64 k.1, .int .i64 k.2.1, .int .i64 k.2.2] 60)
  have hbw := Aside0.mk (And.intro (blk_lt h.head) (h.by_ k hm).lt)
  replace h0 := Aside0.mk h0
  clear h
  obtain ⟨k1, k2, k3⟩ := k
  unfold tri
  go_enter Try.func66, Try.ntmps66
  go_upto_region 1 with fail
  dsimp only at h0 hC hp ⊢
  generalize w.alloc (.cells #[.int .i64 k1, .int .i64 k2, .int .i64 k3] 60) = W at h0 hC hp ⊢
  obtain ⟨c1, c2, p0, p1, p2, p3, hl1, hl2⟩ := at_of h0.out hp hk
  generalize w.heap.size = n at *
  simp only [hm, if_true, ownerOf] at hl1 hl2
  have hV := (h0.out.alloc (.cells #[.int .i64 (hd (k1, k2, k3)), .map (some (gb (k1, k2, k3)))] 166)).move (W := (W.alloc (.cells #[.int .i64 (hd (k1, k2, k3)), .map (some (gb (k1, k2, k3)))] 166)).drew) (fun _ _ _ => rfl)
  have hq : (W.alloc (.cells #[.int .i64 (hd (k1, k2, k3)), .map (some (gb (k1, k2, k3)))] 166)).drew.heap[W.heap.size]? = some (.cells #[.int .i64 (hd (k1, k2, k3)), .map (some (gb (k1, k2, k3)))] 166 (0, 0)) := blk_new _ _
  have hCV := Aside0.mk ((hC.out.alloc (.cells #[.int .i64 (hd (k1, k2, k3)), .map (some (gb (k1, k2, k3)))] 166)).drew)
  have hqs := Aside0.mk (And.intro (blk_lt h0.out.head) (h0.out.by_ _ hm).lt)
  replace hV := Aside0.mk hV
  replace hq := Aside0.mk hq
  replace hm := Aside0.mk hm
  replace hnv := Aside0.mk hnv
  clear h0 hC hp
  go_region
  clear c1 c2 p0 p1 p2 p3 hl1 hl2
  generalize (W.alloc (.cells #[.int .i64 (hd (k1, k2, k3)), .map (some (gb (k1, k2, k3)))] 166)).drew = V at hV hq hCV ⊢
  generalize W.heap.size = qb at hq hqs ⊢
  generalize (k1, k2, k3) = k at *
  replace hm := hm.out
  replace hnv := hnv.out
  have hby := by_look (hV.out.by_ k hm) hv
  have hgg := hV.out.by_ k hm
  obtain ⟨W3, hst, hm3, hg3, hz3⟩ := hgg.store Try.underlying164 hv (.int .i64 1)
  rw [byMap_none hnv] at hm3
  simp only [strCode] at hst
  simp only [hnv, if_false] at hby
  simp only [Option.isSome_none, Bool.false_eq_true, if_false] at hm3
  have hgne := hV.out.g_ne hm
  have hsum := sum_set' hV.out.nk hm vs (vs k ++ [v])
  have hlen := sumOf_at hm vs
  have hbl := blk_lt hV.out.head
  have hq1 : V.cell? ⟨qb, 1, none⟩ = some (.map (some (gb k))) := (blk_cell hq.out 1).trans rfl
  have hh3 : W3.heap[bb]? = some (.cells #[.pointer (some ⟨lb, 0, none⟩), .map (some mb), .int .i64 (sumOf ks vs)] 162 (0, 0)) := (hg3.block bb hbl (by simpa using Ne.symm hgne)).trans hV.out.head
  have hq3 : W3.heap[qb]? = some (.cells #[.int .i64 (hd k), .map (some (gb k))] 166 (0, 0)) := (hg3.block _ (blk_lt hq.out) (by have := hqs.out.2; simp; omega)).trans hq.out
  have hc3 : W3.cell? ⟨bb, 2, none⟩ = some (.int .i64 (sumOf ks vs)) := (blk_cell hh3 2).trans rfl
  have hf3 : W3.frozen? ⟨bb, 2, none⟩ = false := blk_frozen hh3 2
  have hq4 : (W3.setCell ⟨bb, 2, none⟩ (.int .i64 ((sumOf ks vs : Int) + 1))).cell? ⟨qb, 1, none⟩ = some (.map (some (gb k))) := (blk_cell (blk_far hq3 (by have := hqs.out.1; show qb ≠ bb; omega) _) 1).trans rfl
  have hm4 : MapIs strCode (W3.setCell ⟨bb, 2, none⟩ (.int .i64 ((sumOf ks vs : Int) + 1))) (gb k) (byMap (vs k ++ [v])) (vs k ++ [v]).length := by
    rw [List.length_append]
    exact (hm3.congr byMap_add).of_heap (Below.heap_setCell _ _ _ _ hgne)
  have hfin := hV.out.changed (W := W3.setCell ⟨bb, 2, none⟩ (.int .i64 ((sumOf ks vs : Int) + 1))) (x := vs k ++ [v]) hm (by
    rw [show ((sumOf ks (upd vs k (vs k ++ [v])) : Nat) : Int) = (sumOf ks vs : Int) + 1 by rw [List.length_append, List.length_singleton] at hsum; omega]
    exact blk_set hh3 2 _) hm4 (fun b hb h1 h2 => (Below.heap_setCell _ _ _ _ h1).trans (hg3.block b hb (by simpa using h2)))
  have hch : Ch w (W3.setCell ⟨bb, 2, none⟩ (.int .i64 ((sumOf ks vs : Int) + 1))) (BFoot bb mb Fl gb ks) :=
    ((hCV.out.grown hg3 (fun b e _ => by cases e; exact .inr (.inr (.inr ⟨k, hm, rfl⟩))))).setCell ⟨bb, 2, none⟩ (fun _ => .inl rfl) _
  replace hfin := Aside0.mk hfin
  replace hch := Aside0.mk hch
  replace hm4 := Aside0.mk hm4
  have c1 := hV.out.c1
  clear hgg hm3 hg3 hz3 hgne hsum hh3 hq3 hbl
  go_wp2_with (at_len; refine len_at hm4.out rfl _ 164 rfl Try.underlying164 rfl ?_)
  go_ret2
  exact ⟨congrArg (fun b => Ending.returned (.tuple #[.bool b, .bool true])) (show (((vs k).length : Int) + 1 == 1) = decide ((vs k).length = 0) by rw [Bool.eq_iff_iff, beq_iff_eq, decide_eq_true_iff]; omega), hfin.out, hch.out⟩
end
end Go.Proofs.Ytnncomhgclffaaa.BT
