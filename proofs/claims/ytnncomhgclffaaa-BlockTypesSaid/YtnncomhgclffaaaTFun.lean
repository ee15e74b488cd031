/- The functions of package block at (triple, string): what each answers and what it leaves. -/
import Derived.Test.YtnncomhgclffaaaTMem

import Derived.BigQuiet
import Derived.Test.YtnncomhgclffaaaYReg
namespace Go.Proofs.Ytnncomhgclffaaa.BT
open Go.RowKit Go.Proofs.YtnncomhgclffaaaW.PrintWords Go.Proofs.YtnncomhgclffaaaL Go.Proofs.Ytnncomhgclffaaa.LL Go.Proofs.Ytnncomhgclffaaa.LT

section
variable {w W : World} {bb lb mb : Nat} {Fl : Nat → Prop} {hd : P2 → Int} {gb : P2 → Nat} {ks : List P2} {vs : P2 → List ByteArray} {vals : List P2}

def noOwner : Value := .agg #[.int .i64 0, .map none]
theorem zeroO (w : World) : (zeroValue 166).run Try.prog w = .ok noOwner w := by kernel_rfl
theorem zeroN (w : World) : (zeroValue 3).run Try.prog w = .ok (.int .i64 0) w := by kernel_rfl

theorem field166 (a b : Value) (w : World) : (Instr.field 166 (.agg #[a, b]) 1).run Try.prog w = .ok b w := by kernel_rfl
attribute [local go_sem] field166

theorem BIs.c0 (h : BIs w bb lb mb Fl hd gb ks vs vals) : w.cell? ⟨bb, 0, none⟩ = some (.pointer (some ⟨lb, 0, none⟩)) := (blk_cell h.head 0).trans rfl
theorem BIs.c1 (h : BIs w bb lb mb Fl hd gb ks vs vals) : w.cell? ⟨bb, 1, none⟩ = some (.map (some mb)) := (blk_cell h.head 1).trans rfl
theorem BIs.c2 (h : BIs w bb lb mb Fl hd gb ks vs vals) : w.cell? ⟨bb, 2, none⟩ = some (.int .i64 (sumOf ks vs)) := (blk_cell h.head 2).trans rfl

theorem blen_walk (h : BIs w bb lb mb Fl hd gb ks vs vals) :
    Calls Try.prog 67 #[.pointer (some ⟨bb, 0, none⟩)] w fun e w' => e = .returned (.int .i64 ks.length) ∧ w = w' := by
  have hc := h.c1
  have HM := Aside0.mk h.own
  clear h
  go_enter Try.func67, Try.ntmps67
  go_wp2_with (at_len; refine len_at HM.out rfl _ 160 rfl Try.underlying160 rfl ?_)
  go_ret
  exact ⟨rfl, rfl⟩

theorem pairs_walk (h : BIs w bb lb mb Fl hd gb ks vs vals) :
    Calls Try.prog 68 #[.pointer (some ⟨bb, 0, none⟩)] w fun e w' => e = .returned (.int .i64 (sumOf ks vs)) ∧ w = w' := by
  have hc := h.c2
  clear h
  go_enter Try.func68, Try.ntmps68
  go_wp2
  go_ret
  exact ⟨rfl, rfl⟩

set_option maxHeartbeats 1000000 in
set_option maxRecDepth 100000 in
theorem is_walk (h : BIs w bb lb mb Fl hd gb ks vs vals) (k : P2) (hk : Good k) :
    Calls Try.prog 102 #[.pointer (some ⟨bb, 0, none⟩), tri k] w fun e w' => e = .returned (.bool (decide (k ∈ ks))) ∧ Below w.heap.size w w' := by
  have h0 := h.move (W := w.alloc (.cells #[.int .i64 k.1, .int .i64 k.2.1, .int .i64 k.2.2] 60)) (fun b _ hl => Below.heap_alloc _ _ _ hl)
  have hB := Aside0.mk ((Below.refl w.heap.size w).alloc (Nat.le_refl _) (.cells #[.int .i64 k.1, .int .i64 k.2.1, .int .i64 k.2.2] 60))
  have hp := blk_new w (.cells #[.int .i64 k.1, .int .i64 k.2.1, .int .i64 k.2.2] 60)
  replace h0 := Aside0.mk h0
  clear h
  obtain ⟨k1, k2, k3⟩ := k
  unfold tri
  go_enter Try.func102, Try.ntmps102
  go_upto_region 1 with fail
  dsimp only at h0 hB hp ⊢
  generalize w.alloc (.cells #[.int .i64 k1, .int .i64 k2, .int .i64 k3] 60) = W at h0 hB hp ⊢
  generalize w.heap.size = n at hp ⊢
  have hbb : bb < W.heap.size := blk_lt h0.out.head
  have c1 := h0.out.c1
  have c2 : ∀ o, (W.alloc o).cell? ⟨bb, 1, none⟩ = some (.map (some mb)) := fun o => (World.cell?_of_block (Below.heap_alloc W o bb hbb)).trans c1
  have p0 := (blk_cell hp 0).trans (show _ = some (Value.int .i64 k1) from rfl)
  have p1 := (blk_cell hp 1).trans (show _ = some (Value.int .i64 k2) from rfl)
  have p2 := (blk_cell hp 2).trans (show _ = some (Value.int .i64 k3) from rfl)
  have p3 : ∀ o j, (W.alloc o).cell? ⟨n, j, none⟩ = W.cell? ⟨n, j, none⟩ := fun o j => World.cell?_of_block (Below.heap_alloc W o n (blk_lt hp))
  have hl : ∀ W', (∀ b, b < W.heap.size → W'.heap[b]? = W.heap[b]?) → (Instr.lookup 160 (.map (some mb)) (.agg #[.int .i64 k1, .int .i64 k2, .int .i64 k3]) true).run Try.prog W' = .ok (if (k1, k2, k3) ∈ ks then .tuple #[ownerOf (hd (k1, k2, k3)) (gb (k1, k2, k3)), .bool true] else .tuple #[noOwner, .bool false]) W' := fun W' hW' => by
    have := (h0.out.move (W := W') (fun b _ hl => hW' b hl)).own.look Try.underlying160 (zeroO W') (x := (k1, k2, k3)) hk true
    by_cases hm : (k1, k2, k3) ∈ ks
    · simp only [ownMap, hm, if_true, Option.getD_some, Option.isSome_some, triCode, ownerOf] at this ⊢
      exact this
    · simp only [ownMap, hm, if_false, if_true, Option.getD_none, Option.isSome_none, triCode, noOwner] at this ⊢
      exact this
  have hl1 := hl W.drew (fun _ _ => rfl)
  have hl2 := fun o => hl (W.alloc o).drew (fun b hb => Below.heap_alloc W o b hb)
  clear hl
  by_cases hm : (k1, k2, k3) ∈ ks
  · simp only [hm, if_true, ownerOf] at hl1 hl2
    replace hm := Aside0.mk hm
    go_region
    go_wp2_with fail
    go_ret
    exact ⟨by rw [decide_eq_true hm.out]; rfl, (hB.out.alloc (by have := hB.out.size; omega) _).drew⟩
  · simp only [hm, if_false, noOwner] at hl1 hl2
    replace hm := Aside0.mk hm
    go_region
    go_wp2_with fail
    go_ret
    exact ⟨by rw [decide_eq_false hm.out]; rfl, (hB.out.alloc (by have := hB.out.size; omega) _).drew⟩

theorem BIs.look_in (h : BIs w bb lb mb Fl hd gb ks vs vals) {k : P2} (hk : Good k) (hm : k ∈ ks) (comma : Bool) :
    (Instr.lookup 160 (.map (some mb)) (tri k) comma).run Try.prog w = .ok (if comma then .tuple #[ownerOf (hd k) (gb k), .bool true] else ownerOf (hd k) (gb k)) w := by
  have := h.own.look Try.underlying160 (zeroO w) (x := k) hk comma
  simpa only [ownMap, hm, if_true, Option.getD_some, Option.isSome_some, triCode] using this
theorem BIs.look_out (h : BIs w bb lb mb Fl hd gb ks vs vals) {k : P2} (hk : Good k) (hm : k ∉ ks) (comma : Bool) :
    (Instr.lookup 160 (.map (some mb)) (tri k) comma).run Try.prog w = .ok (if comma then .tuple #[noOwner, .bool false] else noOwner) w := by
  have := h.own.look Try.underlying160 (zeroO w) (x := k) hk comma
  simpa only [ownMap, hm, if_false, Option.getD_none, Option.isSome_none, triCode] using this
theorem by_look {W : World} {g : Nat} {l : List ByteArray} (h : MapIs strCode W g (byMap l) l.length) {v : ByteArray} (hv : v.size ≤ maxLen) :
    (Instr.lookup 164 (.map (some g)) (.string v) false).run Try.prog W = .ok (.int .i64 (if v ∈ l then 1 else 0)) W := by
  have := h.look Try.underlying164 (zeroN W) (x := v) hv false
  unfold byMap at this
  split <;> rename_i hm
  · simpa only [hm, if_true, Option.getD_some, strCode, Bool.false_eq_true, if_false] using this
  · simpa only [hm, if_false, Option.getD_none, strCode, Bool.false_eq_true] using this

def BPost (w : World) (r : Value) (bb lb mb : Nat) (Fl : Nat → Prop) (hd : P2 → Int) (gb : P2 → Nat) (ks : List P2) (vs : P2 → List ByteArray) (vals : List P2) (e : Ending) (W : World) : Prop :=
  e = .returned r ∧ BIs W bb lb mb Fl hd gb ks vs vals ∧ Ch w W (BFoot bb mb Fl gb ks)

/-- What a walk of 'x, ok := b.owners[k]' (with the struct in a new block) leaves. -/
theorem BIs.alloc (h : BIs w bb lb mb Fl hd gb ks vs vals) (o : Obj) : BIs (w.alloc o) bb lb mb Fl hd gb ks vs vals :=
  h.move fun _ _ hl => Below.heap_alloc _ _ _ hl

theorem zeroLen (w : World) (ty : TypeId) : (Builtin.len_ #[164] ty #[.map none]).run Try.prog w = .ok (.int .i64 0) w := by kernel_rfl

/-- 'b.pairs' and the blockers of an owner change. -/
theorem byMap_add {l : List ByteArray} {v : ByteArray} : (x : ByteArray) → mset (byMap l) v (some (.int .i64 1)) x = byMap (l ++ [v]) x := fun x => by
  by_cases hx : x = v
  · subst hx; rw [mset_same]; simp [byMap]
  · rw [mset_other _ hx]; simp [byMap, hx]
theorem byMap_del {l : List ByteArray} {v : ByteArray} : (x : ByteArray) → mset (byMap l) v none x = byMap (l.filter (· ≠ v)) x := fun x => by
  by_cases hx : x = v
  · subst hx; rw [mset_same]; simp [byMap]
  · rw [mset_other _ hx]; simp [byMap, hx]
theorem byMap_none {l : List ByteArray} {v : ByteArray} (h : v ∉ l) : byMap l v = none := if_neg h
theorem byMap_some {l : List ByteArray} {v : ByteArray} (h : v ∈ l) : byMap l v = some (.int .i64 1) := if_pos h

theorem sum_set {ks : List P2} (hn : ks.Nodup) {k : P2} (hk : k ∈ ks) (vs : P2 → List ByteArray) (x : List ByteArray) : sumOf ks (upd vs k x) + (vs k).length = sumOf ks vs + x.length := by
  obtain ⟨a, b, rfl⟩ := List.append_of_mem hk
  rw [sumOf_upd hn, sumOf_append, sumOf_append, sumOf_cons]
  omega

theorem bnew_walk (w : World) : Calls Try.prog 63 #[] w fun e W => ∃ bb lb mb hd gb, e = .returned (.pointer (some ⟨bb, 0, none⟩)) ∧ BIs W bb lb mb (fun b => w.heap.size ≤ b ∧ b < mb) hd gb [] (fun _ => []) [] ∧ Below w.heap.size w W ∧ w.heap.size ≤ bb ∧ w.heap.size ≤ mb := by
  have HN := Aside0.mk (new_lst w)
  have hmm := @run_makeMap Try.prog
  go_enter Try.func63, Try.ntmps63
  go_wp2_with (go_at_call 101; refine HN.out.mono ?_; rintro e W1 ⟨rfl, h1, h2⟩; replace h1 := Aside0.mk h1; replace h2 := Aside0.mk h2)
  go_ret
  have hsz := h2.out.size
  refine ⟨W1.heap.size + 1, w.heap.size + 2, W1.heap.size, fun _ => 0, fun _ => 0, rfl, ⟨?_, ?_, ?_, by simp, List.nodup_nil, fun _ _ => rfl, by simp, by simp, fun x => by omega, fun x => by omega, by simp, by simp⟩, ?_, by omega, by omega⟩
  · have := blk_new (W1.alloc (.map #[] 0)) (.cells #[.pointer (some ⟨w.heap.size + 2, 0, none⟩), .map (some W1.heap.size), .int .i64 0] 162)
    rw [show (W1.alloc (.map #[] 0)).heap.size = W1.heap.size + 1 by simp] at this
    exact this
  · exact h1.out.bound.move (fun b _ hl => (Below.heap_alloc _ _ _ (by simp; omega)).trans (Below.heap_alloc _ _ _ hl))
  · exact ((MapIs.made triCode W1).of_heap (Below.heap_alloc _ _ _ (by simp))).congr (fun x => by simp [ownMap])
  · exact (h2.out.alloc (by omega) _).alloc (by simp; omega) _

set_option maxRecDepth 100000 in
theorem open_no (h : BIs w bb lb mb Fl hd gb ks vs vals) (k : P2) (hk : Good k) (hm : k ∈ ks) :
    Calls Try.prog 65 #[.pointer (some ⟨bb, 0, none⟩), tri k] w fun e w' => e = .returned (.bool false) ∧ Below w.heap.size w w' := by
  have HI := Aside0.mk (is_walk (h.move (W := w.alloc (.cells #[.int .i64 k.1, .int .i64 k.2.1, .int .i64 k.2.2] 60)) (fun b _ hl => Below.heap_alloc _ _ _ hl)) k hk)
  have hB := Aside0.mk ((Below.refl w.heap.size w).alloc (Nat.le_refl _) (.cells #[.int .i64 k.1, .int .i64 k.2.1, .int .i64 k.2.2] 60))
  simp only [hm, decide_true] at HI
  clear h
  obtain ⟨k1, k2, k3⟩ := k
  unfold tri at HI ⊢
  dsimp only at HI hB ⊢
  go_enter Try.func65, Try.ntmps65
  go_wp2_with (go_at_call 102; refine HI.out.mono ?_; rintro e w1 ⟨rfl, h1⟩; replace h1 := Aside0.mk h1)
  go_ret
  exact ⟨rfl, hB.out.trans (h1.out.mono hB.out.size)⟩

end
end Go.Proofs.Ytnncomhgclffaaa.BT
