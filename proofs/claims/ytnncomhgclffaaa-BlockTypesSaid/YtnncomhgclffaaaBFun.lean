/- The functions of package block at (string, int): what each answers and what it leaves. -/
import Derived.Test.YtnncomhgclffaaaBMem
import Derived.BigQuiet
namespace Go.Proofs.Ytnncomhgclffaaa.BI
open Go.RowKit Go.Shelf Go.Proofs.YtnncomhgclffaaaW.PrintWords Go.Proofs.YtnncomhgclffaaaL Go.Proofs.Ytnncomhgclffaaa.LL Go.Proofs.Ytnncomhgclffaaa.LS

section
variable {w W : World} {bb lb mb : Nat} {Fl : Nat → Prop} {hd : ByteArray → Int} {gb : ByteArray → Nat} {ks : List ByteArray} {vs : ByteArray → List Int} {vals : List ByteArray}

def noOwner : Value := .agg #[.int .i64 0, .map none]
theorem zeroO (w : World) : (zeroValue 176).run Try.prog w = .ok noOwner w := by kernel_rfl
theorem zeroN (w : World) : (zeroValue 3).run Try.prog w = .ok (.int .i64 0) w := by kernel_rfl

theorem field176 (a b : Value) (w : World) : (Instr.field 176 (.agg #[a, b]) 1).run Try.prog w = .ok b w := by kernel_rfl
attribute [local go_sem] field176

theorem BIs.c0 (h : BIs w bb lb mb Fl hd gb ks vs vals) : w.cell? ⟨bb, 0, none⟩ = some (.pointer (some ⟨lb, 0, none⟩)) := (blk_cell h.head 0).trans rfl
theorem BIs.c1 (h : BIs w bb lb mb Fl hd gb ks vs vals) : w.cell? ⟨bb, 1, none⟩ = some (.map (some mb)) := (blk_cell h.head 1).trans rfl
theorem BIs.c2 (h : BIs w bb lb mb Fl hd gb ks vs vals) : w.cell? ⟨bb, 2, none⟩ = some (.int .i64 (sumOf ks vs)) := (blk_cell h.head 2).trans rfl

theorem blen_walk (h : BIs w bb lb mb Fl hd gb ks vs vals) :
    Calls Try.prog 80 #[.pointer (some ⟨bb, 0, none⟩)] w fun e w' => e = .returned (.int .i64 ks.length) ∧ w = w' := by
  have hc := h.c1
  have HM := Aside0.mk h.own
  clear h
  go_enter Try.func80, Try.ntmps80
  go_wp2_with (at_len; refine len_at HM.out rfl _ 171 rfl Try.underlying171 rfl ?_)
  go_ret
  exact ⟨rfl, rfl⟩

theorem pairs_walk (h : BIs w bb lb mb Fl hd gb ks vs vals) :
    Calls Try.prog 81 #[.pointer (some ⟨bb, 0, none⟩)] w fun e w' => e = .returned (.int .i64 (sumOf ks vs)) ∧ w = w' := by
  have hc := h.c2
  clear h
  go_enter Try.func81, Try.ntmps81
  go_wp2
  go_ret
  exact ⟨rfl, rfl⟩

theorem is_walk (h : BIs w bb lb mb Fl hd gb ks vs vals) (k : ByteArray) (hk : k.size ≤ maxLen) :
    Calls Try.prog 82 #[.pointer (some ⟨bb, 0, none⟩), .string k] w fun e w' => e = .returned (.bool (decide (k ∈ ks))) ∧ Below w.heap.size w w' := by
  have hc := h.c1
  have hl := h.own.look Try.underlying171 (zeroO w) (x := k) hk true
  by_cases hm : k ∈ ks
  · simp only [ownMap, hm, if_true, Option.getD_some, Option.isSome_some, strCode, ownerOf] at hl
    simp only [hm, decide_true]
    clear h
    go_enter Try.func82, Try.ntmps82
    go_wp2
    go_ret
    exact ⟨rfl, (Below.refl _ w).alloc (Nat.le_refl _) _⟩
  · simp only [ownMap, hm, if_false, Option.getD_none, Option.isSome_none, strCode, noOwner, if_true] at hl
    simp only [hm, decide_false]
    clear h
    go_enter Try.func82, Try.ntmps82
    go_wp2
    go_ret
    exact ⟨rfl, (Below.refl _ w).alloc (Nat.le_refl _) _⟩

theorem BIs.look_in (h : BIs w bb lb mb Fl hd gb ks vs vals) {k : ByteArray} (hk : k.size ≤ maxLen) (hm : k ∈ ks) (comma : Bool) :
    (Instr.lookup 171 (.map (some mb)) (.string k) comma).run Try.prog w = .ok (if comma then .tuple #[ownerOf (hd k) (gb k), .bool true] else ownerOf (hd k) (gb k)) w := by
  have := h.own.look Try.underlying171 (zeroO w) (x := k) hk comma
  simpa only [ownMap, hm, if_true, Option.getD_some, Option.isSome_some, strCode] using this
theorem BIs.look_out (h : BIs w bb lb mb Fl hd gb ks vs vals) {k : ByteArray} (hk : k.size ≤ maxLen) (hm : k ∉ ks) (comma : Bool) :
    (Instr.lookup 171 (.map (some mb)) (.string k) comma).run Try.prog w = .ok (if comma then .tuple #[noOwner, .bool false] else noOwner) w := by
  have := h.own.look Try.underlying171 (zeroO w) (x := k) hk comma
  simpa only [ownMap, hm, if_false, Option.getD_none, Option.isSome_none, strCode] using this
theorem by_look {W : World} {g : Nat} {l : List Int} (h : MapIs intCode W g (byMap l) l.length) {v : Int} (hv : (Lit.int .i64 v).wf = true) :
    (Instr.lookup 174 (.map (some g)) (.int .i64 v) false).run Try.prog W = .ok (.int .i64 (if v ∈ l then 1 else 0)) W := by
  have := h.look Try.underlying174 (zeroN W) (x := v) hv false
  unfold byMap at this
  split <;> rename_i hm
  · simpa only [hm, if_true, Option.getD_some, intCode, Bool.false_eq_true, if_false] using this
  · simpa only [hm, if_false, Option.getD_none, intCode, Bool.false_eq_true] using this

set_option maxRecDepth 100000 in
theorem count_walk (h : BIs w bb lb mb Fl hd gb ks vs vals) (k : ByteArray) (hk : k.size ≤ maxLen) :
    Calls Try.prog 83 #[.pointer (some ⟨bb, 0, none⟩), .string k] w fun e w' => e = .returned (.int .i64 (vs k).length) ∧ w = w' := by
  have hc := h.c1
  by_cases hm : k ∈ ks
  · have hl := h.look_in hk hm false
    have HM := Aside0.mk (h.by_ k hm)
    simp only [ownerOf, Bool.false_eq_true, if_false] at hl
    clear h
    go_enter Try.func83, Try.ntmps83
    go_wp2_with (at_len; refine len_at HM.out rfl _ 174 rfl Try.underlying174 rfl ?_)
    go_ret
    exact ⟨rfl, rfl⟩
  · have hl := h.look_out hk hm false
    simp only [noOwner, Bool.false_eq_true, if_false] at hl
    rw [h.emp k hm]
    clear h
    go_enter Try.func83, Try.ntmps83
    go_wp2
    go_ret
    exact ⟨rfl, rfl⟩

def BPost (w : World) (r : Value) (bb lb mb : Nat) (Fl : Nat → Prop) (hd : ByteArray → Int) (gb : ByteArray → Nat) (ks : List ByteArray) (vs : ByteArray → List Int) (vals : List ByteArray) (e : Ending) (W : World) : Prop :=
  e = .returned r ∧ BIs W bb lb mb Fl hd gb ks vs vals ∧ Ch w W (BFoot bb mb Fl gb ks)

/-- What a walk of 'x, ok := b.owners[k]' (with the struct in a new block) leaves. -/
theorem BIs.alloc (h : BIs w bb lb mb Fl hd gb ks vs vals) (o : Obj) : BIs (w.alloc o) bb lb mb Fl hd gb ks vs vals :=
  h.move fun _ _ hl => Below.heap_alloc _ _ _ hl

set_option maxRecDepth 100000 in
theorem block_no (h : BIs w bb lb mb Fl hd gb ks vs vals) (k : ByteArray) (v : Int) (hk : k.size ≤ maxLen) (hv : (Lit.int .i64 v).wf = true) (hn : v ∈ vs k ∨ k ∉ ks) :
    Calls Try.prog 76 #[.pointer (some ⟨bb, 0, none⟩), .string k, .int .i64 v] w fun e w' => e = .returned (.tuple #[.bool false, .bool false]) ∧ Below w.heap.size w w' := by
  have hc := h.c1
  by_cases hm : k ∈ ks
  · have hl := h.look_in hk hm true
    have hv2 := hn.resolve_right (fun x => x hm)
    have hbl : (Instr.lookup 174 (.map (some (gb k))) (.int .i64 v) false).run Try.prog (w.alloc (.cells #[.int .i64 (hd k), .map (some (gb k))] 176)) = .ok (.int .i64 1) (w.alloc (.cells #[.int .i64 (hd k), .map (some (gb k))] 176)) := by
      have := by_look (W := w.alloc (.cells #[.int .i64 (hd k), .map (some (gb k))] 176)) ((h.by_ k hm).of_heap (Below.heap_alloc _ _ _ (h.by_ k hm).lt)) hv
      simpa only [hv2, if_true] using this
    simp only [ownerOf, if_true] at hl
    clear h hn
    go_enter Try.func76, Try.ntmps76
    go_wp2
    go_ret2
    exact ⟨rfl, (Below.refl _ w).alloc (Nat.le_refl _) _⟩
  · have hl := h.look_out hk hm true
    simp only [noOwner, if_true] at hl
    clear h hn
    go_enter Try.func76, Try.ntmps76
    go_wp2
    go_ret2
    exact ⟨rfl, (Below.refl _ w).alloc (Nat.le_refl _) _⟩

theorem zeroLen (w : World) (ty : TypeId) : (Builtin.len_ #[174] ty #[.map none]).run Try.prog w = .ok (.int .i64 0) w := by kernel_rfl

/-- 'b.pairs' and the blockers of an owner change. -/
theorem byMap_add {l : List Int} {v : Int} : (x : Int) → mset (byMap l) v (some (.int .i64 1)) x = byMap (l ++ [v]) x := fun x => by
  by_cases hx : x = v
  · subst hx; rw [mset_same]; simp [byMap]
  · rw [mset_other _ hx]; simp [byMap, hx]
theorem byMap_del {l : List Int} {v : Int} : (x : Int) → mset (byMap l) v none x = byMap (l.filter (· ≠ v)) x := fun x => by
  by_cases hx : x = v
  · subst hx; rw [mset_same]; simp [byMap]
  · rw [mset_other _ hx]; simp [byMap, hx]
theorem byMap_none {l : List Int} {v : Int} (h : v ∉ l) : byMap l v = none := if_neg h
theorem byMap_some {l : List Int} {v : Int} (h : v ∈ l) : byMap l v = some (.int .i64 1) := if_pos h

theorem sum_set {ks : List ByteArray} (hn : ks.Nodup) {k : ByteArray} (hk : k ∈ ks) (vs : ByteArray → List Int) (x : List Int) : sumOf ks (upd vs k x) + (vs k).length = sumOf ks vs + x.length := by
  obtain ⟨a, b, rfl⟩ := List.append_of_mem hk
  rw [sumOf_upd hn, sumOf_append, sumOf_append, sumOf_cons]
  omega

set_option maxRecDepth 100000 in
theorem block_yes (h : BIs w bb lb mb Fl hd gb ks vs vals) (k : ByteArray) (v : Int) (hk : k.size ≤ maxLen) (hv : (Lit.int .i64 v).wf = true) (hm : k ∈ ks) (hnv : v ∉ vs k) (hN : sumOf ks vs < 100000) :
    Calls Try.prog 76 #[.pointer (some ⟨bb, 0, none⟩), .string k, .int .i64 v] w
      (BPost w (.tuple #[.bool (decide ((vs k).length = 0)), .bool true]) bb lb mb Fl hd gb ks (upd vs k (vs k ++ [v])) vals) := by
  have hc := h.c1
  have hl := h.look_in hk hm true
  have h0 := h.alloc (.cells #[.int .i64 (hd k), .map (some (gb k))] 176)
  have hby := by_look (h0.by_ k hm) hv
  have hgg := h0.by_ k hm
  obtain ⟨W3, hst, hm3, hg3, hz3⟩ := hgg.store Try.underlying174 hv (.int .i64 1)
  rw [byMap_none hnv] at hm3
  simp only [intCode] at hst
  simp only [hnv, if_false] at hby
  simp only [ownerOf, if_true] at hl
  simp only [Option.isSome_none, Bool.false_eq_true, if_false] at hm3
  have hglt := (h.by_ k hm).lt
  have hblt := blk_lt h.head
  have hgne := h.g_ne hm
  have hsum := sum_set h.nk hm vs (vs k ++ [v])
  have hlen := sumOf_at hm vs
  have hh3 : W3.heap[bb]? = some (.cells #[.pointer (some ⟨lb, 0, none⟩), .map (some mb), .int .i64 (sumOf ks vs)] 173 (0, 0)) := (hg3.block bb (by simp; omega) (by simpa using Ne.symm hgne)).trans h0.head
  have hq3 : W3.heap[w.heap.size]? = some (.cells #[.int .i64 (hd k), .map (some (gb k))] 176 (0, 0)) := (hg3.block _ (by simp) (by simp; omega)).trans (blk_new _ _)
  have hc3 : W3.cell? ⟨bb, 2, none⟩ = some (.int .i64 (sumOf ks vs)) := (blk_cell hh3 2).trans rfl
  have hf3 : W3.frozen? ⟨bb, 2, none⟩ = false := blk_frozen hh3 2
  have hq4 : (W3.setCell ⟨bb, 2, none⟩ (.int .i64 ((sumOf ks vs : Int) + 1))).cell? ⟨w.heap.size, 1, none⟩ = some (.map (some (gb k))) := (blk_cell (blk_far hq3 (by show w.heap.size ≠ bb; omega) _) 1).trans rfl
  have hm4 : MapIs intCode (W3.setCell ⟨bb, 2, none⟩ (.int .i64 ((sumOf ks vs : Int) + 1))) (gb k) (byMap (vs k ++ [v])) (vs k ++ [v]).length := by
    rw [List.length_append]
    exact (hm3.congr byMap_add).of_heap (Below.heap_setCell _ _ _ _ hgne)
  have hfin := h0.changed (W := W3.setCell ⟨bb, 2, none⟩ (.int .i64 ((sumOf ks vs : Int) + 1))) (x := vs k ++ [v]) hm (by
    rw [show ((sumOf ks (upd vs k (vs k ++ [v])) : Nat) : Int) = (sumOf ks vs : Int) + 1 by rw [List.length_append, List.length_singleton] at hsum; omega]
    exact blk_set hh3 2 _) hm4 (fun b hb h1 h2 => (Below.heap_setCell _ _ _ _ h1).trans (hg3.block b hb (by simpa using h2)))
  have hch : Ch w (W3.setCell ⟨bb, 2, none⟩ (.int .i64 ((sumOf ks vs : Int) + 1))) (BFoot bb mb Fl gb ks) :=
    (((Ch.refl w _).alloc _).grown hg3 (fun b e _ => by cases e; exact .inr (.inr (.inr ⟨k, hm, rfl⟩)))).setCell ⟨bb, 2, none⟩ (fun _ => .inl rfl) _
  replace hfin := Aside0.mk hfin
  replace hch := Aside0.mk hch
  replace hm4 := Aside0.mk hm4
  clear h h0 hgg hm3 hg3 hz3 hglt hblt hgne hsum hh3 hq3
  go_enter Try.func76, Try.ntmps76
  go_wp2_with (at_len; refine len_at hm4.out rfl _ 174 rfl Try.underlying174 rfl ?_)
  go_ret2
  exact ⟨congrArg (fun b => Ending.returned (.tuple #[.bool b, .bool true])) (show (((vs k).length : Int) + 1 == 1) = decide ((vs k).length = 0) by rw [Bool.eq_iff_iff, beq_iff_eq, decide_eq_true_iff]; omega), hfin.out, hch.out⟩

set_option maxRecDepth 100000 in
theorem free_no (h : BIs w bb lb mb Fl hd gb ks vs vals) (k : ByteArray) (v : Int) (hk : k.size ≤ maxLen) (hv : (Lit.int .i64 v).wf = true) (hn : v ∉ vs k) :
    Calls Try.prog 78 #[.pointer (some ⟨bb, 0, none⟩), .string k, .int .i64 v] w fun e w' => e = .returned (.tuple #[.bool false, .bool false]) ∧ Below w.heap.size w w' := by
  have hc := h.c1
  by_cases hm : k ∈ ks
  · have hl := h.look_in hk hm false
    have hbl : (Instr.lookup 174 (.map (some (gb k))) (.int .i64 v) false).run Try.prog (w.alloc (.cells #[.int .i64 (hd k), .map (some (gb k))] 176)) = .ok (.int .i64 0) (w.alloc (.cells #[.int .i64 (hd k), .map (some (gb k))] 176)) := by
      have := by_look (W := w.alloc (.cells #[.int .i64 (hd k), .map (some (gb k))] 176)) ((h.by_ k hm).of_heap (Below.heap_alloc _ _ _ (h.by_ k hm).lt)) hv
      simpa only [hn, if_false] using this
    simp only [ownerOf, Bool.false_eq_true, if_false] at hl
    clear h hn
    go_enter Try.func78, Try.ntmps78
    go_wp2
    go_ret2
    exact ⟨rfl, (Below.refl _ w).alloc (Nat.le_refl _) _⟩
  · have hl := h.look_out hk hm false
    have hbl : (Instr.lookup 174 (.map none) (.int .i64 v) false).run Try.prog (w.alloc (.cells #[.int .i64 0, .map none] 176)) = .ok (.int .i64 0) (w.alloc (.cells #[.int .i64 0, .map none] 176)) := by
      have := look_nilmap (w := w.alloc (.cells #[.int .i64 0, .map none] 176)) Try.underlying174 (zeroN _) intCode hv false
      simpa only [Bool.false_eq_true, if_false, intCode] using this
    simp only [noOwner, Bool.false_eq_true, if_false] at hl
    clear h hn
    go_enter Try.func78, Try.ntmps78
    go_wp2
    go_ret2
    exact ⟨rfl, (Below.refl _ w).alloc (Nat.le_refl _) _⟩

theorem filter_len {l : List Int} (hn : l.Nodup) {v : Int} (hv : v ∈ l) : (l.filter (· ≠ v)).length = l.length - 1 := by
  have := List.Nodup.erase_eq_filter hn v
  rw [show (l.filter (· ≠ v)) = l.filter (· != v) from List.filter_congr (fun x _ => by by_cases h : x = v <;> simp [h]), ← this, List.length_erase_of_mem hv]

set_option maxRecDepth 100000 in
theorem free_yes (h : BIs w bb lb mb Fl hd gb ks vs vals) (k : ByteArray) (v : Int) (hk : k.size ≤ maxLen) (hv : (Lit.int .i64 v).wf = true) (hm : k ∈ ks) (hnv : v ∈ vs k) (hnd : (vs k).Nodup) (hN : sumOf ks vs < 100000) :
    Calls Try.prog 78 #[.pointer (some ⟨bb, 0, none⟩), .string k, .int .i64 v] w
      (BPost w (.tuple #[.bool (decide ((vs k).length = 1)), .bool true]) bb lb mb Fl hd gb ks (upd vs k ((vs k).filter (· ≠ v))) vals) := by
  have hc := h.c1
  have hl := h.look_in hk hm false
  have h0 := h.alloc (.cells #[.int .i64 (hd k), .map (some (gb k))] 176)
  have hby := by_look (h0.by_ k hm) hv
  have hgg := h0.by_ k hm
  have hpos : 0 < (vs k).length := List.length_pos_of_mem hnv
  have hfl := filter_len hnd hnv
  obtain ⟨W3, hst, hm3, hg3, hz3⟩ := hgg.drop Try.underlying174 hv 0
  have hst' : ∀ ty, (Builtin.delete_ #[174, 3] ty #[.map (some (gb k)), .int .i64 v]).run Try.prog (w.alloc (.cells #[.int .i64 (hd k), .map (some (gb k))] 176)) = .ok (.tuple #[]) W3 := fun _ => hst
  rw [byMap_some hnv] at hm3
  simp only [hnv, if_true] at hby
  simp only [ownerOf, Bool.false_eq_true, if_false] at hl
  simp only [Option.isSome_some, if_true] at hm3
  have hglt := (h.by_ k hm).lt
  have hblt := blk_lt h.head
  have hgne := h.g_ne hm
  have hsum := sum_set h.nk hm vs ((vs k).filter (· ≠ v))
  have hlen := sumOf_at hm vs
  have hh3 : W3.heap[bb]? = some (.cells #[.pointer (some ⟨lb, 0, none⟩), .map (some mb), .int .i64 (sumOf ks vs)] 173 (0, 0)) := (hg3.block bb (by simp; omega) (by simpa using Ne.symm hgne)).trans h0.head
  have hq3 : W3.heap[w.heap.size]? = some (.cells #[.int .i64 (hd k), .map (some (gb k))] 176 (0, 0)) := (hg3.block _ (by simp) (by simp; omega)).trans (blk_new _ _)
  have hc3 : W3.cell? ⟨bb, 2, none⟩ = some (.int .i64 (sumOf ks vs)) := (blk_cell hh3 2).trans rfl
  have hf3 : W3.frozen? ⟨bb, 2, none⟩ = false := blk_frozen hh3 2
  have hq4 : (W3.setCell ⟨bb, 2, none⟩ (.int .i64 ((sumOf ks vs : Int) - 1))).cell? ⟨w.heap.size, 1, none⟩ = some (.map (some (gb k))) := (blk_cell (blk_far hq3 (by show w.heap.size ≠ bb; omega) _) 1).trans rfl
  have hm4 : MapIs intCode (W3.setCell ⟨bb, 2, none⟩ (.int .i64 ((sumOf ks vs : Int) - 1))) (gb k) (byMap ((vs k).filter (· ≠ v))) ((vs k).length - 1) :=
    (hm3.congr byMap_del).of_heap (Below.heap_setCell _ _ _ _ hgne)
  have hfin := h0.changed (W := W3.setCell ⟨bb, 2, none⟩ (.int .i64 ((sumOf ks vs : Int) - 1))) (x := (vs k).filter (· ≠ v)) hm (by
    rw [show ((sumOf ks (upd vs k ((vs k).filter (· ≠ v))) : Nat) : Int) = (sumOf ks vs : Int) - 1 by omega]
    exact blk_set hh3 2 _) (by rw [hfl]; exact hm4) (fun b hb h1 h2 => (Below.heap_setCell _ _ _ _ h1).trans (hg3.block b hb (by simpa using h2)))
  have hch : Ch w (W3.setCell ⟨bb, 2, none⟩ (.int .i64 ((sumOf ks vs : Int) - 1))) (BFoot bb mb Fl gb ks) :=
    (((Ch.refl w _).alloc _).grown hg3 (fun b e _ => by cases e; exact .inr (.inr (.inr ⟨k, hm, rfl⟩)))).setCell ⟨bb, 2, none⟩ (fun _ => .inl rfl) _
  replace hfin := Aside0.mk hfin
  replace hch := Aside0.mk hch
  replace hm4 := Aside0.mk hm4
  replace hpos := Aside0.mk hpos
  clear h h0 hgg hm3 hg3 hz3 hglt hblt hgne hsum hh3 hq3 hst hfl
  go_enter Try.func78, Try.ntmps78
  go_wp2_with (at_len; refine len_at hm4.out rfl _ 174 rfl Try.underlying174 rfl ?_)
  go_ret2
  have := hpos.out
  exact ⟨congrArg (fun b => Ending.returned (.tuple #[.bool b, .bool true])) (show ((((vs k).length - 1 : Nat) : Int) == 0) = decide ((vs k).length = 1) by rw [Bool.eq_iff_iff, beq_iff_eq, decide_eq_true_iff]; omega), hfin.out, hch.out⟩

theorem bnew_walk (w : World) : Calls Try.prog 70 #[] w fun e W => ∃ bb lb mb hd gb, e = .returned (.pointer (some ⟨bb, 0, none⟩)) ∧ BIs W bb lb mb (fun b => w.heap.size ≤ b ∧ b < mb) hd gb [] (fun _ => []) [] ∧ Below w.heap.size w W ∧ w.heap.size ≤ bb ∧ w.heap.size ≤ mb := by
  have HN := Aside0.mk (new_lst w)
  have hmm := @run_makeMap Try.prog
  go_enter Try.func70, Try.ntmps70
  go_wp2_with (go_at_call 42; refine HN.out.mono ?_; rintro e W1 ⟨rfl, h1, h2⟩; replace h1 := Aside0.mk h1; replace h2 := Aside0.mk h2)
  go_ret
  have hsz := h2.out.size
  refine ⟨W1.heap.size + 1, w.heap.size + 2, W1.heap.size, fun _ => 0, fun _ => 0, rfl, ⟨?_, ?_, ?_, by simp, List.nodup_nil, fun _ _ => rfl, by simp, by simp, fun x => by omega, fun x => by omega, by simp, by simp⟩, ?_, by omega, by omega⟩
  · have := blk_new (W1.alloc (.map #[] 0)) (.cells #[.pointer (some ⟨w.heap.size + 2, 0, none⟩), .map (some W1.heap.size), .int .i64 0] 173)
    rw [show (W1.alloc (.map #[] 0)).heap.size = W1.heap.size + 1 by simp] at this
    exact this
  · exact h1.out.bound.move (fun b _ hl => (Below.heap_alloc _ _ _ (by simp; omega)).trans (Below.heap_alloc _ _ _ hl))
  · exact ((MapIs.made strCode W1).of_heap (Below.heap_alloc _ _ _ (by simp))).congr (fun x => by simp [ownMap])
  · exact (h2.out.alloc (by omega) _).alloc (by simp; omega) _

theorem open_no (h : BIs w bb lb mb Fl hd gb ks vs vals) (k : ByteArray) (hk : k.size ≤ maxLen) (hm : k ∈ ks) :
    Calls Try.prog 73 #[.pointer (some ⟨bb, 0, none⟩), .string k] w fun e w' => e = .returned (.bool false) ∧ Below w.heap.size w w' := by
  have HI := Aside0.mk (is_walk h k hk)
  simp only [hm, decide_true] at HI
  clear h
  go_enter Try.func73, Try.ntmps73
  go_wp2_with (go_at_call 82; refine HI.out.mono ?_; rintro e w1 ⟨rfl, h1⟩; replace h1 := Aside0.mk h1)
  go_ret
  exact ⟨rfl, h1.out⟩

end
end Go.Proofs.Ytnncomhgclffaaa.BI
