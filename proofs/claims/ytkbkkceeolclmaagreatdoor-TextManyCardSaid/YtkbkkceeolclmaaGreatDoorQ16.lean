/- A name's symbol, as it will be. A word's term, and the reader's beginning. -/
import Derived.Test.YtkbkkceeolclmaaGreatDoorQ15
import Derived.Test.YtkbkkceeolclmaaGreatDoorQ09
set_option linter.unusedVariables false
set_option linter.unusedSimpArgs false
namespace Go.Proofs.YtkbkkceeolclmaaGreatDoor.X
open Go.RowKit Go.TX Go.Proofs.YtkbkkceeolclmaaGreatDoorW.PrintWords Go.Proofs.YtkbkkceeolclmaaGreatDoorL
attribute [local go_sem] YReg.envOf
theorem seenOf_snoc {ns fr : List (List UInt8)} {s : List UInt8} (h : s ∉ fr) (x : ByteArray) : mset (seenOf ns fr) (str s) (some (.int .i64 ((ns.length : Int) + ((fr.length : Int) + 1)))) x = seenOf ns (fr ++ [s]) x := by
  by_cases hx : x = str s
  · subst hx
    rw [mset_same]
    unfold seenOf
    have e : (str s).data.toList = s := by simp
    rw [e, if_pos (by simp), findN_snoc h]
    rfl
  · rw [mset_other _ hx]
    unfold seenOf
    have hne : x.data.toList ≠ s := fun e => hx (by rw [← e, str_toList])
    by_cases hm : x.data.toList ∈ fr
    · rw [if_pos hm, if_pos (by simp [hm]), findN_old hm]
    · rw [if_neg hm, if_neg (by simp [hm, hne])]
theorem seen_look {w : World} {m : Nat} {ns fr : List (List UInt8)} (h : MapIs strCode w m (seenOf ns fr) fr.length) (s : List UInt8) (hs : s.length ≤ 1000000) :
    (Instr.lookup 86 (.map (some m)) (.string (str s)) false).run Tryz.prog w = .ok (.int .i64 (if s ∈ fr then (ns.length : Int) + (findN fr s : Nat) else 0)) w := by
  have hmax : 1000000 ≤ maxLen := by decide
  have := h.look Tryz.underlying86 (zero3 w) (x := str s) (show (str s).size ≤ maxLen by rw [str_size]; omega) false
  by_cases hm : s ∈ fr
  · simpa [seenOf, strCode, hm] using this
  · simpa [seenOf, strCode, hm, findN] using this
set_option maxRecDepth 100000 in
set_option maxHeartbeats 4000000 in
theorem symr_walk {w : World} {T F : Nat → Prop} {r tb : Nat} {ws ns fr : List (List UInt8)} (h : RdE w T F r tb ws ns fr) (s : List UInt8) (hs : s.length ≤ 100000) (hl : ns.length + fr.length ≤ 100000) :
    Calls Tryz.prog 44 #[.pointer (some ⟨r, 0, none⟩), .string (str s)] w fun e W => e = .returned (.tuple #[.int .i64 (if rightName (str s) then (findN (addN (ns ++ fr) s) s : Nat) else 0), .bool (rightName (str s))]) ∧ Fr w W F ∧ RdX w F W T r tb ws ns (if rightName (str s) then freshN ns fr s else fr) := by
  obtain ⟨Wv, Fv, sm, h⟩ := h
  have hrt := Aside0.mk (right_walk (str s) (by rw [str_size]; omega) w)
  have hh := Aside0.mk h
  cases hr : rightName (str s) with
  | false =>
    rw [hr] at hrt
    simp only [Bool.false_eq_true, if_false]
    clear hr h
    go_enter Tryz.func44, Tryz.ntmps44
    go_wp2_with (go_at_call 35; refine hrt.out.mono ?_; rintro e w2 ⟨rfl, hb⟩; replace hb := Aside0.mk hb)
    go_ret2
    exact ⟨rfl, Fr.of_below hb.out F, RdX.same ⟨Wv, Fv, sm, hh.out.below hb.out⟩⟩
  | true =>
    rw [hr] at hrt
    simp only [if_true]
    have hfind := Aside0.mk (fun (W : World) (hW : Below w.heap.size w W) => find_walk (h.table.below hW) s (by omega))
    by_cases hm : s ∈ ns
    · have e1 : freshN ns fr s = fr := by unfold freshN; rw [if_pos (by simp [hm])]
      have e2 : findN (addN (ns ++ fr) s) s = findN ns s := by rw [addN_old (by simp [hm]), findN_app, if_pos hm]
      rw [e1, e2]
      rw [decide_eq_true hm] at hfind
      clear e1 e2 hm hr h
      go_enter Tryz.func44, Tryz.ntmps44
      go_wp2_with (first | (go_at_call 35; refine hrt.out.mono ?_; rintro e w2 ⟨rfl, hb⟩; have t1 := (blk_cell ((hb.block r (blk_lt hh.out.head)).trans hh.out.head) 1).trans (show _ = some (Value.pointer (some ⟨tb, 0, none⟩)) from rfl); have hf2 := Aside0.mk (hfind.out w2 hb); replace hb := Aside0.mk hb) | (go_at_call 64; refine hf2.out.mono ?_; rintro e w3 ⟨rfl, rfl⟩))
      go_ret2
      exact ⟨rfl, Fr.of_below hb.out F, RdX.same ⟨Wv, Fv, sm, hh.out.below hb.out⟩⟩
    · rw [decide_eq_false hm] at hfind
      have hsl := Aside0.mk (fun (W : World) (hW : Below w.heap.size w W) => seen_look (h.seen.of_heap (hW.block sm h.seen.lt)) s (by omega))
      by_cases hmf : s ∈ fr
      · have e1 : freshN ns fr s = fr := by unfold freshN; rw [if_pos (by simp [hmf])]
        have e2 : findN (addN (ns ++ fr) s) s = ns.length + findN fr s := by rw [addN_old (by simp [hmf]), findN_app, if_neg hm, if_pos hmf]
        have hpos : 0 < findN fr s := by unfold findN; rw [if_pos hmf]; omega
        rw [e1, e2]
        rw [if_pos hmf] at hsl
        have hne : (((ns.length : Int) + (findN fr s : Nat)) == 0) = false := by rw [beq_eq_false_iff_ne]; omega
        have hcast : ((ns.length + findN fr s : Nat) : Int) = (ns.length : Int) + (findN fr s : Nat) := by omega
        rw [hcast]
        generalize (ns.length : Int) + (findN fr s : Nat) = v at hsl hne ⊢
        clear e1 e2 hm hr h hmf hpos hcast
        go_enter Tryz.func44, Tryz.ntmps44
        go_wp2_with (first | (go_at_call 35; refine hrt.out.mono ?_; rintro e w2 ⟨rfl, hb⟩; have hx2 := (hb.block r (blk_lt hh.out.head)).trans hh.out.head; have t1 := (blk_cell hx2 1).trans (show _ = some (Value.pointer (some ⟨tb, 0, none⟩)) from rfl); have t3 := (blk_cell hx2 3).trans (show _ = some (Value.map (some sm)) from rfl); have hf2 := Aside0.mk (hfind.out w2 hb); have hsl2 := hsl.out w2 hb; replace hb := Aside0.mk hb; clear hx2) | (go_at_call 64; refine hf2.out.mono ?_; rintro e w3 ⟨rfl, rfl⟩))
        go_ret2
        exact ⟨rfl, Fr.of_below hb.out F, RdX.same ⟨Wv, Fv, sm, hh.out.below hb.out⟩⟩
      · have e1 : freshN ns fr s = fr ++ [s] := by unfold freshN; rw [if_neg (by simp [hm, hmf])]
        have e2 : ((findN (addN (ns ++ fr) s) s : Nat) : Int) = (ns.length : Int) + ((fr.length : Int) + 1) := by
          rw [← fresh_all, e1, findN_app, if_neg hm, if_pos (by simp), findN_snoc hmf]
          omega
        rw [e1, e2]
        rw [if_neg hmf] at hsl
        obtain ⟨i0, hi, hz0, hz1, hz2⟩ := info_parts info9
        replace hi := Aside0.mk hi
        replace hz0 := Aside0.mk hz0
        replace hz1 := Aside0.mk hz1
        replace hz2 := Aside0.mk hz2
        have hmax : 1000000 ≤ maxLen := by decide
        have hL1 : fr.length + 1 ≤ maxLen := by omega
        have hL2 : (fr.length + 1) * 16 ≤ 140737488355328 := by omega
        have hnot := Aside0.mk hmf
        clear e1 e2 hm hr hmf
        obtain ⟨Af, cf, rfl⟩ := owns_form h.fresh
        clear h
        go_enter Tryz.func44, Tryz.ntmps44
        go_upto_region 7 with (first | (go_at_call 35; refine hrt.out.mono ?_; rintro e w2 ⟨rfl, hb⟩; have hx2 := (hb.block r (blk_lt hh.out.head)).trans hh.out.head; have t1 := (blk_cell hx2 1).trans (show _ = some (Value.pointer (some ⟨tb, 0, none⟩)) from rfl); have t2 := (blk_cell hx2 2).trans (show _ = some (Value.slice Af fr.length cf) from rfl); have t3 := (blk_cell hx2 3).trans (show _ = some (Value.map (some sm)) from rfl); have hf2 := Aside0.mk (hfind.out w2 hb); have hsl2 := hsl.out w2 hb; replace hb := Aside0.mk hb; clear hx2) | (go_at_call 64; refine hf2.out.mono ?_; rintro e w3 ⟨rfl, rfl⟩))
        have h2 := Aside0.mk (hh.out.below hb.out)
        clear hf2 hsl2 t1 t3 hfind hsl hrt
        have hA := (Below.refl w2.heap.size w2).alloc (Nat.le_refl _) (.cells #[.string (str s)] 9)
        have h3 := Aside0.mk (h2.out.below hA)
        have hn3 := Aside0.mk (blk_new w2 (.cells #[.string (str s)] 9))
        have hb3 := Aside0.mk (hb.out.trans (hA.mono hb.out.size))
        clear hA
        have ho3 := h3.out.fresh
        go_upto_region 8 with (at_builtin; refine wpList_append_own2 rfl _ _ 22 rfl 0 9 i0 (.string ⟨#[]⟩) 1 16 Tryz.underlying22 hi.out hz0.out hz1.out hz2.out rfl (by decide) _ fr.length (cellsN fr) rfl ho3 ⟨w2.heap.size, 0, none⟩ 1 1 [.string (str s)] rfl (by decide) rfl (cells_at hn3.out) (by simp [Value.oneCell']) hL1 hL2 (Nat.zero_le _) ?_; intro v4 w4 ho4 hg4 hf4; obtain ⟨A4, c4, rfl⟩ := owns_form ho4; have hh4 := (hg4.block r (blk_lt h3.out.head) (fun e => h3.out.fresh_ne e.symm rfl)).trans h3.out.head; have f0 := blk_frozen hh4 2; have q0 := (blk_cell hh4 2).trans (show _ = some (Value.slice Af fr.length cf) from rfl); replace hh4 := Aside0.mk hh4; replace ho4 := Aside0.mk ho4; replace hg4 := Aside0.mk hg4; replace hf4 := Aside0.mk hf4)
        have hc5 := Aside0.mk (((Ch.of_below hb3.out (fun b => b = r ∨ b = sm ∨ (Value.slice Af fr.length cf).ownBlock = some b)).grown hg4.out (fun k e _ => .inr (.inr e))).setCell ⟨r, 2, none⟩ (fun _ => .inl rfl) (.slice A4 (fr.length + 1) c4))
        have hh5 := Aside0.mk (blk_put hh4.out 2 (.slice A4 (fr.length + 1) c4) rfl)
        have ho5 := Aside0.mk (owns_move (W := w4.setCell ⟨r, 2, none⟩ (.slice A4 (fr.length + 1) c4)) ho4.out (fun b _ _ e => Below.heap_setCell _ _ _ _ (by obtain ⟨cs, hcs⟩ := own_typed ho4.out b e; exact ne_type hcs hh4.out (by decide))))
        have hm5 := Aside0.mk ((h3.out.seen.of_heap (w' := w4) (hg4.out.block sm h3.out.seen.lt (fun e => h3.out.fresh_map e.symm rfl))).of_heap (w' := w4.setCell ⟨r, 2, none⟩ (.slice A4 (fr.length + 1) c4)) (Below.heap_setCell _ _ _ _ (ne_map h3.out.seen h3.out.head)))
        have hf5 := Aside0.mk (fun b (e : (Value.slice A4 (fr.length + 1) c4).ownBlock = some b) => show New w F b from (hf4.out b e).elim (fun q => .inl (hh.out.ff b q)) (fun q => .inr (Nat.le_trans hb3.out.size q)))
        clear f0 q0 hh4 ho4 hg4 hf4 h3 hn3 hb3 t2 ho3 h2
        generalize w4.setCell ⟨r, 2, none⟩ (.slice A4 (fr.length + 1) c4) = W5 at hh5 ho5 hm5 hc5 hf5 ⊢
        have ht5 := Aside0.mk (hh.out.table.move (W := W5) (fun b hb hl => hc5.out.block b hl (fun q => hh.out.apart b hb (hh.out.foot q))))
        clear w4
        have k19 : Aside0 (∀ W', YReg.Ext W5.drew W' → Calls Tryz.prog 19 #[.pointer (some ⟨tb, 0, none⟩)] W' fun e W2 => ∃ u, e = .returned u ∧ YReg.Ext W' W2 ∧ u = .int .i64 (ns.length : Nat)) := ⟨fun W' hE => (len_walk (ht5.out.below hE.of_drew)).mono fun e W2 ⟨h1, h2⟩ => ⟨_, h1, h2 ▸ YReg.Ext.refl _, rfl⟩⟩
        have s1 : ∀ W', YReg.Ext W5.drew W' → W'.cell? ⟨r, 1, none⟩ = some (.pointer (some ⟨tb, 0, none⟩)) := fun W' hE => (blk_cell ((hE.of_drew.block _ (blk_lt hh5.out)).trans hh5.out) 1).trans rfl
        have s2 : ∀ W', YReg.Ext W5.drew W' → W'.cell? ⟨r, 2, none⟩ = some (.slice A4 (fr.length + 1) c4) := fun W' hE => (blk_cell ((hE.of_drew.block _ (blk_lt hh5.out)).trans hh5.out) 2).trans rfl
        have s3 : ∀ W', YReg.Ext W5.drew W' → W'.cell? ⟨r, 3, none⟩ = some (.map (some sm)) := fun W' hE => (blk_cell ((hE.of_drew.block _ (blk_lt hh5.out)).trans hh5.out) 3).trans rfl
        refine YReg.wp_region_tail 16 none YReg.Ext YReg.Ext YReg.Ext.refl YReg.Ext.trans YReg.Ext.trans (fun _ _ h => h) (by kernel_rfl) (by kernel_rfl) (by kernel_rfl) [(0, .det (.pointer (some ⟨r, 0, none⟩))), (1, .det (.string (str s)))] (YReg.base_cons rfl (YReg.base_cons rfl YReg.base_nil)) ?_
        simp only [List.take_succ_cons, List.take_zero, List.drop_succ_cons, List.drop_zero]
        repeat (first
          | (refine YReg.walk_calld (by decide) k19.out rfl (by kernel_rfl) (by kernel_rfl) _ rfl (by kernel_rfl) (by kernel_rfl) ?_)
          | (refine YReg.run_1 (by decide) YReg.Ext.refl rfl rfl _ rfl (by kernel_rfl) (by kernel_rfl) ?_; apply Exists.intro; refine ⟨fun ρ W hE h1 => ?_, ?_⟩; (go_simp; try rfl))
          | (refine YReg.run_2 (by decide) YReg.Ext.refl rfl rfl rfl _ rfl (by kernel_rfl) (by kernel_rfl) ?_; apply Exists.intro; refine ⟨fun ρ W hE h1 h2 => ?_, ?_⟩; (go_simp; try rfl)))
        intro ρ W1 hE hn
        simp only [Act.put, List.setIfInBounds_toArray, List.set_cons_zero, List.set_cons_succ]
        have hEb := Aside0.mk hE.of_drew
        clear hn hE s1 s2 s3 k19
        have hgood : (str s).size ≤ maxLen := by rw [str_size]; omega
        obtain ⟨W6, hrun, hm6, hg6, hz6⟩ := (hm5.out.of_heap (w' := W1) (hEb.out.block sm hm5.out.lt)).store Tryz.underlying86 (x := str s) hgood (.int .i64 ((ns.length : Int) + ((fr.length : Int) + 1)))
        simp only [strCode] at hrun
        have hm6' : Aside0 (MapIs strCode W6 sm (seenOf ns (fr ++ [s])) (fr ++ [s]).length) := ⟨by
          have hnone : (seenOf ns fr (str s)).isSome = false := by unfold seenOf; rw [if_neg (by simpa using hnot.out)]; rfl
          rw [hnone] at hm6
          rw [List.length_append]
          exact hm6.congr (seenOf_snoc hnot.out)⟩
        have hsl6 := seen_look hm6'.out s (by omega)
        rw [if_pos (by simp), findN_snoc hnot.out] at hsl6
        have hcc : (ns.length : Int) + ((fr.length + 1 : Nat) : Int) = (ns.length : Int) + ((fr.length : Int) + 1) := by omega
        rw [hcc] at hsl6
        have hx1 := (hEb.out.block r (blk_lt hh5.out)).trans hh5.out
        have hm1 := hm5.out.of_heap (w' := W1) (hEb.out.block sm hm5.out.lt)
        have hh6 := (hg6.block r (blk_lt hx1) (fun e => ne_map hm1 hx1 (Option.some.inj e.symm))).trans hx1
        have x3 := (blk_cell hh6 3).trans (show _ = some (Value.map (some sm)) from rfl)
        have ho1 := owns_below ho5.out hEb.out
        have ho6 := Aside0.mk (owns_move (W := W6) ho1 (fun b _ hl e => hg6.block b hl (fun q => by
          obtain ⟨cs, hcs⟩ := own_typed ho1 b e
          exact ne_map hm1 hcs (Option.some.inj q.symm))))
        have hc6 := Aside0.mk ((hc5.out.then (Ch.of_below hEb.out (fun _ => False)) (fun _ _ q => q.elim)).grown hg6 (fun k e _ => .inr (.inl (Option.some.inj e.symm))))
        replace hh6 := Aside0.mk hh6
        clear hcc hm6 hg6 hz6 hx1 hm1 ho1
        go_wp2
        rw [hrun]
        go_wp2
        go_ret2
        have hle6 := hc6.out.size
        have ho6l := fun b (e : (Value.slice A4 (fr.length + 1) c4).ownBlock = some b) => (owner_lt ho6.out e).2
        refine ⟨by congr, Fr.of hc6.out (fun b q => hh.out.foot q) (fun b cs q => hh.out.no72 q cs), fun b => F b ∨ (w.heap.size ≤ b ∧ b < W6.heap.size), fun b q => q.imp id And.left, Wv, .slice A4 (fr.length + 1) c4, sm, ?_⟩
        refine ⟨hh6.out, (hh.out.words.mono (fun b hb q => q.elim (fun q => q.elim .inl (fun q => by omega)) .inr)).ch hc6.out (fun b _ q => .inl (.inl (hh.out.foot q))), ?_, hm6'.out, hh.out.table.move (fun b hb hl => hc6.out.block b hl (fun q => hh.out.apart b hb (hh.out.foot q))), .inl hh.out.fr_, .inl hh.out.fs, fun b e => (hf5.out b e).imp id (fun q => ⟨q, ho6l b e⟩), fun b hb => Nat.lt_of_lt_of_le (hh.out.tlt b hb) hle6, fun b q => q.elim (fun q => Nat.lt_of_lt_of_le (hh.out.flt b q) hle6) And.right, fun b hb q => q.elim (hh.out.apart b hb) (fun q => by have := hh.out.tlt b hb; omega)⟩
        rw [List.length_append]
        have e : cellsN (fr ++ [s]) = cellsN fr ++ [.string (str s)] := by simp [cellsN]
        rw [e]
        exact ho6.out
end Go.Proofs.YtkbkkceeolclmaaGreatDoor.X
namespace Go.Proofs.YtkbkkceeolclmaaGreatDoor.X
open Go.RowKit Go.TX Go.Proofs.YtkbkkceeolclmaaGreatDoorW.PrintWords Go.Proofs.YtkbkkceeolclmaaGreatDoorL
theorem Tb.tight {w : World} {F : Nat → Prop} {t : Nat} {ns : List (List UInt8)} (h : Tb w F t ns) : Tb w (fun b => F b ∧ b < w.heap.size) t ns := by
  obtain ⟨N, m, h1, h2, h3, h4, h5, h6⟩ := h
  exact ⟨N, m, h1, h2, h3, ⟨h4, blk_lt h1⟩, ⟨h5, h3.lt⟩, fun b hb => ⟨h6 b hb, (owner_lt h2 hb).2⟩⟩
set_option maxRecDepth 100000 in
theorem read_walk {w : World} {T : Nat → Prop} {tb : Nat} {ns : List (List UInt8)} (h : Tb w T tb ns) (hT : ∀ b, T b → b < w.heap.size) (hE : Env w) (s : List UInt8) (hs : s.length ≤ 100000) (hwl : (words s).length ≤ 1000000) :
    Calls Tryz.prog 33 #[.string (str s), .pointer (some ⟨tb, 0, none⟩)] w fun e W => ∃ r, e = .returned (.pointer (some ⟨r, 0, none⟩)) ∧ Below w.heap.size w W ∧ ∃ F, (∀ b, F b → w.heap.size ≤ b) ∧ RdE W T F r tb (words s) ns [] := by
  have hmm := @run_makeMap Tryz.prog
  have hsp := Aside0.mk (split_any s hs w hE)
  have hb1 := (Below.refl w.heap.size w).alloc (Nat.le_refl _) (.cells (cellsN (words s)).toArray 9)
  have hz1 : (w.alloc (.cells (cellsN (words s)).toArray 9)).heap.size = w.heap.size + 1 := by simp
  have hb2 : Below w.heap.size w ((w.alloc (.cells (cellsN (words s)).toArray 9)).alloc (.map #[] 0)) := hb1.alloc hb1.size (.map #[] 0)
  have hz2 : ((w.alloc (.cells (cellsN (words s)).toArray 9)).alloc (.map #[] 0)).heap.size = w.heap.size + 2 := by simp
  have hn := blk_new w (.cells (cellsN (words s)).toArray 9)
  have hm := MapIs.made strCode (w.alloc (.cells (cellsN (words s)).toArray 9))
  rw [hz1] at hm
  have hn2 := blk_alloc hn (.map #[] 0)
  clear hb1 hn
  replace h := Aside0.mk h
  replace hn2 := Aside0.mk hn2
  replace hm := Aside0.mk hm
  replace hb2 := Aside0.mk hb2
  have hz2' := Aside0.mk hz2
  clear hz2
  go_enter Tryz.func33, Tryz.ntmps33
  go_wp2_with (go_at_call 60; refine hsp.out.mono ?_; rintro e w1 ⟨rfl, rfl⟩)
  go_ret
  generalize (w.alloc (.cells (cellsN (words s)).toArray 9)).alloc (.map #[] 0) = W at hn2 hm hb2 hz2' ⊢
  have hA := (Below.refl W.heap.size W).alloc (Nat.le_refl _) (.cells #[.slice (some ⟨w.heap.size, 0, none⟩) (words s).length (words s).length, .pointer (some ⟨tb, 0, none⟩), .slice none 0 0, .map (some (w.heap.size + 1))] 88)
  have hr := blk_new W (.cells #[.slice (some ⟨w.heap.size, 0, none⟩) (words s).length (words s).length, .pointer (some ⟨tb, 0, none⟩), .slice none 0 0, .map (some (w.heap.size + 1))] 88)
  have hBw : Below w.heap.size w (W.alloc (.cells #[.slice (some ⟨w.heap.size, 0, none⟩) (words s).length (words s).length, .pointer (some ⟨tb, 0, none⟩), .slice none 0 0, .map (some (w.heap.size + 1))] 88)) := hb2.out.trans (hA.mono hb2.out.size)
  have hz := hz2'.out
  generalize W.alloc (.cells #[.slice (some ⟨w.heap.size, 0, none⟩) (words s).length (words s).length, .pointer (some ⟨tb, 0, none⟩), .slice none 0 0, .map (some (w.heap.size + 1))] 88) = W2 at hA hr hBw ⊢
  have hrl := blk_lt hr
  refine ⟨W.heap.size, by first | rfl | simp [hz], hBw, fun b => w.heap.size + 1 ≤ b ∧ b < W2.heap.size, fun b q => by omega, _, .slice none 0 0, w.heap.size + 1, hr, ⟨some ⟨w.heap.size, 0, none⟩, (words s).length, rfl, Nat.le_refl _, by omega, fun j hj => ⟨w.heap.size, 0, rfl, ⟨_, (hA.block _ (blk_lt hn2.out)).trans hn2.out⟩, fun q => by rcases q with q | q; omega; have := hT _ q; omega, ?_⟩⟩, World.ownsRow_nil _ _ _ _, (hm.out.of_heap (hA.block _ (by omega))).congr (fun x => by simp [seenOf]), h.out.below hBw, ⟨by omega, hrl⟩, ⟨Nat.le_refl _, by omega⟩, fun b hb => by simp [Value.ownBlock] at hb, fun b hb => Nat.lt_of_lt_of_le (hT b hb) hBw.size, fun b q => q.2, fun b hb q => by have := hT b hb; omega⟩
  rw [Nat.zero_add, blk_cell ((hA.block _ (blk_lt hn2.out)).trans hn2.out) j]
  simp [cellsN, hj]
end Go.Proofs.YtkbkkceeolclmaaGreatDoor.X
