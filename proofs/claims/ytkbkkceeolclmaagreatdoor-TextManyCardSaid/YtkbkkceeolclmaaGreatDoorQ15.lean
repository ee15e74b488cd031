/- A name is put into the program's table. The reader in memory; a name's symbol, as it will be. -/
import Derived.Test.YtkbkkceeolclmaaGreatDoorQ14
set_option linter.unusedVariables false
set_option linter.unusedSimpArgs false
namespace Go.TX
/-- The names behind Intern. -/
def internN (ns : List (List UInt8)) (s : List UInt8) : List (List UInt8) := if rightName (str s) = true ∧ ns.length < 4096 then addN ns s else ns
theorem findN_snoc {ns : List (List UInt8)} {s : List UInt8} (h : s ∉ ns) : findN (ns ++ [s]) s = ns.length + 1 := by
  unfold findN
  rw [if_pos (by simp), List.idxOf_append, if_neg h]
  simp
theorem findN_old {ns : List (List UInt8)} {s x : List UInt8} (h : x ∈ ns) : findN (ns ++ [s]) x = findN ns x := by
  unfold findN
  rw [if_pos (by simp [h]), if_pos h, List.idxOf_append, if_pos h]
end Go.TX
namespace Go.Proofs.YtkbkkceeolclmaaGreatDoor.X
open Go.RowKit Go.TX Go.Proofs.YtkbkkceeolclmaaGreatDoorW.PrintWords Go.Proofs.YtkbkkceeolclmaaGreatDoorL
theorem symOf_snoc {ns : List (List UInt8)} {s : List UInt8} (h : s ∉ ns) (x : ByteArray) : mset (symOf ns) (str s) (some (.int .i64 ((ns.length : Nat) + 1))) x = symOf (ns ++ [s]) x := by
  by_cases hx : x = str s
  · subst hx
    rw [mset_same]
    unfold symOf
    have e : (str s).data.toList = s := by simp
    rw [e, if_pos (by simp), findN_snoc h]
    rfl
  · rw [mset_other _ hx]
    unfold symOf
    have hne : x.data.toList ≠ s := fun e => hx (by rw [← e, str_toList])
    by_cases hm : x.data.toList ∈ ns
    · rw [if_pos hm, if_pos (by simp [hm]), findN_old hm]
    · rw [if_neg hm, if_neg (by simp [hm, hne])]
/-- A block of cells is not a map; cells of two types are two blocks. -/
theorem ne_map {w : World} {m b : Nat} {κ : ByteArray → Option Value} {n : Nat} {cs : Array Value} {ty : TypeId} (h : MapIs strCode w m κ n) (hb : w.heap[b]? = some (.cells cs ty (0, 0))) : m ≠ b := by
  rintro rfl
  obtain ⟨es, clock, e⟩ := h.no_cell hb
  cases e
theorem ne_type {w : World} {b c : Nat} {xs ys : Array Value} {t u : TypeId} (hb : w.heap[b]? = some (.cells xs t (0, 0))) (hc : w.heap[c]? = some (.cells ys u (0, 0))) (h : t ≠ u) : b ≠ c := by
  rintro rfl
  rw [hb] at hc
  cases hc
  exact h rfl
theorem info9 : (Tryz.prog.info? 9).map (fun i => (i.zero, i.size, i.bytes)) = some (some (.string ⟨#[]⟩), 1, 16) := by kernel_rfl
set_option maxRecDepth 100000 in
set_option maxHeartbeats 4000000 in
theorem intern_walk {w : World} {F : Nat → Prop} {t : Nat} {ns : List (List UInt8)} (h : Tb w F t ns) (s : List UInt8) (hs : s.length ≤ 100000) (hlen : ns.length ≤ 100000) :
    Calls Tryz.prog 21 #[.pointer (some ⟨t, 0, none⟩), .string (str s)] w fun e W => (∃ u, e = .returned u) ∧ Fr w W F ∧ Tb W (New w F) t (internN ns s) := by
  have hrt := Aside0.mk (right_walk (str s) (by rw [str_size]; omega) w)
  cases hr : rightName (str s) with
  | false =>
    have e : internN ns s = ns := by unfold internN; rw [if_neg (by rw [hr]; simp)]
    rw [e]
    rw [hr] at hrt
    clear e hr
    replace h := Aside0.mk h
    go_enter Tryz.func21, Tryz.ntmps21
    go_wp2_with (go_at_call 35; refine hrt.out.mono ?_; rintro e w2 ⟨rfl, hb⟩; replace hb := Aside0.mk hb)
    go_ret2
    exact ⟨⟨_, rfl⟩, Fr.of_below hb.out F, (h.out.below hb.out).mono fun b hb => .inl hb⟩
  | true =>
    rw [hr] at hrt
    obtain ⟨N, m, h1, h2, h3, hFt, hFm, hFN⟩ := h
    obtain ⟨A, c, rfl⟩ := owns_form h2
    have tb : Aside0 (Tb w F t ns) := ⟨_, m, h1, h2, h3, hFt, hFm, hFN⟩
    by_cases hm : s ∈ ns
    · have e : internN ns s = ns := by
        unfold internN
        split
        · exact addN_old hm
        · rfl
      rw [e]
      have hl := Aside0.mk (fun (W : World) (hW : Below w.heap.size w W) => sym_look (h3.of_heap (hW.block m h3.lt)) s (by omega))
      rw [decide_eq_true hm] at hl
      clear e hr hm h3
      replace h1 := Aside0.mk h1
      replace h2 := Aside0.mk h2
      go_enter Tryz.func21, Tryz.ntmps21
      go_wp2_with (go_at_call 35; refine hrt.out.mono ?_; rintro e w2 ⟨rfl, hb⟩; have t1 := (blk_cell ((hb.block t (blk_lt h1.out)).trans h1.out) 1).trans (show _ = some (Value.map (some m)) from rfl); have hl2 := hl.out w2 hb; replace hb := Aside0.mk hb)
      go_ret2
      exact ⟨⟨_, rfl⟩, Fr.of_below hb.out F, (tb.out.below hb.out).mono fun b hb => .inl hb⟩
    · have hl := Aside0.mk (fun (W : World) (hW : Below w.heap.size w W) => sym_look (h3.of_heap (hW.block m h3.lt)) s (by omega))
      rw [decide_eq_false hm] at hl
      by_cases hfull : ns.length < 4096
      · have e : internN ns s = ns ++ [s] := by unfold internN addN; rw [if_pos ⟨hr, hfull⟩, if_neg hm]
        rw [e]
        obtain ⟨i0, hi, hz0, hz1, hz2⟩ := info_parts info9
        replace hi := Aside0.mk hi
        replace hz0 := Aside0.mk hz0
        replace hz1 := Aside0.mk hz1
        replace hz2 := Aside0.mk hz2
        have hmax : 1000000 ≤ maxLen := by decide
        have hL1 : ns.length + 1 ≤ maxLen := by omega
        have hL2 : (ns.length + 1) * 16 ≤ 140737488355328 := by omega
        have hnot := Aside0.mk hm
        clear e hr hm
        replace h1 := Aside0.mk h1
        replace h2 := Aside0.mk h2
        replace h3 := Aside0.mk h3
        go_enter Tryz.func21, Tryz.ntmps21
        go_upto_region 8 with (go_at_call 35; refine hrt.out.mono ?_; rintro e w2 ⟨rfl, hb⟩; have hh := (hb.block t (blk_lt h1.out)).trans h1.out; have t1 := (blk_cell hh 1).trans (show _ = some (Value.map (some m)) from rfl); have t0 := (blk_cell hh 0).trans (show _ = some (Value.slice A ns.length c) from rfl); have hl2 := hl.out w2 hb; replace hb := Aside0.mk hb; replace hh := Aside0.mk hh)
        have hA := (Below.refl w2.heap.size w2).alloc (Nat.le_refl _) (.cells #[.string (str s)] 9)
        have hh3 := Aside0.mk (blk_alloc hh.out (.cells #[.string (str s)] 9))
        have ho3 := Aside0.mk (owns_below (owns_below h2.out hb.out) hA)
        have hn3 := Aside0.mk (blk_new w2 (.cells #[.string (str s)] 9))
        have hm3 := Aside0.mk ((h3.out.of_heap (hb.out.block m h3.out.lt)).of_heap (hA.block m (Nat.lt_of_lt_of_le h3.out.lt hb.out.size)))
        have hb3 := Aside0.mk (hb.out.alloc hb.out.size (.cells #[.string (str s)] 9))
        clear hl hrt hl2 hb hh hA
        go_upto_region 9 with (at_builtin; refine wpList_append_own2 rfl _ _ 22 rfl 0 9 i0 (.string ⟨#[]⟩) 1 16 Tryz.underlying22 hi.out hz0.out hz1.out hz2.out rfl (by decide) _ ns.length (cellsN ns) rfl ho3.out ⟨w2.heap.size, 0, none⟩ 1 1 [.string (str s)] rfl (by decide) rfl (cells_at hn3.out) (by simp [Value.oneCell']) hL1 hL2 (Nat.zero_le _) ?_; intro v4 w4 ho4 hg4 hf4; obtain ⟨A4, c4, rfl⟩ := owns_form ho4; have hh4 := (hg4.block t (blk_lt hh3.out) (fun e => (by obtain ⟨cs, hcs⟩ := own_typed ho3.out t e.symm; exact ne_type hcs hh3.out (by decide) rfl))).trans hh3.out; have f0 := blk_frozen hh4 0; have q0 := (blk_cell hh4 0).trans (show _ = some (Value.slice A ns.length c) from rfl); replace hh4 := Aside0.mk hh4; replace ho4 := Aside0.mk ho4; replace hg4 := Aside0.mk hg4; replace hf4 := Aside0.mk hf4)
        have hh5 := Aside0.mk (blk_put hh4.out 0 (.slice A4 (ns.length + 1) c4) rfl)
        have ho5 := Aside0.mk (owns_move (W := w4.setCell ⟨t, 0, none⟩ (.slice A4 (ns.length + 1) c4)) ho4.out (fun b _ _ e => Below.heap_setCell _ _ _ _ (by obtain ⟨cs, hcs⟩ := own_typed ho4.out b e; exact ne_type hcs hh4.out (by decide))))
        have hm5 := Aside0.mk ((hm3.out.of_heap (w' := w4) (hg4.out.block m hm3.out.lt (fun e => by obtain ⟨cs, hcs⟩ := own_typed ho3.out m e.symm; exact ne_map hm3.out hcs rfl))).of_heap (w' := w4.setCell ⟨t, 0, none⟩ (.slice A4 (ns.length + 1) c4)) (Below.heap_setCell _ _ _ _ (ne_map hm3.out hh3.out)))
        have hc5 := Aside0.mk (((Ch.of_below hb3.out (fun b => b = t ∨ b = m ∨ (Value.slice A ns.length c).ownBlock = some b)).grown hg4.out (fun k e _ => .inr (.inr e))).setCell ⟨t, 0, none⟩ (fun _ => .inl rfl) (.slice A4 (ns.length + 1) c4))
        have hf5 := Aside0.mk (fun b (e : (Value.slice A4 (ns.length + 1) c4).ownBlock = some b) => show New w F b from (hf4.out b e).elim (fun q => .inl (hFN b q)) (fun q => .inr (Nat.le_trans hb3.out.size q)))
        have hk5 := Aside0.mk (fun (b : Nat) (cs : Array Value) (e : b = t ∨ b = m ∨ (Value.slice A ns.length c).ownBlock = some b) (hb : w.heap[b]? = some (.cells cs 72 (0, 0))) => show False from by
          rcases e with e | e | e
          · subst e
            exact ne_type h1.out hb (by decide) rfl
          · subst e
            exact ne_map h3.out hb rfl
          · obtain ⟨cs2, hcs⟩ := own_typed h2.out b e
            exact ne_type hcs hb (by decide) rfl)
        clear f0 q0 hh4 ho4 hg4 hf4 hh3 ho3 hn3 hm3 hb3
        generalize w4.setCell ⟨t, 0, none⟩ (.slice A4 (ns.length + 1) c4) = W5 at hh5 ho5 hm5 hc5 hf5 ⊢
        have hgood : (str s).size ≤ maxLen := by rw [str_size]; omega
        obtain ⟨W6, hrun, hm6, hg6, hz6⟩ := (hm5.out.of_heap (w' := W5.drew) rfl).store Tryz.underlying86 (x := str s) hgood (.int .i64 ((ns.length : Nat) + 1))
        simp only [strCode] at hrun
        have e0 := (blk_cell hh5.out 0).trans (show _ = some (Value.slice A4 (ns.length + 1) c4) from rfl)
        have e1 := (blk_cell hh5.out 1).trans (show _ = some (Value.map (some m)) from rfl)
        have hh6 := Aside0.mk ((hg6.block t (blk_lt hh5.out) (fun e => ne_map hm5.out hh5.out (Option.some.inj e.symm))).trans hh5.out)
        have x0 := (blk_cell hh6.out 0).trans (show _ = some (Value.slice A4 (ns.length + 1) c4) from rfl)
        have hc6 := Aside0.mk (hc5.out.drew.grown hg6 (fun k e _ => .inr (.inl (Option.some.inj e.symm))))
        have ho6 := Aside0.mk (owns_move (W := W6) (show W5.drew.ownsRow 0 9 1 _ _ _ from ho5.out) (fun b _ hl e => hg6.block b hl (fun q => by
          obtain ⟨cs, hcs⟩ := own_typed ho5.out b e
          exact ne_map hm5.out hcs (Option.some.inj q.symm))))
        have hm6' : Aside0 (MapIs strCode W6 m (symOf (ns ++ [s])) (ns ++ [s]).length) := ⟨by
          have hnone : (symOf ns (str s)).isSome = false := by unfold symOf; rw [if_neg (by simpa using hnot.out)]; rfl
          rw [hnone] at hm6
          rw [List.length_append]
          exact hm6.congr (symOf_snoc hnot.out)⟩
        clear hm6 hg6 hz6
        go_region
        go_wp2
        go_ret2
        refine ⟨⟨_, rfl⟩, Fr.of hc6.out (fun b e => ?_) (fun b cs e q => hk5.out b cs e q), .slice A4 (ns.length + 1) c4, m, hh6.out, ?_, hm6'.out, .inl hFt, .inl hFm, hf5.out⟩
        · rcases e with e | e | e
          · exact e ▸ hFt
          · exact e ▸ hFm
          · exact hFN b e
        · rw [List.length_append]
          have e : cellsN (ns ++ [s]) = cellsN ns ++ [.string (str s)] := by simp [cellsN]
          rw [e]
          exact ho6.out
      · have e : internN ns s = ns := by unfold internN; rw [if_neg (by omega)]
        rw [e]
        clear e hr hm h3
        replace h1 := Aside0.mk h1
        replace h2 := Aside0.mk h2
        go_enter Tryz.func21, Tryz.ntmps21
        go_wp2_with (go_at_call 35; refine hrt.out.mono ?_; rintro e w2 ⟨rfl, hb⟩; have hh := (hb.block t (blk_lt h1.out)).trans h1.out; have t1 := (blk_cell hh 1).trans (show _ = some (Value.map (some m)) from rfl); have t0 := (blk_cell hh 0).trans (show _ = some (Value.slice A ns.length c) from rfl); have hl2 := hl.out w2 hb; replace hb := Aside0.mk hb; replace hh := Aside0.mk hh)
        go_ret2
        exact ⟨⟨_, rfl⟩, Fr.of_below hb.out F, (tb.out.below hb.out).mono fun b hb => .inl hb⟩
end Go.Proofs.YtkbkkceeolclmaaGreatDoor.X
namespace Go.TX
theorem findN_app (ns fr : List (List UInt8)) (s : List UInt8) : findN (ns ++ fr) s = if s ∈ ns then findN ns s else if s ∈ fr then ns.length + findN fr s else 0 := by
  unfold findN
  by_cases h1 : s ∈ ns
  · rw [if_pos (by simp [h1]), if_pos h1, List.idxOf_append, if_pos h1, if_pos h1]
  · rw [if_neg h1]
    by_cases h2 : s ∈ fr
    · rw [if_pos (by simp [h2]), if_pos h2, List.idxOf_append, if_neg h1, if_pos h2]
      omega
    · rw [if_neg (by simp [h1, h2]), if_neg h2]
/-- The new names behind a look at one. -/
def freshN (ns fr : List (List UInt8)) (s : List UInt8) : List (List UInt8) := if s ∈ ns ++ fr then fr else fr ++ [s]
theorem fresh_all (ns fr : List (List UInt8)) (s : List UInt8) : ns ++ freshN ns fr s = addN (ns ++ fr) s := by
  unfold freshN addN
  split <;> simp
end Go.TX
namespace Go.Proofs.YtkbkkceeolclmaaGreatDoor.X
open Go.RowKit Go.TX Go.Proofs.YtkbkkceeolclmaaGreatDoorW.PrintWords Go.Proofs.YtkbkkceeolclmaaGreatDoorL
def seenOf (ns fr : List (List UInt8)) (s : ByteArray) : Option Value := if s.data.toList ∈ fr then some (.int .i64 ((ns.length : Int) + (findN fr s.data.toList : Nat))) else none
/-- Words in a row, to be read; no block of S. -/
def WordsAt (w : World) (S : Nat → Prop) (V : Value) (ws : List (List UInt8)) : Prop :=
  ∃ A c, V = .slice A ws.length c ∧ ws.length ≤ c ∧ c ≤ 9223372036854775807 ∧ ∀ j (h : j < ws.length), ∃ b o, A = some ⟨b, o, none⟩ ∧ (∃ cs, w.heap[b]? = some (.cells cs 9 (0, 0))) ∧ ¬ S b ∧ w.cell? ⟨b, o + j, none⟩ = some (.string (str ws[j]))
theorem WordsAt.ch {w W : World} {S F : Nat → Prop} {V : Value} {ws : List (List UInt8)} (h : WordsAt w S V ws) (hc : Ch w W F) (hs : ∀ b, b < w.heap.size → F b → S b) : WordsAt W S V ws := by
  obtain ⟨A, c, h1, h2, h2', h3⟩ := h
  refine ⟨A, c, h1, h2, h2', fun j hj => ?_⟩
  obtain ⟨b, o, e, hb, hn, hcell⟩ := h3 j hj
  obtain ⟨cs, hcs⟩ := hb
  have hbl := hc.block b (blk_lt hcs) (fun q => hn (hs b (blk_lt hcs) q))
  exact ⟨b, o, e, ⟨cs, hbl.trans hcs⟩, hn, (World.cell?_of_block hbl).trans hcell⟩
theorem WordsAt.mono {w : World} {S T : Nat → Prop} {V : Value} {ws : List (List UInt8)} (h : WordsAt w S V ws) (hs : ∀ b, b < w.heap.size → T b → S b) : WordsAt w T V ws := by
  obtain ⟨A, c, h1, h2, h2', h3⟩ := h
  refine ⟨A, c, h1, h2, h2', fun j hj => ?_⟩
  obtain ⟨b, o, e, hb, hn, hcell⟩ := h3 j hj
  exact ⟨b, o, e, hb, fun q => hn (hs b (hb.elim fun _ q => blk_lt q) q), hcell⟩
/-- The reader at block r: T, F: the blocks of the table, and of what it writes itself. -/
structure Rd (w : World) (T F : Nat → Prop) (r tb : Nat) (Wv Fv : Value) (sm : Nat) (ws ns fr : List (List UInt8)) : Prop where
  head : w.heap[r]? = some (.cells #[Wv, .pointer (some ⟨tb, 0, none⟩), Fv, .map (some sm)] 88 (0, 0))
  words : WordsAt w (fun b => F b ∨ T b) Wv ws
  fresh : w.ownsRow 0 9 1 Fv fr.length (cellsN fr)
  seen : MapIs strCode w sm (seenOf ns fr) fr.length
  table : Tb w T tb ns
  fr_ : F r
  fs : F sm
  ff : ∀ b, Fv.ownBlock = some b → F b
  tlt : ∀ b, T b → b < w.heap.size
  flt : ∀ b, F b → b < w.heap.size
  apart : ∀ b, T b → ¬ F b
def RdE (w : World) (T F : Nat → Prop) (r tb : Nat) (ws ns fr : List (List UInt8)) : Prop := ∃ Wv Fv sm, Rd w T F r tb Wv Fv sm ws ns fr
section
variable {w W : World} {T F G : Nat → Prop} {r tb sm : Nat} {Wv Fv : Value} {ws ns fr : List (List UInt8)}
/-- What is new alone has been added. -/
theorem Rd.below (h : Rd w T F r tb Wv Fv sm ws ns fr) (hb : Below w.heap.size w W) : Rd W T F r tb Wv Fv sm ws ns fr :=
  ⟨(hb.block r (blk_lt h.head)).trans h.head, h.words.ch (F := fun _ => False) (Ch.of_below hb _) (fun _ _ q => q.elim), owns_below h.fresh hb, h.seen.of_heap (hb.block sm h.seen.lt), h.table.below hb, h.fr_, h.fs, h.ff, fun b hb' => Nat.lt_of_lt_of_le (h.tlt b hb') hb.size, fun b hb' => Nat.lt_of_lt_of_le (h.flt b hb') hb.size, h.apart⟩
theorem RdE.below (h : RdE w T F r tb ws ns fr) (hb : Below w.heap.size w W) : RdE W T F r tb ws ns fr := by
  obtain ⟨Wv, Fv, sm, h⟩ := h
  exact ⟨Wv, Fv, sm, h.below hb⟩
theorem Rd.fresh_ne (h : Rd w T F r tb Wv Fv sm ws ns fr) {b : Nat} (hb : Fv.ownBlock = some b) : b ≠ r := by
  obtain ⟨cs, hcs⟩ := own_typed h.fresh b hb
  exact ne_type hcs h.head (by decide)
theorem Rd.fresh_map (h : Rd w T F r tb Wv Fv sm ws ns fr) {b : Nat} (hb : Fv.ownBlock = some b) : sm ≠ b := by
  obtain ⟨cs, hcs⟩ := own_typed h.fresh b hb
  exact ne_map h.seen hcs
theorem Rd.no72 (h : Rd w T F r tb Wv Fv sm ws ns fr) {b : Nat} (hb : b = r ∨ b = sm ∨ Fv.ownBlock = some b) (cs : Array Value) : w.heap[b]? ≠ some (.cells cs 72 (0, 0)) := fun q => by
  rcases hb with e | e | e
  · subst e
    exact ne_type h.head q (by decide) rfl
  · subst e
    exact ne_map h.seen q rfl
  · obtain ⟨cs2, hcs⟩ := own_typed h.fresh b e
    exact ne_type hcs q (by decide) rfl
theorem Rd.foot (h : Rd w T F r tb Wv Fv sm ws ns fr) {b : Nat} (hb : b = r ∨ b = sm ∨ Fv.ownBlock = some b) : F b := by
  rcases hb with e | e | e
  · exact e ▸ h.fr_
  · exact e ▸ h.fs
  · exact h.ff b e
end
theorem Tb.set {w : World} {F : Nat → Prop} {t : Nat} {ns : List (List UInt8)} (h : Tb w F t ns) {g : Nat} {cs : Array Value} {ty : TypeId} (hg : w.heap[g]? = some (.cells cs ty (0, 0))) (h1 : ty ≠ 101) (h2 : ty ≠ 9) (j : Nat) (u : Value) : Tb (w.setCell ⟨g, j, none⟩ u) F t ns := by
  obtain ⟨N, m, a1, a2, a3, a4, a5, a6⟩ := h
  refine ⟨N, m, (Below.heap_setCell _ _ _ _ (ne_type a1 hg (Ne.symm h1))).trans a1, owns_move a2 (fun b _ _ ho => Below.heap_setCell _ _ _ _ ?_), a3.of_heap (Below.heap_setCell _ _ _ _ (ne_map a3 hg)), a4, a5, a6⟩
  obtain ⟨cs2, hcs⟩ := own_typed a2 b ho
  exact ne_type hcs hg (Ne.symm h2)
theorem Rd.set {w : World} {T F : Nat → Prop} {r tb sm : Nat} {Wv Fv : Value} {ws ns fr : List (List UInt8)} (h : Rd w T F r tb Wv Fv sm ws ns fr) {g : Nat} {cs : Array Value} {ty : TypeId} (hg : w.heap[g]? = some (.cells cs ty (0, 0))) (h0 : ty ≠ 88) (h1 : ty ≠ 101) (h2 : ty ≠ 9) (j : Nat) (u : Value) : Rd (w.setCell ⟨g, j, none⟩ u) T F r tb Wv Fv sm ws ns fr := by
  have hz : (w.setCell ⟨g, j, none⟩ u).heap.size = w.heap.size := by simp [World.setCell]
  refine ⟨(Below.heap_setCell _ _ _ _ (ne_type h.head hg (Ne.symm h0))).trans h.head, ?_, owns_move h.fresh (fun b _ _ ho => Below.heap_setCell _ _ _ _ ?_), h.seen.of_heap (Below.heap_setCell _ _ _ _ (ne_map h.seen hg)), h.table.set hg h1 h2 j u, h.fr_, h.fs, h.ff, fun b hb => hz ▸ h.tlt b hb, fun b hb => hz ▸ h.flt b hb, h.apart⟩
  · obtain ⟨A, c, e1, e2, e3, e4⟩ := h.words
    refine ⟨A, c, e1, e2, e3, fun i hi => ?_⟩
    obtain ⟨b, o, e, ⟨cs2, hcs⟩, hn, hcell⟩ := e4 i hi
    have hbl : (w.setCell ⟨g, j, none⟩ u).heap[b]? = w.heap[b]? := Below.heap_setCell _ _ _ _ (ne_type hcs hg (Ne.symm h2))
    exact ⟨b, o, e, ⟨cs2, hbl.trans hcs⟩, hn, (World.cell?_of_block hbl).trans hcell⟩
  · obtain ⟨cs2, hcs⟩ := own_typed h.fresh b ho
    exact ne_type hcs hg (Ne.symm h2)
theorem RdE.set {w : World} {T F : Nat → Prop} {r tb : Nat} {ws ns fr : List (List UInt8)} (h : RdE w T F r tb ws ns fr) {g : Nat} {cs : Array Value} {ty : TypeId} (hg : w.heap[g]? = some (.cells cs ty (0, 0))) (h0 : ty ≠ 88) (h1 : ty ≠ 101) (h2 : ty ≠ 9) (j : Nat) (u : Value) : RdE (w.setCell ⟨g, j, none⟩ u) T F r tb ws ns fr := by
  obtain ⟨Wv, Fv, sm, h⟩ := h
  exact ⟨Wv, Fv, sm, h.set hg h0 h1 h2 j u⟩
theorem Fr.set {w W : World} {F : Nat → Prop} (h : Fr w W F) {p : Addr} (hp : w.heap.size ≤ p.block) (u : Value) : Fr w (W.setCell p u) F :=
  ⟨h.ch.setCell p (fun q => by omega) u, fun b cs e => (Below.heap_setCell _ _ _ _ (fun q => by have := blk_lt e; omega)).trans (h.k72 b cs e)⟩
/-- The reader behind a call: what it writes itself is F's, or new. -/
def RdX (w : World) (F : Nat → Prop) (W : World) (T : Nat → Prop) (r tb : Nat) (ws ns fr : List (List UInt8)) : Prop := ∃ F', (∀ b, F' b → F b ∨ w.heap.size ≤ b) ∧ RdE W T F' r tb ws ns fr
theorem RdX.same {w W : World} {T F : Nat → Prop} {r tb : Nat} {ws ns fr : List (List UInt8)} (h : RdE W T F r tb ws ns fr) : RdX w F W T r tb ws ns fr := ⟨F, fun _ q => .inl q, h⟩
theorem RdX.trans {w w1 W : World} {T F G : Nat → Prop} {r tb : Nat} {ws ns fr : List (List UInt8)} (hg : ∀ b, G b → F b ∨ w.heap.size ≤ b) (hs : w.heap.size ≤ w1.heap.size) (h : RdX w1 G W T r tb ws ns fr) : RdX w F W T r tb ws ns fr := by
  obtain ⟨F', h1, h2⟩ := h
  exact ⟨F', fun b q => (h1 b q).elim (hg b) (fun q => .inr (Nat.le_trans hs q)), h2⟩
theorem Fr.thenX {w w1 w2 : World} {F G : Nat → Prop} (h : Fr w w1 F) (k : Fr w1 w2 G) (hg : ∀ b, G b → F b ∨ w.heap.size ≤ b) : Fr w w2 F := h.then k fun b hb q => (hg b q).elim id (fun q => by omega)
end Go.Proofs.YtkbkkceeolclmaaGreatDoor.X
