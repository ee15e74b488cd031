/- The reader in memory; a name's symbol, as it will be. A name's symbol, as it will be. -/
import Derived.Test.YtkbkkceeolclmaaGreatDoorQ13
set_option linter.unusedVariables false
set_option linter.unusedSimpArgs false
namespace Go.TX
theorem findN_app (ns fr : List (List UInt8)) (s : List UInt8) : findN (ns ++ fr) s = if s ∈ ns then findN ns s else if s ∈ fr then ns.length + findN fr s else 0 := by
  unfold findN
  by_cases h1 : s ∈ ns
  · rw [if_pos (by simp [h1]), if_pos h1, List.idxOf_append, if_pos h1, if_pos h1]
  · rw [if_neg h1]
    by_cases h2 : s ∈ fr
    · rw [if_pos (by simp [h2]), if_pos h2, List.idxOf_append, if_neg h1, if_pos h2]
      omega
    · rw [if_neg (by simp [h1, h2]), if_neg h2]
/-- The new names behind a look at one. -/
def freshN (ns fr : List (List UInt8)) (s : List UInt8) : List (List UInt8) := if s ∈ ns ++ fr then fr else fr ++ [s]
theorem fresh_all (ns fr : List (List UInt8)) (s : List UInt8) : ns ++ freshN ns fr s = addN (ns ++ fr) s := by
  unfold freshN addN
  split <;> simp
end Go.TX
namespace Go.Proofs.YtkbkkceeolclmaaGreatDoor.X
open Go.RowKit Go.TX Go.Proofs.YtkbkkceeolclmaaGreatDoorW.PrintWords Go.Proofs.YtkbkkceeolclmaaGreatDoorL
def seenOf (ns fr : List (List UInt8)) (s : ByteArray) : Option Value := if s.data.toList ∈ fr then some (.int .i64 ((ns.length : Int) + (findN fr s.data.toList : Nat))) else none
/-- Words in a row, to be read; no block of S. -/
def WordsAt (w : World) (S : Nat → Prop) (V : Value) (ws : List (List UInt8)) : Prop :=
  ∃ A c, V = .slice A ws.length c ∧ ws.length ≤ c ∧ c ≤ 9223372036854775807 ∧ ∀ j (h : j < ws.length), ∃ b o, A = some ⟨b, o, none⟩ ∧ (∃ cs, w.heap[b]? = some (.cells cs 9 (0, 0))) ∧ ¬ S b ∧ w.cell? ⟨b, o + j, none⟩ = some (.string (str ws[j]))
theorem WordsAt.ch {w W : World} {S F : Nat → Prop} {V : Value} {ws : List (List UInt8)} (h : WordsAt w S V ws) (hc : Ch w W F) (hs : ∀ b, b < w.heap.size → F b → S b) : WordsAt W S V ws := by
  obtain ⟨A, c, h1, h2, h2', h3⟩ := h
  refine ⟨A, c, h1, h2, h2', fun j hj => ?_⟩
  obtain ⟨b, o, e, hb, hn, hcell⟩ := h3 j hj
  obtain ⟨cs, hcs⟩ := hb
  have hbl := hc.block b (blk_lt hcs) (fun q => hn (hs b (blk_lt hcs) q))
  exact ⟨b, o, e, ⟨cs, hbl.trans hcs⟩, hn, (World.cell?_of_block hbl).trans hcell⟩
theorem WordsAt.mono {w : World} {S T : Nat → Prop} {V : Value} {ws : List (List UInt8)} (h : WordsAt w S V ws) (hs : ∀ b, b < w.heap.size → T b → S b) : WordsAt w T V ws := by
  obtain ⟨A, c, h1, h2, h2', h3⟩ := h
  refine ⟨A, c, h1, h2, h2', fun j hj => ?_⟩
  obtain ⟨b, o, e, hb, hn, hcell⟩ := h3 j hj
  exact ⟨b, o, e, hb, fun q => hn (hs b (hb.elim fun _ q => blk_lt q) q), hcell⟩
/-- The reader at block r: T, F: the blocks of the table, and of what it writes itself. -/
structure Rd (w : World) (T F : Nat → Prop) (r tb : Nat) (Wv Fv : Value) (sm : Nat) (ws ns fr : List (List UInt8)) : Prop where
  head : w.heap[r]? = some (.cells #[Wv, .pointer (some ⟨tb, 0, none⟩), Fv, .map (some sm)] 88 (0, 0))
  words : WordsAt w (fun b => F b ∨ T b) Wv ws
  fresh : w.ownsRow 0 9 1 Fv fr.length (cellsN fr)
  seen : MapIs strCode w sm (seenOf ns fr) fr.length
  table : Tb w T tb ns
  fr_ : F r
  fs : F sm
  ff : ∀ b, Fv.ownBlock = some b → F b
  tlt : ∀ b, T b → b < w.heap.size
  flt : ∀ b, F b → b < w.heap.size
  apart : ∀ b, T b → ¬ F b
def RdE (w : World) (T F : Nat → Prop) (r tb : Nat) (ws ns fr : List (List UInt8)) : Prop := ∃ Wv Fv sm, Rd w T F r tb Wv Fv sm ws ns fr
section
variable {w W : World} {T F G : Nat → Prop} {r tb sm : Nat} {Wv Fv : Value} {ws ns fr : List (List UInt8)}
/-- What is new alone has been added. -/
theorem Rd.below (h : Rd w T F r tb Wv Fv sm ws ns fr) (hb : Below w.heap.size w W) : Rd W T F r tb Wv Fv sm ws ns fr :=
  ⟨(hb.block r (blk_lt h.head)).trans h.head, h.words.ch (F := fun _ => False) (Ch.of_below hb _) (fun _ _ q => q.elim), owns_below h.fresh hb, h.seen.of_heap (hb.block sm h.seen.lt), h.table.below hb, h.fr_, h.fs, h.ff, fun b hb' => Nat.lt_of_lt_of_le (h.tlt b hb') hb.size, fun b hb' => Nat.lt_of_lt_of_le (h.flt b hb') hb.size, h.apart⟩
theorem RdE.below (h : RdE w T F r tb ws ns fr) (hb : Below w.heap.size w W) : RdE W T F r tb ws ns fr := by
  obtain ⟨Wv, Fv, sm, h⟩ := h
  exact ⟨Wv, Fv, sm, h.below hb⟩
theorem Rd.fresh_ne (h : Rd w T F r tb Wv Fv sm ws ns fr) {b : Nat} (hb : Fv.ownBlock = some b) : b ≠ r := by
  obtain ⟨cs, hcs⟩ := own_typed h.fresh b hb
  exact ne_type hcs h.head (by decide)
theorem Rd.fresh_map (h : Rd w T F r tb Wv Fv sm ws ns fr) {b : Nat} (hb : Fv.ownBlock = some b) : sm ≠ b := by
  obtain ⟨cs, hcs⟩ := own_typed h.fresh b hb
  exact ne_map h.seen hcs
theorem Rd.no72 (h : Rd w T F r tb Wv Fv sm ws ns fr) {b : Nat} (hb : b = r ∨ b = sm ∨ Fv.ownBlock = some b) (cs : Array Value) : w.heap[b]? ≠ some (.cells cs 72 (0, 0)) := fun q => by
  rcases hb with e | e | e
  · subst e
    exact ne_type h.head q (by decide) rfl
  · subst e
    exact ne_map h.seen q rfl
  · obtain ⟨cs2, hcs⟩ := own_typed h.fresh b e
    exact ne_type hcs q (by decide) rfl
theorem Rd.foot (h : Rd w T F r tb Wv Fv sm ws ns fr) {b : Nat} (hb : b = r ∨ b = sm ∨ Fv.ownBlock = some b) : F b := by
  rcases hb with e | e | e
  · exact e ▸ h.fr_
  · exact e ▸ h.fs
  · exact h.ff b e
end
theorem Tb.set {w : World} {F : Nat → Prop} {t : Nat} {ns : List (List UInt8)} (h : Tb w F t ns) {g : Nat} {cs : Array Value} {ty : TypeId} (hg : w.heap[g]? = some (.cells cs ty (0, 0))) (h1 : ty ≠ 101) (h2 : ty ≠ 9) (j : Nat) (u : Value) : Tb (w.setCell ⟨g, j, none⟩ u) F t ns := by
  obtain ⟨N, m, a1, a2, a3, a4, a5, a6⟩ := h
  refine ⟨N, m, (Below.heap_setCell _ _ _ _ (ne_type a1 hg (Ne.symm h1))).trans a1, owns_move a2 (fun b _ _ ho => Below.heap_setCell _ _ _ _ ?_), a3.of_heap (Below.heap_setCell _ _ _ _ (ne_map a3 hg)), a4, a5, a6⟩
  obtain ⟨cs2, hcs⟩ := own_typed a2 b ho
  exact ne_type hcs hg (Ne.symm h2)
theorem Rd.set {w : World} {T F : Nat → Prop} {r tb sm : Nat} {Wv Fv : Value} {ws ns fr : List (List UInt8)} (h : Rd w T F r tb Wv Fv sm ws ns fr) {g : Nat} {cs : Array Value} {ty : TypeId} (hg : w.heap[g]? = some (.cells cs ty (0, 0))) (h0 : ty ≠ 88) (h1 : ty ≠ 101) (h2 : ty ≠ 9) (j : Nat) (u : Value) : Rd (w.setCell ⟨g, j, none⟩ u) T F r tb Wv Fv sm ws ns fr := by
  have hz : (w.setCell ⟨g, j, none⟩ u).heap.size = w.heap.size := by simp [World.setCell]
  refine ⟨(Below.heap_setCell _ _ _ _ (ne_type h.head hg (Ne.symm h0))).trans h.head, ?_, owns_move h.fresh (fun b _ _ ho => Below.heap_setCell _ _ _ _ ?_), h.seen.of_heap (Below.heap_setCell _ _ _ _ (ne_map h.seen hg)), h.table.set hg h1 h2 j u, h.fr_, h.fs, h.ff, fun b hb => hz ▸ h.tlt b hb, fun b hb => hz ▸ h.flt b hb, h.apart⟩
  · obtain ⟨A, c, e1, e2, e3, e4⟩ := h.words
    refine ⟨A, c, e1, e2, e3, fun i hi => ?_⟩
    obtain ⟨b, o, e, ⟨cs2, hcs⟩, hn, hcell⟩ := e4 i hi
    have hbl : (w.setCell ⟨g, j, none⟩ u).heap[b]? = w.heap[b]? := Below.heap_setCell _ _ _ _ (ne_type hcs hg (Ne.symm h2))
    exact ⟨b, o, e, ⟨cs2, hbl.trans hcs⟩, hn, (World.cell?_of_block hbl).trans hcell⟩
  · obtain ⟨cs2, hcs⟩ := own_typed h.fresh b ho
    exact ne_type hcs hg (Ne.symm h2)
theorem RdE.set {w : World} {T F : Nat → Prop} {r tb : Nat} {ws ns fr : List (List UInt8)} (h : RdE w T F r tb ws ns fr) {g : Nat} {cs : Array Value} {ty : TypeId} (hg : w.heap[g]? = some (.cells cs ty (0, 0))) (h0 : ty ≠ 88) (h1 : ty ≠ 101) (h2 : ty ≠ 9) (j : Nat) (u : Value) : RdE (w.setCell ⟨g, j, none⟩ u) T F r tb ws ns fr := by
  obtain ⟨Wv, Fv, sm, h⟩ := h
  exact ⟨Wv, Fv, sm, h.set hg h0 h1 h2 j u⟩
theorem Fr.set {w W : World} {F : Nat → Prop} (h : Fr w W F) {p : Addr} (hp : w.heap.size ≤ p.block) (u : Value) : Fr w (W.setCell p u) F :=
  ⟨h.ch.setCell p (fun q => by omega) u, fun b cs e => (Below.heap_setCell _ _ _ _ (fun q => by have := blk_lt e; omega)).trans (h.k72 b cs e)⟩
/-- The reader behind a call: what it writes itself is F's, or new. -/
def RdX (w : World) (F : Nat → Prop) (W : World) (T : Nat → Prop) (r tb : Nat) (ws ns fr : List (List UInt8)) : Prop := ∃ F', (∀ b, F' b → F b ∨ w.heap.size ≤ b) ∧ RdE W T F' r tb ws ns fr
theorem RdX.same {w W : World} {T F : Nat → Prop} {r tb : Nat} {ws ns fr : List (List UInt8)} (h : RdE W T F r tb ws ns fr) : RdX w F W T r tb ws ns fr := ⟨F, fun _ q => .inl q, h⟩
theorem RdX.trans {w w1 W : World} {T F G : Nat → Prop} {r tb : Nat} {ws ns fr : List (List UInt8)} (hg : ∀ b, G b → F b ∨ w.heap.size ≤ b) (hs : w.heap.size ≤ w1.heap.size) (h : RdX w1 G W T r tb ws ns fr) : RdX w F W T r tb ws ns fr := by
  obtain ⟨F', h1, h2⟩ := h
  exact ⟨F', fun b q => (h1 b q).elim (hg b) (fun q => .inr (Nat.le_trans hs q)), h2⟩
theorem Fr.thenX {w w1 w2 : World} {F G : Nat → Prop} (h : Fr w w1 F) (k : Fr w1 w2 G) (hg : ∀ b, G b → F b ∨ w.heap.size ≤ b) : Fr w w2 F := h.then k fun b hb q => (hg b q).elim id (fun q => by omega)
end Go.Proofs.YtkbkkceeolclmaaGreatDoor.X
namespace Go.Proofs.YtkbkkceeolclmaaGreatDoor.X
open Go.RowKit Go.TX Go.Proofs.YtkbkkceeolclmaaGreatDoorW.PrintWords Go.Proofs.YtkbkkceeolclmaaGreatDoorL
attribute [local go_sem] YReg.envOf
theorem seenOf_snoc {ns fr : List (List UInt8)} {s : List UInt8} (h : s ∉ fr) (x : ByteArray) : mset (seenOf ns fr) (str s) (some (.int .i64 ((ns.length : Int) + ((fr.length : Int) + 1)))) x = seenOf ns (fr ++ [s]) x := by
  by_cases hx : x = str s
  · subst hx
    rw [mset_same]
    unfold seenOf
    have e : (str s).data.toList = s := by simp
    rw [e, if_pos (by simp), findN_snoc h]
    rfl
  · rw [mset_other _ hx]
    unfold seenOf
    have hne : x.data.toList ≠ s := fun e => hx (by rw [← e, str_toList])
    by_cases hm : x.data.toList ∈ fr
    · rw [if_pos hm, if_pos (by simp [hm]), findN_old hm]
    · rw [if_neg hm, if_neg (by simp [hm, hne])]
theorem seen_look {w : World} {m : Nat} {ns fr : List (List UInt8)} (h : MapIs strCode w m (seenOf ns fr) fr.length) (s : List UInt8) (hs : s.length ≤ 1000000) :
    (Instr.lookup 86 (.map (some m)) (.string (str s)) false).run Tryz.prog w = .ok (.int .i64 (if s ∈ fr then (ns.length : Int) + (findN fr s : Nat) else 0)) w := by
  have hmax : 1000000 ≤ maxLen := by decide
  have := h.look Tryz.underlying86 (zero3 w) (x := str s) (show (str s).size ≤ maxLen by rw [str_size]; omega) false
  by_cases hm : s ∈ fr
  · simpa [seenOf, strCode, hm] using this
  · simpa [seenOf, strCode, hm, findN] using this
set_option maxRecDepth 100000 in
set_option maxHeartbeats 4000000 in
theorem symr_walk {w : World} {T F : Nat → Prop} {r tb : Nat} {ws ns fr : List (List UInt8)} (h : RdE w T F r tb ws ns fr) (s : List UInt8) (hs : s.length ≤ 100000) (hl : ns.length + fr.length ≤ 100000) :
    Calls Tryz.prog 44 #[.pointer (some ⟨r, 0, none⟩), .string (str s)] w fun e W => e = .returned (.tuple #[.int .i64 (if rightName (str s) then (findN (addN (ns ++ fr) s) s : Nat) else 0), .bool (rightName (str s))]) ∧ Fr w W F ∧ RdX w F W T r tb ws ns (if rightName (str s) then freshN ns fr s else fr) := by
  obtain ⟨Wv, Fv, sm, h⟩ := h
  have hrt := Aside0.mk (right_walk (str s) (by rw [str_size]; omega) w)
  have hh := Aside0.mk h
  cases hr : rightName (str s) with
  | false =>
    rw [hr] at hrt
    simp only [Bool.false_eq_true, if_false]
    clear hr h
    go_enter Tryz.func44, Tryz.ntmps44
    go_wp2_with (go_at_call 35; refine hrt.out.mono ?_; rintro e w2 ⟨rfl, hb⟩; replace hb := Aside0.mk hb)
    go_ret2
    exact ⟨rfl, Fr.of_below hb.out F, RdX.same ⟨Wv, Fv, sm, hh.out.below hb.out⟩⟩
  | true =>
    rw [hr] at hrt
    simp only [if_true]
    have hfind := Aside0.mk (fun (W : World) (hW : Below w.heap.size w W) => find_walk (h.table.below hW) s (by omega))
    by_cases hm : s ∈ ns
    · have e1 : freshN ns fr s = fr := by unfold freshN; rw [if_pos (by simp [hm])]
      have e2 : findN (addN (ns ++ fr) s) s = findN ns s := by rw [addN_old (by simp [hm]), findN_app, if_pos hm]
      rw [e1, e2]
      rw [decide_eq_true hm] at hfind
      clear e1 e2 hm hr h
      go_enter Tryz.func44, Tryz.ntmps44
      go_wp2_with (first | (go_at_call 35; refine hrt.out.mono ?_; rintro e w2 ⟨rfl, hb⟩; have t1 := (blk_cell ((hb.block r (blk_lt hh.out.head)).trans hh.out.head) 1).trans (show _ = some (Value.pointer (some ⟨tb, 0, none⟩)) from rfl); have hf2 := Aside0.mk (hfind.out w2 hb); replace hb := Aside0.mk hb) | (go_at_call 64; refine hf2.out.mono ?_; rintro e w3 ⟨rfl, rfl⟩))
      go_ret2
      exact ⟨rfl, Fr.of_below hb.out F, RdX.same ⟨Wv, Fv, sm, hh.out.below hb.out⟩⟩
    · rw [decide_eq_false hm] at hfind
      have hsl := Aside0.mk (fun (W : World) (hW : Below w.heap.size w W) => seen_look (h.seen.of_heap (hW.block sm h.seen.lt)) s (by omega))
      by_cases hmf : s ∈ fr
      · have e1 : freshN ns fr s = fr := by unfold freshN; rw [if_pos (by simp [hmf])]
        have e2 : findN (addN (ns ++ fr) s) s = ns.length + findN fr s := by rw [addN_old (by simp [hmf]), findN_app, if_neg hm, if_pos hmf]
        have hpos : 0 < findN fr s := by unfold findN; rw [if_pos hmf]; omega
        rw [e1, e2]
        rw [if_pos hmf] at hsl
        have hne : (((ns.length : Int) + (findN fr s : Nat)) == 0) = false := by rw [beq_eq_false_iff_ne]; omega
        have hcast : ((ns.length + findN fr s : Nat) : Int) = (ns.length : Int) + (findN fr s : Nat) := by omega
        rw [hcast]
        generalize (ns.length : Int) + (findN fr s : Nat) = v at hsl hne ⊢
        clear e1 e2 hm hr h hmf hpos hcast
        go_enter Tryz.func44, Tryz.ntmps44
        go_wp2_with (first | (go_at_call 35; refine hrt.out.mono ?_; rintro e w2 ⟨rfl, hb⟩; have hx2 := (hb.block r (blk_lt hh.out.head)).trans hh.out.head; have t1 := (blk_cell hx2 1).trans (show _ = some (Value.pointer (some ⟨tb, 0, none⟩)) from rfl); have t3 := (blk_cell hx2 3).trans (show _ = some (Value.map (some sm)) from rfl); have hf2 := Aside0.mk (hfind.out w2 hb); have hsl2 := hsl.out w2 hb; replace hb := Aside0.mk hb; clear hx2) | (go_at_call 64; refine hf2.out.mono ?_; rintro e w3 ⟨rfl, rfl⟩))
        go_ret2
        exact ⟨rfl, Fr.of_below hb.out F, RdX.same ⟨Wv, Fv, sm, hh.out.below hb.out⟩⟩
      · have e1 : freshN ns fr s = fr ++ [s] := by unfold freshN; rw [if_neg (by simp [hm, hmf])]
        have e2 : ((findN (addN (ns ++ fr) s) s : Nat) : Int) = (ns.length : Int) + ((fr.length : Int) + 1) := by
          rw [← fresh_all, e1, findN_app, if_neg hm, if_pos (by simp), findN_snoc hmf]
          omega
        rw [e1, e2]
        rw [if_neg hmf] at hsl
        obtain ⟨i0, hi, hz0, hz1, hz2⟩ := info_parts info9
        replace hi := Aside0.mk hi
        replace hz0 := Aside0.mk hz0
        replace hz1 := Aside0.mk hz1
        replace hz2 := Aside0.mk hz2
        have hmax : 1000000 ≤ maxLen := by decide
        have hL1 : fr.length + 1 ≤ maxLen := by omega
        have hL2 : (fr.length + 1) * 16 ≤ 140737488355328 := by omega
        have hnot := Aside0.mk hmf
        clear e1 e2 hm hr hmf
        obtain ⟨Af, cf, rfl⟩ := owns_form h.fresh
        clear h
        go_enter Tryz.func44, Tryz.ntmps44
        go_upto_region 7 with (first | (go_at_call 35; refine hrt.out.mono ?_; rintro e w2 ⟨rfl, hb⟩; have hx2 := (hb.block r (blk_lt hh.out.head)).trans hh.out.head; have t1 := (blk_cell hx2 1).trans (show _ = some (Value.pointer (some ⟨tb, 0, none⟩)) from rfl); have t2 := (blk_cell hx2 2).trans (show _ = some (Value.slice Af fr.length cf) from rfl); have t3 := (blk_cell hx2 3).trans (show _ = some (Value.map (some sm)) from rfl); have hf2 := Aside0.mk (hfind.out w2 hb); have hsl2 := hsl.out w2 hb; replace hb := Aside0.mk hb; clear hx2) | (go_at_call 64; refine hf2.out.mono ?_; rintro e w3 ⟨rfl, rfl⟩))
        have h2 := Aside0.mk (hh.out.below hb.out)
        clear hf2 hsl2 t1 t3 hfind hsl hrt
        have hA := (Below.refl w2.heap.size w2).alloc (Nat.le_refl _) (.cells #[.string (str s)] 9)
        have h3 := Aside0.mk (h2.out.below hA)
        have hn3 := Aside0.mk (blk_new w2 (.cells #[.string (str s)] 9))
        have hb3 := Aside0.mk (hb.out.trans (hA.mono hb.out.size))
        clear hA
        have ho3 := h3.out.fresh
        go_upto_region 8 with (at_builtin; refine wpList_append_own2 rfl _ _ 22 rfl 0 9 i0 (.string ⟨#[]⟩) 1 16 Tryz.underlying22 hi.out hz0.out hz1.out hz2.out rfl (by decide) _ fr.length (cellsN fr) rfl ho3 ⟨w2.heap.size, 0, none⟩ 1 1 [.string (str s)] rfl (by decide) rfl (cells_at hn3.out) (by simp [Value.oneCell']) hL1 hL2 (Nat.zero_le _) ?_; intro v4 w4 ho4 hg4 hf4; obtain ⟨A4, c4, rfl⟩ := owns_form ho4; have hh4 := (hg4.block r (blk_lt h3.out.head) (fun e => h3.out.fresh_ne e.symm rfl)).trans h3.out.head; have f0 := blk_frozen hh4 2; have q0 := (blk_cell hh4 2).trans (show _ = some (Value.slice Af fr.length cf) from rfl); replace hh4 := Aside0.mk hh4; replace ho4 := Aside0.mk ho4; replace hg4 := Aside0.mk hg4; replace hf4 := Aside0.mk hf4)
        have hc5 := Aside0.mk (((Ch.of_below hb3.out (fun b => b = r ∨ b = sm ∨ (Value.slice Af fr.length cf).ownBlock = some b)).grown hg4.out (fun k e _ => .inr (.inr e))).setCell ⟨r, 2, none⟩ (fun _ => .inl rfl) (.slice A4 (fr.length + 1) c4))
        have hh5 := Aside0.mk (blk_put hh4.out 2 (.slice A4 (fr.length + 1) c4) rfl)
        have ho5 := Aside0.mk (owns_move (W := w4.setCell ⟨r, 2, none⟩ (.slice A4 (fr.length + 1) c4)) ho4.out (fun b _ _ e => Below.heap_setCell _ _ _ _ (by obtain ⟨cs, hcs⟩ := own_typed ho4.out b e; exact ne_type hcs hh4.out (by decide))))
        have hm5 := Aside0.mk ((h3.out.seen.of_heap (w' := w4) (hg4.out.block sm h3.out.seen.lt (fun e => h3.out.fresh_map e.symm rfl))).of_heap (w' := w4.setCell ⟨r, 2, none⟩ (.slice A4 (fr.length + 1) c4)) (Below.heap_setCell _ _ _ _ (ne_map h3.out.seen h3.out.head)))
        have hf5 := Aside0.mk (fun b (e : (Value.slice A4 (fr.length + 1) c4).ownBlock = some b) => show New w F b from (hf4.out b e).elim (fun q => .inl (hh.out.ff b q)) (fun q => .inr (Nat.le_trans hb3.out.size q)))
        clear f0 q0 hh4 ho4 hg4 hf4 h3 hn3 hb3 t2 ho3 h2
        generalize w4.setCell ⟨r, 2, none⟩ (.slice A4 (fr.length + 1) c4) = W5 at hh5 ho5 hm5 hc5 hf5 ⊢
        have ht5 := Aside0.mk (hh.out.table.move (W := W5) (fun b hb hl => hc5.out.block b hl (fun q => hh.out.apart b hb (hh.out.foot q))))
        clear w4
        have k19 : Aside0 (∀ W', YReg.Ext W5.drew W' → Calls Tryz.prog 19 #[.pointer (some ⟨tb, 0, none⟩)] W' fun e W2 => ∃ u, e = .returned u ∧ YReg.Ext W' W2 ∧ u = .int .i64 (ns.length : Nat)) := ⟨fun W' hE => (len_walk (ht5.out.below hE.of_drew)).mono fun e W2 ⟨h1, h2⟩ => ⟨_, h1, h2 ▸ YReg.Ext.refl _, rfl⟩⟩
        have s1 : ∀ W', YReg.Ext W5.drew W' → W'.cell? ⟨r, 1, none⟩ = some (.pointer (some ⟨tb, 0, none⟩)) := fun W' hE => (blk_cell ((hE.of_drew.block _ (blk_lt hh5.out)).trans hh5.out) 1).trans rfl
        have s2 : ∀ W', YReg.Ext W5.drew W' → W'.cell? ⟨r, 2, none⟩ = some (.slice A4 (fr.length + 1) c4) := fun W' hE => (blk_cell ((hE.of_drew.block _ (blk_lt hh5.out)).trans hh5.out) 2).trans rfl
        have s3 : ∀ W', YReg.Ext W5.drew W' → W'.cell? ⟨r, 3, none⟩ = some (.map (some sm)) := fun W' hE => (blk_cell ((hE.of_drew.block _ (blk_lt hh5.out)).trans hh5.out) 3).trans rfl
        refine YReg.wp_region_tail 16 none YReg.Ext YReg.Ext YReg.Ext.refl YReg.Ext.trans YReg.Ext.trans (fun _ _ h => h) (by kernel_rfl) (by kernel_rfl) (by kernel_rfl) [(0, .det (.pointer (some ⟨r, 0, none⟩))), (1, .det (.string (str s)))] (YReg.base_cons rfl (YReg.base_cons rfl YReg.base_nil)) ?_
        simp only [List.take_succ_cons, List.take_zero, List.drop_succ_cons, List.drop_zero]
        repeat (first
          | (refine YReg.walk_calld (by decide) k19.out rfl (by kernel_rfl) (by kernel_rfl) _ rfl (by kernel_rfl) (by kernel_rfl) ?_)
          | (refine YReg.run_1 (by decide) YReg.Ext.refl rfl rfl _ rfl (by kernel_rfl) (by kernel_rfl) ?_; apply Exists.intro; refine ⟨fun ρ W hE h1 => ?_, ?_⟩; (go_simp; try rfl))
          | (refine YReg.run_2 (by decide) YReg.Ext.refl rfl rfl rfl _ rfl (by kernel_rfl) (by kernel_rfl) ?_; apply Exists.intro; refine ⟨fun ρ W hE h1 h2 => ?_, ?_⟩; (go_simp; try rfl)))
        intro ρ W1 hE hn
        simp only [Act.put, List.setIfInBounds_toArray, List.set_cons_zero, List.set_cons_succ]
        have hEb := Aside0.mk hE.of_drew
        clear hn hE s1 s2 s3 k19
        have hgood : (str s).size ≤ maxLen := by rw [str_size]; omega
        obtain ⟨W6, hrun, hm6, hg6, hz6⟩ := (hm5.out.of_heap (w' := W1) (hEb.out.block sm hm5.out.lt)).store Tryz.underlying86 (x := str s) hgood (.int .i64 ((ns.length : Int) + ((fr.length : Int) + 1)))
        simp only [strCode] at hrun
        have hm6' : Aside0 (MapIs strCode W6 sm (seenOf ns (fr ++ [s])) (fr ++ [s]).length) := ⟨by
          have hnone : (seenOf ns fr (str s)).isSome = false := by unfold seenOf; rw [if_neg (by simpa using hnot.out)]; rfl
          rw [hnone] at hm6
          rw [List.length_append]
          exact hm6.congr (seenOf_snoc hnot.out)⟩
        have hsl6 := seen_look hm6'.out s (by omega)
        rw [if_pos (by simp), findN_snoc hnot.out] at hsl6
        have hcc : (ns.length : Int) + ((fr.length + 1 : Nat) : Int) = (ns.length : Int) + ((fr.length : Int) + 1) := by omega
        rw [hcc] at hsl6
        have hx1 := (hEb.out.block r (blk_lt hh5.out)).trans hh5.out
        have hm1 := hm5.out.of_heap (w' := W1) (hEb.out.block sm hm5.out.lt)
        have hh6 := (hg6.block r (blk_lt hx1) (fun e => ne_map hm1 hx1 (Option.some.inj e.symm))).trans hx1
        have x3 := (blk_cell hh6 3).trans (show _ = some (Value.map (some sm)) from rfl)
        have ho1 := owns_below ho5.out hEb.out
        have ho6 := Aside0.mk (owns_move (W := W6) ho1 (fun b _ hl e => hg6.block b hl (fun q => by
          obtain ⟨cs, hcs⟩ := own_typed ho1 b e
          exact ne_map hm1 hcs (Option.some.inj q.symm))))
        have hc6 := Aside0.mk ((hc5.out.then (Ch.of_below hEb.out (fun _ => False)) (fun _ _ q => q.elim)).grown hg6 (fun k e _ => .inr (.inl (Option.some.inj e.symm))))
        replace hh6 := Aside0.mk hh6
        clear hcc hm6 hg6 hz6 hx1 hm1 ho1
        go_wp2
        rw [hrun]
        go_wp2
        go_ret2
        have hle6 := hc6.out.size
        have ho6l := fun b (e : (Value.slice A4 (fr.length + 1) c4).ownBlock = some b) => (owner_lt ho6.out e).2
        refine ⟨by congr, Fr.of hc6.out (fun b q => hh.out.foot q) (fun b cs q => hh.out.no72 q cs), fun b => F b ∨ (w.heap.size ≤ b ∧ b < W6.heap.size), fun b q => q.imp id And.left, Wv, .slice A4 (fr.length + 1) c4, sm, ?_⟩
        refine ⟨hh6.out, (hh.out.words.mono (fun b hb q => q.elim (fun q => q.elim .inl (fun q => by omega)) .inr)).ch hc6.out (fun b _ q => .inl (.inl (hh.out.foot q))), ?_, hm6'.out, hh.out.table.move (fun b hb hl => hc6.out.block b hl (fun q => hh.out.apart b hb (hh.out.foot q))), .inl hh.out.fr_, .inl hh.out.fs, fun b e => (hf5.out b e).imp id (fun q => ⟨q, ho6l b e⟩), fun b hb => Nat.lt_of_lt_of_le (hh.out.tlt b hb) hle6, fun b q => q.elim (fun q => Nat.lt_of_lt_of_le (hh.out.flt b q) hle6) And.right, fun b hb q => q.elim (hh.out.apart b hb) (fun q => by have := hh.out.tlt b hb; omega)⟩
        rw [List.length_append]
        have e : cellsN (fr ++ [s]) = cellsN fr ++ [.string (str s)] := by simp [cellsN]
        rw [e]
        exact ho6.out
end Go.Proofs.YtkbkkceeolclmaaGreatDoor.X
