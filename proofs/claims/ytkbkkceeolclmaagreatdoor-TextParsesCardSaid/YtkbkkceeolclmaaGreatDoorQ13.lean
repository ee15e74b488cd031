/- The program's table of names in memory: a row of names, a map from each to its number. A name is put into the program's table. -/
import Derived.Test.YtkbkkceeolclmaaGreatDoorQ09
import Derived.Test.YtkbkkceeolclmaaGreatDoorQ10
import Derived.Test.YtkbkkceeolclmaaGreatDoorQ12
set_option linter.unusedVariables false
set_option linter.unusedSimpArgs false
namespace Go.Proofs.YtkbkkceeolclmaaGreatDoor.X
open Go.RowKit Go.TX Go.Proofs.YtkbkkceeolclmaaGreatDoorW.PrintWords Go.Proofs.YtkbkkceeolclmaaGreatDoorL
def strCode : KeyCode Tryz.prog 9 ByteArray where
  enc := fun s => .string s
  good := fun s => s.size ≤ maxLen
  lit := fun s => .string s.data.toList
  keyed := Maps.string_keyed Tryz.underlying9
  of := fun _ h => WideMaps.keyOf_string_mk (P := Tryz.prog) Tryz.underlying9 h
  inj := fun _ _ h => by cases h; rfl
/-- What a call may change: blocks of F alone, and none of a row of conditions. -/
structure Fr (w W : World) (F : Nat → Prop) : Prop where
  ch : Ch w W F
  k72 : ∀ (b : Nat) (cs : Array Value), w.heap[b]? = some (.cells cs 72 (0, 0)) → W.heap[b]? = w.heap[b]?
theorem Fr.refl (w : World) (F : Nat → Prop) : Fr w w F := ⟨Ch.refl _ _, fun _ _ _ => rfl⟩
theorem Fr.mono {w W : World} {F G : Nat → Prop} (h : Fr w W F) (hs : ∀ b, F b → G b) : Fr w W G := ⟨h.ch.mono hs, h.k72⟩
theorem Fr.then {w w1 w2 : World} {F G : Nat → Prop} (h : Fr w w1 F) (k : Fr w1 w2 G) (hs : ∀ b, b < w.heap.size → G b → F b) : Fr w w2 F :=
  ⟨h.ch.then k.ch hs, fun b cs e => (k.k72 b cs ((h.k72 b cs e).trans e)).trans (h.k72 b cs e)⟩
theorem Fr.of_below {w W : World} (h : Below w.heap.size w W) (F : Nat → Prop) : Fr w W F := ⟨Ch.of_below h F, fun b _ e => h.block b (blk_lt e)⟩
theorem Fr.of {w W : World} {S F : Nat → Prop} (h : Ch w W S) (hs : ∀ b, S b → F b) (hn : ∀ (b : Nat) (cs : Array Value), S b → w.heap[b]? ≠ some (.cells cs 72 (0, 0))) : Fr w W F :=
  ⟨h.mono hs, fun b cs e => h.block b (blk_lt e) (fun q => hn b cs q e)⟩
theorem Fr.below {w W : World} {F : Nat → Prop} (h : Fr w W F) {B : Nat} (hB : B ≤ w.heap.size) (hs : ∀ b, F b → B ≤ b) : Below B w W := h.ch.below (Below.refl _ _) hB hs
/-- F and what is new. -/
def New (w : World) (F : Nat → Prop) (b : Nat) : Prop := F b ∨ w.heap.size ≤ b
def cellsN (ns : List (List UInt8)) : List Value := ns.map fun s => .string (str s)
theorem cellsN_len (ns : List (List UInt8)) : (cellsN ns).length = ns.length := by simp [cellsN]
def symOf (ns : List (List UInt8)) (s : ByteArray) : Option Value := if s.data.toList ∈ ns then some (.int .i64 (findN ns s.data.toList : Nat)) else none
/-- The table at block t: its blocks are all in F. -/
def Tb (w : World) (F : Nat → Prop) (t : Nat) (ns : List (List UInt8)) : Prop :=
  ∃ N m, w.heap[t]? = some (.cells #[N, .map (some m)] 101 (0, 0)) ∧ w.ownsRow 0 9 1 N ns.length (cellsN ns) ∧ MapIs strCode w m (symOf ns) ns.length ∧ F t ∧ F m ∧ ∀ b, N.ownBlock = some b → F b
section
variable {w W : World} {F G : Nat → Prop} {t : Nat} {ns : List (List UInt8)}
theorem Tb.move (h : Tb w F t ns) (hb : ∀ b, F b → b < w.heap.size → W.heap[b]? = w.heap[b]?) : Tb W F t ns := by
  obtain ⟨N, m, h1, h2, h3, h4, h5, h6⟩ := h
  exact ⟨N, m, (hb t h4 (blk_lt h1)).trans h1, owns_move h2 (fun b _ hl ho => hb b (h6 b ho) hl), h3.of_heap (hb m h5 h3.lt), h4, h5, h6⟩
theorem Tb.mono (h : Tb w F t ns) (hf : ∀ b, F b → G b) : Tb w G t ns := by
  obtain ⟨N, m, h1, h2, h3, h4, h5, h6⟩ := h
  exact ⟨N, m, h1, h2, h3, hf _ h4, hf _ h5, fun b hb => hf _ (h6 b hb)⟩
theorem Tb.below (h : Tb w F t ns) (hb : Below w.heap.size w W) : Tb W F t ns := h.move fun b _ hl => hb.block b hl
theorem Tb.lt (h : Tb w F t ns) : t < w.heap.size := by
  obtain ⟨N, m, h1, _⟩ := h
  exact blk_lt h1
/-- What it has stays where another call changes nothing of it. -/
theorem Tb.ch (h : Tb w F t ns) (hc : Ch w W G) (hd : ∀ b, F b → ¬ G b) : Tb W F t ns := h.move fun b hf hl => hc.block b hl (hd b hf)
end
theorem zero3 (w : World) : (zeroValue 3).run Tryz.prog w = .ok (.int .i64 0) w := by kernel_rfl
theorem sym_look {w : World} {m : Nat} {ns : List (List UInt8)} (h : MapIs strCode w m (symOf ns) ns.length) (s : List UInt8) (hs : s.length ≤ 1000000) :
    (Instr.lookup 86 (.map (some m)) (.string (str s)) true).run Tryz.prog w = .ok (.tuple #[.int .i64 (findN ns s : Nat), .bool (decide (s ∈ ns))]) w := by
  have hmax : 1000000 ≤ maxLen := by decide
  have := h.look Tryz.underlying86 (zero3 w) (x := str s) (show (str s).size ≤ maxLen by rw [str_size]; omega) true
  by_cases hm : s ∈ ns
  · simpa [symOf, strCode, hm] using this
  · simpa [symOf, strCode, hm, findN] using this
theorem new20 (w : World) : Calls Tryz.prog 20 #[] w fun e W => ∃ t, e = .returned (.pointer (some ⟨t, 0, none⟩)) ∧ Below w.heap.size w W ∧ Tb W (fun b => w.heap.size ≤ b ∧ b < W.heap.size) t [] := by
  have hmm := @run_makeMap Tryz.prog
  have hb := Aside0.mk (((Below.refl w.heap.size w).alloc (Nat.le_refl _) (.map #[] 0)).alloc (by simp) (.cells #[.slice none 0 0, .map (some w.heap.size)] 101))
  have m0 := Aside0.mk ((MapIs.made strCode w).of_heap (Below.heap_alloc _ (.cells #[.slice none 0 0, .map (some w.heap.size)] 101) _ (by simp)))
  have ht := blk_new (w.alloc (.map #[] 0)) (.cells #[.slice none 0 0, .map (some w.heap.size)] 101)
  simp only [World.size_alloc] at ht
  replace ht := Aside0.mk ht
  go_enter Tryz.func20, Tryz.ntmps20
  go_wp2
  go_ret
  refine ⟨w.heap.size + 1, rfl, hb.out, .slice none 0 0, w.heap.size, ht.out, World.ownsRow_nil _ _ _ _, m0.out.congr (fun x => by simp [symOf]), ⟨by omega, by simp only [World.size_alloc]; omega⟩, ⟨by omega, by simp only [World.size_alloc]; omega⟩, fun b hb => by simp [Value.ownBlock] at hb⟩
set_option maxRecDepth 100000 in
theorem find_walk {w : World} {F : Nat → Prop} {t : Nat} {ns : List (List UInt8)} (h : Tb w F t ns) (s : List UInt8) (hs : s.length ≤ 1000000) :
    Calls Tryz.prog 64 #[.pointer (some ⟨t, 0, none⟩), .string (str s)] w fun e W => e = .returned (.tuple #[.int .i64 (findN ns s : Nat), .bool (decide (s ∈ ns))]) ∧ w = W := by
  obtain ⟨N, m, h1, _, h3, _⟩ := h
  have hl := sym_look h3 s hs
  have t1 := (blk_cell h1 1).trans (show _ = some (Value.map (some m)) from rfl)
  clear h3 h1
  generalize decide (s ∈ ns) = d at hl ⊢
  go_enter Tryz.func64, Tryz.ntmps64
  go_wp2
  go_ret2
  exact ⟨rfl, rfl⟩
/-- The name of a number. -/
def nameN (ns : List (List UInt8)) (n : Int) : Option (List UInt8) := if 1 ≤ n ∧ n ≤ ns.length then ns[(n - 1).toNat]? else none
set_option maxRecDepth 100000 in
theorem name_walk {w : World} {F : Nat → Prop} {t : Nat} {ns : List (List UInt8)} (h : Tb w F t ns) (n : Int) (hlen : ns.length ≤ 1000000) (hn1 : -9223372036854775808 ≤ n) (hn2 : n ≤ 9223372036854775807) :
    Calls Tryz.prog 39 #[.pointer (some ⟨t, 0, none⟩), .int .i64 n] w fun e W => e = .returned (.tuple #[.string (str ((nameN ns n).getD [])), .bool (nameN ns n).isSome]) ∧ w = W := by
  obtain ⟨N, m, h1, h2, _⟩ := h
  obtain ⟨A, c, rfl⟩ := owns_form h2
  have t0 := (blk_cell h1 0).trans (show _ = some (Value.slice A ns.length c) from rfl)
  clear h1
  by_cases c1 : n < 1
  · have e : nameN ns n = none := by unfold nameN; rw [if_neg (by omega)]
    rw [e]
    clear h2 e
    go_enter Tryz.func39, Tryz.ntmps39
    go_wp2
    go_ret2
    exact ⟨rfl, rfl⟩
  · by_cases c2 : n > ns.length
    · have e : nameN ns n = none := by unfold nameN; rw [if_neg (by omega)]
      rw [e]
      clear h2 e
      go_enter Tryz.func39, Tryz.ntmps39
      go_wp2
      go_ret2
      exact ⟨rfl, rfl⟩
    · obtain ⟨q, rfl⟩ : ∃ q : Nat, n = (q : Int) + 1 := ⟨(n - 1).toNat, by omega⟩
      have hq : q < ns.length := by omega
      have e : nameN ns ((q : Int) + 1) = some ns[q] := by
        unfold nameN
        rw [if_pos (by omega), show ((q : Int) + 1 - 1).toNat = q by omega, List.getElem?_eq_getElem hq]
      rw [e]
      obtain ⟨g, cap, he, _, hgl⟩ := owns_form1 h2 (by omega)
      cases he
      have hc := h2.cells (g := g) rfl q (.string (str ns[q])) (by simp [cellsN, hq])
      have ea : (⟨g, 0, none⟩ : Addr).add q = ⟨g, 0 + q, none⟩ := by
        unfold Addr.add
        split
        · rename_i e; subst e; rfl
        · simp
      rw [ea, Nat.zero_add] at hc
      clear e ea
      have hlc : ns.length ≤ c := by
        rcases h2.2 with ⟨e2, _⟩ | ⟨g2, cap2, cur2, e2, _, _, q1, q2, _⟩
        · cases e2
        · cases e2
          exact q1
      clear h2
      have e1 : ((q : Int) + 1 - 1) = (q : Int) := by omega
      go_enter Tryz.func39, Tryz.ntmps39
      go_wp2
      go_ret2
      exact ⟨rfl, rfl⟩
theorem len_walk {w : World} {F : Nat → Prop} {t : Nat} {ns : List (List UInt8)} (h : Tb w F t ns) :
    Calls Tryz.prog 19 #[.pointer (some ⟨t, 0, none⟩)] w fun e W => e = .returned (.int .i64 (ns.length : Nat)) ∧ w = W := by
  obtain ⟨N, m, h1, h2, _⟩ := h
  obtain ⟨A, c, rfl⟩ := owns_form h2
  have t0 := (blk_cell h1 0).trans (show _ = some (Value.slice A ns.length c) from rfl)
  clear h1 h2
  go_enter Tryz.func19, Tryz.ntmps19
  go_wp2
  go_ret
  exact ⟨rfl, rfl⟩
end Go.Proofs.YtkbkkceeolclmaaGreatDoor.X
namespace Go.TX
/-- The names behind Intern. -/
def internN (ns : List (List UInt8)) (s : List UInt8) : List (List UInt8) := if rightName (str s) = true ∧ ns.length < 4096 then addN ns s else ns
theorem findN_snoc {ns : List (List UInt8)} {s : List UInt8} (h : s ∉ ns) : findN (ns ++ [s]) s = ns.length + 1 := by
  unfold findN
  rw [if_pos (by simp), List.idxOf_append, if_neg h]
  simp
theorem findN_old {ns : List (List UInt8)} {s x : List UInt8} (h : x ∈ ns) : findN (ns ++ [s]) x = findN ns x := by
  unfold findN
  rw [if_pos (by simp [h]), if_pos h, List.idxOf_append, if_pos h]
end Go.TX
namespace Go.Proofs.YtkbkkceeolclmaaGreatDoor.X
open Go.RowKit Go.TX Go.Proofs.YtkbkkceeolclmaaGreatDoorW.PrintWords Go.Proofs.YtkbkkceeolclmaaGreatDoorL
theorem symOf_snoc {ns : List (List UInt8)} {s : List UInt8} (h : s ∉ ns) (x : ByteArray) : mset (symOf ns) (str s) (some (.int .i64 ((ns.length : Nat) + 1))) x = symOf (ns ++ [s]) x := by
  by_cases hx : x = str s
  · subst hx
    rw [mset_same]
    unfold symOf
    have e : (str s).data.toList = s := by simp
    rw [e, if_pos (by simp), findN_snoc h]
    rfl
  · rw [mset_other _ hx]
    unfold symOf
    have hne : x.data.toList ≠ s := fun e => hx (by rw [← e, str_toList])
    by_cases hm : x.data.toList ∈ ns
    · rw [if_pos hm, if_pos (by simp [hm]), findN_old hm]
    · rw [if_neg hm, if_neg (by simp [hm, hne])]
/-- A block of cells is not a map; cells of two types are two blocks. -/
theorem ne_map {w : World} {m b : Nat} {κ : ByteArray → Option Value} {n : Nat} {cs : Array Value} {ty : TypeId} (h : MapIs strCode w m κ n) (hb : w.heap[b]? = some (.cells cs ty (0, 0))) : m ≠ b := by
  rintro rfl
  obtain ⟨es, clock, e⟩ := h.no_cell hb
  cases e
theorem ne_type {w : World} {b c : Nat} {xs ys : Array Value} {t u : TypeId} (hb : w.heap[b]? = some (.cells xs t (0, 0))) (hc : w.heap[c]? = some (.cells ys u (0, 0))) (h : t ≠ u) : b ≠ c := by
  rintro rfl
  rw [hb] at hc
  cases hc
  exact h rfl
theorem info9 : (Tryz.prog.info? 9).map (fun i => (i.zero, i.size, i.bytes)) = some (some (.string ⟨#[]⟩), 1, 16) := by kernel_rfl
set_option maxRecDepth 100000 in
set_option maxHeartbeats 4000000 in
theorem intern_walk {w : World} {F : Nat → Prop} {t : Nat} {ns : List (List UInt8)} (h : Tb w F t ns) (s : List UInt8) (hs : s.length ≤ 100000) (hlen : ns.length ≤ 100000) :
    Calls Tryz.prog 21 #[.pointer (some ⟨t, 0, none⟩), .string (str s)] w fun e W => (∃ u, e = .returned u) ∧ Fr w W F ∧ Tb W (New w F) t (internN ns s) := by
  have hrt := Aside0.mk (right_walk (str s) (by rw [str_size]; omega) w)
  cases hr : rightName (str s) with
  | false =>
    have e : internN ns s = ns := by unfold internN; rw [if_neg (by rw [hr]; simp)]
    rw [e]
    rw [hr] at hrt
    clear e hr
    replace h := Aside0.mk h
    go_enter Tryz.func21, Tryz.ntmps21
    go_wp2_with (go_at_call 35; refine hrt.out.mono ?_; rintro e w2 ⟨rfl, hb⟩; replace hb := Aside0.mk hb)
    go_ret2
    exact ⟨⟨_, rfl⟩, Fr.of_below hb.out F, (h.out.below hb.out).mono fun b hb => .inl hb⟩
  | true =>
    rw [hr] at hrt
    obtain ⟨N, m, h1, h2, h3, hFt, hFm, hFN⟩ := h
    obtain ⟨A, c, rfl⟩ := owns_form h2
    have tb : Aside0 (Tb w F t ns) := ⟨_, m, h1, h2, h3, hFt, hFm, hFN⟩
    by_cases hm : s ∈ ns
    · have e : internN ns s = ns := by
        unfold internN
        split
        · exact addN_old hm
        · rfl
      rw [e]
      have hl := Aside0.mk (fun (W : World) (hW : Below w.heap.size w W) => sym_look (h3.of_heap (hW.block m h3.lt)) s (by omega))
      rw [decide_eq_true hm] at hl
      clear e hr hm h3
      replace h1 := Aside0.mk h1
      replace h2 := Aside0.mk h2
      go_enter Tryz.func21, Tryz.ntmps21
      go_wp2_with (go_at_call 35; refine hrt.out.mono ?_; rintro e w2 ⟨rfl, hb⟩; have t1 := (blk_cell ((hb.block t (blk_lt h1.out)).trans h1.out) 1).trans (show _ = some (Value.map (some m)) from rfl); have hl2 := hl.out w2 hb; replace hb := Aside0.mk hb)
      go_ret2
      exact ⟨⟨_, rfl⟩, Fr.of_below hb.out F, (tb.out.below hb.out).mono fun b hb => .inl hb⟩
    · have hl := Aside0.mk (fun (W : World) (hW : Below w.heap.size w W) => sym_look (h3.of_heap (hW.block m h3.lt)) s (by omega))
      rw [decide_eq_false hm] at hl
      by_cases hfull : ns.length < 4096
      · have e : internN ns s = ns ++ [s] := by unfold internN addN; rw [if_pos ⟨hr, hfull⟩, if_neg hm]
        rw [e]
        obtain ⟨i0, hi, hz0, hz1, hz2⟩ := info_parts info9
        replace hi := Aside0.mk hi
        replace hz0 := Aside0.mk hz0
        replace hz1 := Aside0.mk hz1
        replace hz2 := Aside0.mk hz2
        have hmax : 1000000 ≤ maxLen := by decide
        have hL1 : ns.length + 1 ≤ maxLen := by omega
        have hL2 : (ns.length + 1) * 16 ≤ 140737488355328 := by omega
        have hnot := Aside0.mk hm
        clear e hr hm
        replace h1 := Aside0.mk h1
        replace h2 := Aside0.mk h2
        replace h3 := Aside0.mk h3
        go_enter Tryz.func21, Tryz.ntmps21
        go_upto_region 8 with (go_at_call 35; refine hrt.out.mono ?_; rintro e w2 ⟨rfl, hb⟩; have hh := (hb.block t (blk_lt h1.out)).trans h1.out; have t1 := (blk_cell hh 1).trans (show _ = some (Value.map (some m)) from rfl); have t0 := (blk_cell hh 0).trans (show _ = some (Value.slice A ns.length c) from rfl); have hl2 := hl.out w2 hb; replace hb := Aside0.mk hb; replace hh := Aside0.mk hh)
        have hA := (Below.refl w2.heap.size w2).alloc (Nat.le_refl _) (.cells #[.string (str s)] 9)
        have hh3 := Aside0.mk (blk_alloc hh.out (.cells #[.string (str s)] 9))
        have ho3 := Aside0.mk (owns_below (owns_below h2.out hb.out) hA)
        have hn3 := Aside0.mk (blk_new w2 (.cells #[.string (str s)] 9))
        have hm3 := Aside0.mk ((h3.out.of_heap (hb.out.block m h3.out.lt)).of_heap (hA.block m (Nat.lt_of_lt_of_le h3.out.lt hb.out.size)))
        have hb3 := Aside0.mk (hb.out.alloc hb.out.size (.cells #[.string (str s)] 9))
        clear hl hrt hl2 hb hh hA
        go_upto_region 9 with (at_builtin; refine wpList_append_own2 rfl _ _ 22 rfl 0 9 i0 (.string ⟨#[]⟩) 1 16 Tryz.underlying22 hi.out hz0.out hz1.out hz2.out rfl (by decide) _ ns.length (cellsN ns) rfl ho3.out ⟨w2.heap.size, 0, none⟩ 1 1 [.string (str s)] rfl (by decide) rfl (cells_at hn3.out) (by simp [Value.oneCell']) hL1 hL2 (Nat.zero_le _) ?_; intro v4 w4 ho4 hg4 hf4; obtain ⟨A4, c4, rfl⟩ := owns_form ho4; have hh4 := (hg4.block t (blk_lt hh3.out) (fun e => (by obtain ⟨cs, hcs⟩ := own_typed ho3.out t e.symm; exact ne_type hcs hh3.out (by decide) rfl))).trans hh3.out; have f0 := blk_frozen hh4 0; have q0 := (blk_cell hh4 0).trans (show _ = some (Value.slice A ns.length c) from rfl); replace hh4 := Aside0.mk hh4; replace ho4 := Aside0.mk ho4; replace hg4 := Aside0.mk hg4; replace hf4 := Aside0.mk hf4)
        have hh5 := Aside0.mk (blk_put hh4.out 0 (.slice A4 (ns.length + 1) c4) rfl)
        have ho5 := Aside0.mk (owns_move (W := w4.setCell ⟨t, 0, none⟩ (.slice A4 (ns.length + 1) c4)) ho4.out (fun b _ _ e => Below.heap_setCell _ _ _ _ (by obtain ⟨cs, hcs⟩ := own_typed ho4.out b e; exact ne_type hcs hh4.out (by decide))))
        have hm5 := Aside0.mk ((hm3.out.of_heap (w' := w4) (hg4.out.block m hm3.out.lt (fun e => by obtain ⟨cs, hcs⟩ := own_typed ho3.out m e.symm; exact ne_map hm3.out hcs rfl))).of_heap (w' := w4.setCell ⟨t, 0, none⟩ (.slice A4 (ns.length + 1) c4)) (Below.heap_setCell _ _ _ _ (ne_map hm3.out hh3.out)))
        have hc5 := Aside0.mk (((Ch.of_below hb3.out (fun b => b = t ∨ b = m ∨ (Value.slice A ns.length c).ownBlock = some b)).grown hg4.out (fun k e _ => .inr (.inr e))).setCell ⟨t, 0, none⟩ (fun _ => .inl rfl) (.slice A4 (ns.length + 1) c4))
        have hf5 := Aside0.mk (fun b (e : (Value.slice A4 (ns.length + 1) c4).ownBlock = some b) => show New w F b from (hf4.out b e).elim (fun q => .inl (hFN b q)) (fun q => .inr (Nat.le_trans hb3.out.size q)))
        have hk5 := Aside0.mk (fun (b : Nat) (cs : Array Value) (e : b = t ∨ b = m ∨ (Value.slice A ns.length c).ownBlock = some b) (hb : w.heap[b]? = some (.cells cs 72 (0, 0))) => show False from by
          rcases e with e | e | e
          · subst e
            exact ne_type h1.out hb (by decide) rfl
          · subst e
            exact ne_map h3.out hb rfl
          · obtain ⟨cs2, hcs⟩ := own_typed h2.out b e
            exact ne_type hcs hb (by decide) rfl)
        clear f0 q0 hh4 ho4 hg4 hf4 hh3 ho3 hn3 hm3 hb3
        generalize w4.setCell ⟨t, 0, none⟩ (.slice A4 (ns.length + 1) c4) = W5 at hh5 ho5 hm5 hc5 hf5 ⊢
        have hgood : (str s).size ≤ maxLen := by rw [str_size]; omega
        obtain ⟨W6, hrun, hm6, hg6, hz6⟩ := (hm5.out.of_heap (w' := W5.drew) rfl).store Tryz.underlying86 (x := str s) hgood (.int .i64 ((ns.length : Nat) + 1))
        simp only [strCode] at hrun
        have e0 := (blk_cell hh5.out 0).trans (show _ = some (Value.slice A4 (ns.length + 1) c4) from rfl)
        have e1 := (blk_cell hh5.out 1).trans (show _ = some (Value.map (some m)) from rfl)
        have hh6 := Aside0.mk ((hg6.block t (blk_lt hh5.out) (fun e => ne_map hm5.out hh5.out (Option.some.inj e.symm))).trans hh5.out)
        have x0 := (blk_cell hh6.out 0).trans (show _ = some (Value.slice A4 (ns.length + 1) c4) from rfl)
        have hc6 := Aside0.mk (hc5.out.drew.grown hg6 (fun k e _ => .inr (.inl (Option.some.inj e.symm))))
        have ho6 := Aside0.mk (owns_move (W := W6) (show W5.drew.ownsRow 0 9 1 _ _ _ from ho5.out) (fun b _ hl e => hg6.block b hl (fun q => by
          obtain ⟨cs, hcs⟩ := own_typed ho5.out b e
          exact ne_map hm5.out hcs (Option.some.inj q.symm))))
        have hm6' : Aside0 (MapIs strCode W6 m (symOf (ns ++ [s])) (ns ++ [s]).length) := ⟨by
          have hnone : (symOf ns (str s)).isSome = false := by unfold symOf; rw [if_neg (by simpa using hnot.out)]; rfl
          rw [hnone] at hm6
          rw [List.length_append]
          exact hm6.congr (symOf_snoc hnot.out)⟩
        clear hm6 hg6 hz6
        go_region
        go_wp2
        go_ret2
        refine ⟨⟨_, rfl⟩, Fr.of hc6.out (fun b e => ?_) (fun b cs e q => hk5.out b cs e q), .slice A4 (ns.length + 1) c4, m, hh6.out, ?_, hm6'.out, .inl hFt, .inl hFm, hf5.out⟩
        · rcases e with e | e | e
          · exact e ▸ hFt
          · exact e ▸ hFm
          · exact hFN b e
        · rw [List.length_append]
          have e : cellsN (ns ++ [s]) = cellsN ns ++ [.string (str s)] := by simp [cellsN]
          rw [e]
          exact ho6.out
      · have e : internN ns s = ns := by unfold internN; rw [if_neg (by omega)]
        rw [e]
        clear e hr hm h3
        replace h1 := Aside0.mk h1
        replace h2 := Aside0.mk h2
        go_enter Tryz.func21, Tryz.ntmps21
        go_wp2_with (go_at_call 35; refine hrt.out.mono ?_; rintro e w2 ⟨rfl, hb⟩; have hh := (hb.block t (blk_lt h1.out)).trans h1.out; have t1 := (blk_cell hh 1).trans (show _ = some (Value.map (some m)) from rfl); have t0 := (blk_cell hh 0).trans (show _ = some (Value.slice A ns.length c) from rfl); have hl2 := hl.out w2 hb; replace hb := Aside0.mk hb; replace hh := Aside0.mk hh)
        go_ret2
        exact ⟨⟨_, rfl⟩, Fr.of_below hb.out F, (tb.out.below hb.out).mono fun b hb => .inl hb⟩
end Go.Proofs.YtkbkkceeolclmaaGreatDoor.X
