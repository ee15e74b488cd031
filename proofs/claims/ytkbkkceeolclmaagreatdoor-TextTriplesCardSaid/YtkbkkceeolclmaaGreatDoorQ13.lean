/- The library's contracts as package text uses them, and what they ask of a world. A name is put into the program's table. -/
import Derived.Lib.AppendIntMem
import Derived.Lib.AtoiErrMem
import Derived.Test.YtkbkkceeolclmaaGreatDoorQ10
import Derived.Test.YtkbkkceeolclmaaGreatDoorQ12
set_option linter.unusedVariables false
set_option linter.unusedSimpArgs false
namespace Go.TX
open Go.Lib
theorem join_lib : ∀ l : List (List UInt8), Lib.join l [32] = join l
  | [] => rfl
  | [a] => by simp [Lib.join, join, List.intercalate]
  | a :: b :: t => by
    have ih := join_lib (b :: t)
    unfold Lib.join at ih ⊢
    rw [List.intercalate_cons_of_ne_nil (by simp), ih]
    simp [join]
theorem prefix_one (s : List UInt8) (c : UInt8) : (Lib.trimPrefix s [c], Lib.hasPrefix s [c]) = if s.head? = some c then (s.tail, true) else (s, false) := by
  cases s with
  | nil => simp [Lib.trimPrefix, Lib.hasPrefix]
  | cons a t =>
    by_cases h : a = c
    · subst h; simp [Lib.trimPrefix, Lib.hasPrefix]
    · have hb : (c == a) = false := by simpa using Ne.symm h
      simp [Lib.trimPrefix, Lib.hasPrefix, List.isPrefixOf, hb, h]
theorem suffix_one (s : List UInt8) (c : UInt8) : (Lib.trimSuffix s [c], Lib.hasSuffix s [c]) = if s.getLast? = some c then (s.dropLast, true) else (s, false) := by
  rcases List.eq_nil_or_concat s with rfl | ⟨t, b, rfl⟩
  · simp [Lib.trimSuffix, Lib.hasSuffix, List.isSuffixOf]
  · have hh : Lib.hasSuffix (t ++ [b]) [c] = (c == b) := by
      unfold Lib.hasSuffix List.isSuffixOf
      simp [List.isPrefixOf]
    unfold Lib.trimSuffix
    simp only [List.concat_eq_append]
    rw [hh]
    by_cases h : b = c
    · subst h
      simp
    · have hb : (c == b) = false := by simpa using Ne.symm h
      rw [hb]
      simp [h]
def digitSet : List UInt8 := [48, 49, 50, 51, 52, 53, 54, 55, 56, 57]
theorem digitSet_mem (b : UInt8) : digitSet.contains b = true ↔ 48 ≤ b.toNat ∧ b.toNat ≤ 57 := by
  constructor
  · intro h
    simp [digitSet] at h
    rcases h with rfl | rfl | rfl | rfl | rfl | rfl | rfl | rfl | rfl | rfl <;> decide
  · rintro ⟨h1, h2⟩
    have h : b.toNat = (48 : UInt8).toNat ∨ b.toNat = (49 : UInt8).toNat ∨ b.toNat = (50 : UInt8).toNat ∨ b.toNat = (51 : UInt8).toNat ∨ b.toNat = (52 : UInt8).toNat ∨ b.toNat = (53 : UInt8).toNat ∨ b.toNat = (54 : UInt8).toNat ∨ b.toNat = (55 : UInt8).toNat ∨ b.toNat = (56 : UInt8).toNat ∨ b.toNat = (57 : UInt8).toNat := by
      simp
      omega
    simp only [UInt8.toNat_inj] at h
    rcases h with rfl | rfl | rfl | rfl | rfl | rfl | rfl | rfl | rfl | rfl <;> decide
theorem drop_nil {p : UInt8 → Bool} : ∀ {l : List UInt8}, l.dropWhile p = [] ↔ ∀ b ∈ l, p b = true
  | [] => by simp
  | a :: l => by
    cases h : p a with
    | true => simp [List.dropWhile, h, drop_nil (l := l)]
    | false => simp [List.dropWhile, h]
theorem trim_digits (l : List UInt8) : Lib.trimS l digitSet = [] ↔ ∀ b ∈ l, 48 ≤ b.toNat ∧ b.toNat ≤ 57 := by
  unfold Lib.trimS Lib.trimLeftS Lib.trimRightS
  rw [drop_nil]
  constructor
  · intro h
    have hr : l.reverse.dropWhile (digitSet.contains ·) = [] := by
      apply Classical.byContradiction
      intro hne
      have h1 := List.head_dropWhile_not (p := (digitSet.contains ·)) (l := l.reverse) hne
      rw [h _ (by rw [List.mem_reverse]; exact List.head_mem hne)] at h1
      cases h1
    rw [drop_nil] at hr
    exact fun b hb => (digitSet_mem b).1 (hr b (by simpa using hb))
  · intro h b hb
    exact (digitSet_mem b).2 (h b (by
      rw [List.mem_reverse] at hb
      have := (List.dropWhile_sublist _).subset hb
      simpa using this))
end Go.TX
namespace Go.Proofs.YtkbkkceeolclmaaGreatDoor.X
open Go.RowKit Go.TX Go.Lib Go.Proofs.YtkbkkceeolclmaaGreatDoorW.PrintWords Go.Proofs.YtkbkkceeolclmaaGreatDoorL
/-- The library's variables that are read lie as their text lays them. -/
structure Env (w : World) : Prop where
  tab : TabIs Tryz.prog w "internal/strconv.uint64pow10" .u64 pow10Tab
  maxl : ∃ m, w.cell? ⟨0, 0, none⟩ = some (.int .i64 m)
theorem var_below {w w' : World} (hb : Below w.heap.size w w') {name : String} {cs : Array Value} (h : w.var? Tryz.prog name = some cs) : w'.var? Tryz.prog name = some cs := by
  unfold World.var? at *
  cases hg : Tryz.prog.globalNamed name with
  | none => simp [hg] at h
  | some g =>
    simp only [hg, Option.bind_some] at h ⊢
    have hlt : g < w.heap.size := by
      rcases Nat.lt_or_ge g w.heap.size with h' | h'
      · exact h'
      · rw [Array.getElem?_eq_none h'] at h; simp at h
    rw [hb.block g hlt]
    exact h
theorem Env.below {w w' : World} (h : Env w) (hb : Below w.heap.size w w') : Env w' := by
  obtain ⟨a, ⟨m, d⟩⟩ := h
  exact ⟨var_below hb a, ⟨m, (hb.cell (World.block_lt_of_cell? w _ d)).trans d⟩⟩
theorem Env.drew {w : World} (h : Env w) : Env w.drew := h.below (Below.refl _ _).drew
theorem Env.of {w0 w : World} (h : Env w0) {B : Nat} (hb : Below B w0 w) (hB : w0.heap.size ≤ B) : Env w := h.below (hb.mono hB)
theorem itoa_any (n : Int) (h0 : 0 ≤ n) (h1 : n ≤ 999999999) (w : World) (hE : Env w) :
    Calls Tryz.prog 75 #[.int .i64 n] w fun e w' => e = .returned (.string (str (decDigits n.toNat))) ∧ Below w.heap.size w w' := by
  refine (Tryz.strconv_Itoa n (by omega) (by omega) w hE.tab).mono ?_
  rintro e w' ⟨rfl, k, os, rfl⟩
  rw [itoa_dd h0]
  exact ⟨rfl, below_grow _ _ (Nat.le_refl _) _ _⟩
theorem atoi_ok (s : ByteArray) (hs : s.size ≤ 5000) (v : Int) (h : atoiAll s.data.toList = .ok v) (w : World) :
    Calls Tryz.prog 97 #[.string s] w fun e w' => e = .returned (.tuple #[.int .i64 v, .nilIface]) ∧ Below w.heap.size w w' := by
  refine (Tryz.strconv_Atoi_ok s (by omega) v h w).mono ?_
  rintro e w' ⟨rfl, rfl | ⟨t, rfl⟩⟩
  · exact ⟨rfl, Below.refl _ _⟩
  · exact ⟨rfl, bytesWorld_below _ _ _⟩
theorem split_any (s : List UInt8) (hs : s.length ≤ 100000) (w : World) (hE : Env w) :
    Calls Tryz.prog 60 #[.string (str s), .string ⟨#[32]⟩] w fun e w' => e = .returned (.slice (some ⟨w.heap.size, 0, none⟩) (words s).length (words s).length) ∧ w' = w.alloc (.cells (cellsN (words s)).toArray 9) := by
  obtain ⟨m, hm⟩ := hE.maxl
  refine (Tryz.strings_Split (str s) (str [32]) m w (by rw [str_size]; omega) hm (by decide)).mono ?_
  rintro e w' ⟨rfl, rfl⟩
  rw [TX.pieces_eq, TX.pieces_len]
  have e : TX.pieces (str s) = (words s).map str := by unfold TX.pieces; simp
  rw [e, List.length_map, List.map_map]
  exact ⟨rfl, rfl⟩
theorem prefix_any (s : List UInt8) (c : UInt8) (w : World) : Calls Tryz.prog 81 #[.string (str s), .string ⟨#[c]⟩] w fun e w' => e = .returned (.tuple #[.string (str (if s.head? = some c then s.tail else s)), .bool (decide (s.head? = some c))]) ∧ w = w' := by
  refine (Tryz.strings_CutPrefix (str s) ⟨#[c]⟩ w).mono ?_
  rintro e w' ⟨rfl, rfl⟩
  refine ⟨?_, rfl⟩
  have h := prefix_one s c
  have h1 := congrArg Prod.fst h
  have h2 := congrArg Prod.snd h
  simp only at h1 h2
  show Ending.returned (.tuple #[.string ⟨(Lib.trimPrefix s [c]).toArray⟩, .bool (Lib.hasPrefix s [c])]) = _
  rw [h1, h2]
  split <;> rename_i hh <;> simp [hh]
theorem suffix_any (s : List UInt8) (hs : s.length ≤ 100000) (c : UInt8) (w : World) : Calls Tryz.prog 82 #[.string (str s), .string ⟨#[c]⟩] w fun e w' => e = .returned (.tuple #[.string (str (if s.getLast? = some c then s.dropLast else s)), .bool (decide (s.getLast? = some c))]) ∧ w = w' := by
  refine (Tryz.strings_CutSuffix (str s) ⟨#[c]⟩ w (by rw [str_size]; omega)).mono ?_
  rintro e w' ⟨rfl, rfl⟩
  refine ⟨?_, rfl⟩
  have h := suffix_one s c
  have h1 := congrArg Prod.fst h
  have h2 := congrArg Prod.snd h
  simp only at h1 h2
  show Ending.returned (.tuple #[.string ⟨(Lib.trimSuffix s [c]).toArray⟩, .bool (Lib.hasSuffix s [c])]) = _
  rw [h1, h2]
  split <;> rename_i hh <;> simp [hh]
theorem trim_any (s : List UInt8) (hs : s.length ≤ 100000) (w : World) : Calls Tryz.prog 96 #[.string (str s), .string ⟨#[48, 49, 50, 51, 52, 53, 54, 55, 56, 57]⟩] w fun e w' => e = .returned (.string (str (Lib.trimS s digitSet))) ∧ Below w.heap.size w w' :=
  Any.strings_Trim_laid Tryz.l160 (by kernel_rfl) (str s) ⟨#[48, 49, 50, 51, 52, 53, 54, 55, 56, 57]⟩ w (by rw [str_size]; omega) (by decide) (ascii_of_all (by decide))
/-- strings.Join over a row of the call's own. -/
theorem join_any {w : World} {n : Nat} {V : Value} (l : List (List UInt8)) (ho : w.ownsRow n 9 1 V l.length (cellsN l)) (hl : l.length ≤ 1000000) (hj : (TX.join l).length ≤ 1000000) :
    Calls Tryz.prog 47 #[V, .string ⟨#[32]⟩] w fun e w' => e = .returned (.string (str (TX.join l))) ∧ Below w.heap.size w w' := by
  cases l with
  | nil =>
    obtain ⟨A, c, rfl⟩ := owns_form ho
    refine (Tryz.strings_Join_none A c ⟨#[32]⟩ w).mono ?_
    rintro e w' ⟨rfl, rfl⟩
    exact ⟨rfl, Below.refl _ _⟩
  | cons a t =>
    have hlc := ho
    obtain ⟨g, c, rfl, _, hgl⟩ := owns_form1 ho (by simp)
    have hcap : (a :: t).length ≤ c := by
      rcases hlc.2 with ⟨e2, _⟩ | ⟨g2, cap2, cur2, e2, _, _, q1, _⟩
      · cases e2
      · cases e2
        exact q1
    have hm : ((a :: t).map str).map (·.data.toList) = a :: t := by rw [List.map_map]; exact (List.map_congr_left (fun x _ => by simp)).trans (List.map_id _)
    have h := Tryz.strings_Join g 0 c ((a :: t).map str) ⟨#[32]⟩ w (fun j x hx => by
      have hc := ho.cells (g := g) rfl j (.string x) (by simp only [cellsN]; rw [List.getElem?_map] at hx ⊢; cases hq : (a :: t)[j]? with
        | none => rw [hq] at hx; cases hx
        | some y => rw [hq] at hx; cases hx; rfl)
      have ea : (⟨g, 0, none⟩ : Addr).add j = ⟨g, 0 + j, none⟩ := by
        unfold Addr.add
        split
        · rename_i e; subst e; rfl
        · simp
      rw [ea] at hc
      exact hc) hgl (by rw [List.length_map]; omega) (by rw [List.length_map]; exact hcap) (by rw [hm, show (⟨#[32]⟩ : ByteArray).data.toList = [32] from rfl, join_lib]; omega)
    rw [hm, show (⟨#[32]⟩ : ByteArray).data.toList = [32] from rfl, join_lib, List.length_map] at h
    exact h
end Go.Proofs.YtkbkkceeolclmaaGreatDoor.X
namespace Go.TX
/-- The names behind Intern. -/
def internN (ns : List (List UInt8)) (s : List UInt8) : List (List UInt8) := if rightName (str s) = true ∧ ns.length < 4096 then addN ns s else ns
theorem findN_snoc {ns : List (List UInt8)} {s : List UInt8} (h : s ∉ ns) : findN (ns ++ [s]) s = ns.length + 1 := by
  unfold findN
  rw [if_pos (by simp), List.idxOf_append, if_neg h]
  simp
theorem findN_old {ns : List (List UInt8)} {s x : List UInt8} (h : x ∈ ns) : findN (ns ++ [s]) x = findN ns x := by
  unfold findN
  rw [if_pos (by simp [h]), if_pos h, List.idxOf_append, if_pos h]
end Go.TX
namespace Go.Proofs.YtkbkkceeolclmaaGreatDoor.X
open Go.RowKit Go.TX Go.Proofs.YtkbkkceeolclmaaGreatDoorW.PrintWords Go.Proofs.YtkbkkceeolclmaaGreatDoorL
theorem symOf_snoc {ns : List (List UInt8)} {s : List UInt8} (h : s ∉ ns) (x : ByteArray) : mset (symOf ns) (str s) (some (.int .i64 ((ns.length : Nat) + 1))) x = symOf (ns ++ [s]) x := by
  by_cases hx : x = str s
  · subst hx
    rw [mset_same]
    unfold symOf
    have e : (str s).data.toList = s := by simp
    rw [e, if_pos (by simp), findN_snoc h]
    rfl
  · rw [mset_other _ hx]
    unfold symOf
    have hne : x.data.toList ≠ s := fun e => hx (by rw [← e, str_toList])
    by_cases hm : x.data.toList ∈ ns
    · rw [if_pos hm, if_pos (by simp [hm]), findN_old hm]
    · rw [if_neg hm, if_neg (by simp [hm, hne])]
/-- A block of cells is not a map; cells of two types are two blocks. -/
theorem ne_map {w : World} {m b : Nat} {κ : ByteArray → Option Value} {n : Nat} {cs : Array Value} {ty : TypeId} (h : MapIs strCode w m κ n) (hb : w.heap[b]? = some (.cells cs ty (0, 0))) : m ≠ b := by
  rintro rfl
  obtain ⟨es, clock, e⟩ := h.no_cell hb
  cases e
theorem ne_type {w : World} {b c : Nat} {xs ys : Array Value} {t u : TypeId} (hb : w.heap[b]? = some (.cells xs t (0, 0))) (hc : w.heap[c]? = some (.cells ys u (0, 0))) (h : t ≠ u) : b ≠ c := by
  rintro rfl
  rw [hb] at hc
  cases hc
  exact h rfl
theorem info9 : (Tryz.prog.info? 9).map (fun i => (i.zero, i.size, i.bytes)) = some (some (.string ⟨#[]⟩), 1, 16) := by kernel_rfl
set_option maxRecDepth 100000 in
set_option maxHeartbeats 4000000 in
theorem intern_walk {w : World} {F : Nat → Prop} {t : Nat} {ns : List (List UInt8)} (h : Tb w F t ns) (s : List UInt8) (hs : s.length ≤ 100000) (hlen : ns.length ≤ 100000) :
    Calls Tryz.prog 21 #[.pointer (some ⟨t, 0, none⟩), .string (str s)] w fun e W => (∃ u, e = .returned u) ∧ Fr w W F ∧ Tb W (New w F) t (internN ns s) := by
  have hrt := Aside0.mk (right_walk (str s) (by rw [str_size]; omega) w)
  cases hr : rightName (str s) with
  | false =>
    have e : internN ns s = ns := by unfold internN; rw [if_neg (by rw [hr]; simp)]
    rw [e]
    rw [hr] at hrt
    clear e hr
    replace h := Aside0.mk h
    go_enter Tryz.func21, Tryz.ntmps21
    go_wp2_with (go_at_call 35; refine hrt.out.mono ?_; rintro e w2 ⟨rfl, hb⟩; replace hb := Aside0.mk hb)
    go_ret2
    exact ⟨⟨_, rfl⟩, Fr.of_below hb.out F, (h.out.below hb.out).mono fun b hb => .inl hb⟩
  | true =>
    rw [hr] at hrt
    obtain ⟨N, m, h1, h2, h3, hFt, hFm, hFN⟩ := h
    obtain ⟨A, c, rfl⟩ := owns_form h2
    have tb : Aside0 (Tb w F t ns) := ⟨_, m, h1, h2, h3, hFt, hFm, hFN⟩
    by_cases hm : s ∈ ns
    · have e : internN ns s = ns := by
        unfold internN
        split
        · exact addN_old hm
        · rfl
      rw [e]
      have hl := Aside0.mk (fun (W : World) (hW : Below w.heap.size w W) => sym_look (h3.of_heap (hW.block m h3.lt)) s (by omega))
      rw [decide_eq_true hm] at hl
      clear e hr hm h3
      replace h1 := Aside0.mk h1
      replace h2 := Aside0.mk h2
      go_enter Tryz.func21, Tryz.ntmps21
      go_wp2_with (go_at_call 35; refine hrt.out.mono ?_; rintro e w2 ⟨rfl, hb⟩; have t1 := (blk_cell ((hb.block t (blk_lt h1.out)).trans h1.out) 1).trans (show _ = some (Value.map (some m)) from rfl); have hl2 := hl.out w2 hb; replace hb := Aside0.mk hb)
      go_ret2
      exact ⟨⟨_, rfl⟩, Fr.of_below hb.out F, (tb.out.below hb.out).mono fun b hb => .inl hb⟩
    · have hl := Aside0.mk (fun (W : World) (hW : Below w.heap.size w W) => sym_look (h3.of_heap (hW.block m h3.lt)) s (by omega))
      rw [decide_eq_false hm] at hl
      by_cases hfull : ns.length < 4096
      · have e : internN ns s = ns ++ [s] := by unfold internN addN; rw [if_pos ⟨hr, hfull⟩, if_neg hm]
        rw [e]
        obtain ⟨i0, hi, hz0, hz1, hz2⟩ := info_parts info9
        replace hi := Aside0.mk hi
        replace hz0 := Aside0.mk hz0
        replace hz1 := Aside0.mk hz1
        replace hz2 := Aside0.mk hz2
        have hmax : 1000000 ≤ maxLen := by decide
        have hL1 : ns.length + 1 ≤ maxLen := by omega
        have hL2 : (ns.length + 1) * 16 ≤ 140737488355328 := by omega
        have hnot := Aside0.mk hm
        clear e hr hm
        replace h1 := Aside0.mk h1
        replace h2 := Aside0.mk h2
        replace h3 := Aside0.mk h3
        go_enter Tryz.func21, Tryz.ntmps21
        go_upto_region 8 with (go_at_call 35; refine hrt.out.mono ?_; rintro e w2 ⟨rfl, hb⟩; have hh := (hb.block t (blk_lt h1.out)).trans h1.out; have t1 := (blk_cell hh 1).trans (show _ = some (Value.map (some m)) from rfl); have t0 := (blk_cell hh 0).trans (show _ = some (Value.slice A ns.length c) from rfl); have hl2 := hl.out w2 hb; replace hb := Aside0.mk hb; replace hh := Aside0.mk hh)
        have hA := (Below.refl w2.heap.size w2).alloc (Nat.le_refl _) (.cells #[.string (str s)] 9)
        have hh3 := Aside0.mk (blk_alloc hh.out (.cells #[.string (str s)] 9))
        have ho3 := Aside0.mk (owns_below (owns_below h2.out hb.out) hA)
        have hn3 := Aside0.mk (blk_new w2 (.cells #[.string (str s)] 9))
        have hm3 := Aside0.mk ((h3.out.of_heap (hb.out.block m h3.out.lt)).of_heap (hA.block m (Nat.lt_of_lt_of_le h3.out.lt hb.out.size)))
        have hb3 := Aside0.mk (hb.out.alloc hb.out.size (.cells #[.string (str s)] 9))
        clear hl hrt hl2 hb hh hA
        go_upto_region 9 with (at_builtin; refine wpList_append_own2 rfl _ _ 22 rfl 0 9 i0 (.string ⟨#[]⟩) 1 16 Tryz.underlying22 hi.out hz0.out hz1.out hz2.out rfl (by decide) _ ns.length (cellsN ns) rfl ho3.out ⟨w2.heap.size, 0, none⟩ 1 1 [.string (str s)] rfl (by decide) rfl (cells_at hn3.out) (by simp [Value.oneCell']) hL1 hL2 (Nat.zero_le _) ?_; intro v4 w4 ho4 hg4 hf4; obtain ⟨A4, c4, rfl⟩ := owns_form ho4; have hh4 := (hg4.block t (blk_lt hh3.out) (fun e => (by obtain ⟨cs, hcs⟩ := own_typed ho3.out t e.symm; exact ne_type hcs hh3.out (by decide) rfl))).trans hh3.out; have f0 := blk_frozen hh4 0; have q0 := (blk_cell hh4 0).trans (show _ = some (Value.slice A ns.length c) from rfl); replace hh4 := Aside0.mk hh4; replace ho4 := Aside0.mk ho4; replace hg4 := Aside0.mk hg4; replace hf4 := Aside0.mk hf4)
        have hh5 := Aside0.mk (blk_put hh4.out 0 (.slice A4 (ns.length + 1) c4) rfl)
        have ho5 := Aside0.mk (owns_move (W := w4.setCell ⟨t, 0, none⟩ (.slice A4 (ns.length + 1) c4)) ho4.out (fun b _ _ e => Below.heap_setCell _ _ _ _ (by obtain ⟨cs, hcs⟩ := own_typed ho4.out b e; exact ne_type hcs hh4.out (by decide))))
        have hm5 := Aside0.mk ((hm3.out.of_heap (w' := w4) (hg4.out.block m hm3.out.lt (fun e => by obtain ⟨cs, hcs⟩ := own_typed ho3.out m e.symm; exact ne_map hm3.out hcs rfl))).of_heap (w' := w4.setCell ⟨t, 0, none⟩ (.slice A4 (ns.length + 1) c4)) (Below.heap_setCell _ _ _ _ (ne_map hm3.out hh3.out)))
        have hc5 := Aside0.mk (((Ch.of_below hb3.out (fun b => b = t ∨ b = m ∨ (Value.slice A ns.length c).ownBlock = some b)).grown hg4.out (fun k e _ => .inr (.inr e))).setCell ⟨t, 0, none⟩ (fun _ => .inl rfl) (.slice A4 (ns.length + 1) c4))
        have hf5 := Aside0.mk (fun b (e : (Value.slice A4 (ns.length + 1) c4).ownBlock = some b) => show New w F b from (hf4.out b e).elim (fun q => .inl (hFN b q)) (fun q => .inr (Nat.le_trans hb3.out.size q)))
        have hk5 := Aside0.mk (fun (b : Nat) (cs : Array Value) (e : b = t ∨ b = m ∨ (Value.slice A ns.length c).ownBlock = some b) (hb : w.heap[b]? = some (.cells cs 72 (0, 0))) => show False from by
          rcases e with e | e | e
          · subst e
            exact ne_type h1.out hb (by decide) rfl
          · subst e
            exact ne_map h3.out hb rfl
          · obtain ⟨cs2, hcs⟩ := own_typed h2.out b e
            exact ne_type hcs hb (by decide) rfl)
        clear f0 q0 hh4 ho4 hg4 hf4 hh3 ho3 hn3 hm3 hb3
        generalize w4.setCell ⟨t, 0, none⟩ (.slice A4 (ns.length + 1) c4) = W5 at hh5 ho5 hm5 hc5 hf5 ⊢
        have hgood : (str s).size ≤ maxLen := by rw [str_size]; omega
        obtain ⟨W6, hrun, hm6, hg6, hz6⟩ := (hm5.out.of_heap (w' := W5.drew) rfl).store Tryz.underlying86 (x := str s) hgood (.int .i64 ((ns.length : Nat) + 1))
        simp only [strCode] at hrun
        have e0 := (blk_cell hh5.out 0).trans (show _ = some (Value.slice A4 (ns.length + 1) c4) from rfl)
        have e1 := (blk_cell hh5.out 1).trans (show _ = some (Value.map (some m)) from rfl)
        have hh6 := Aside0.mk ((hg6.block t (blk_lt hh5.out) (fun e => ne_map hm5.out hh5.out (Option.some.inj e.symm))).trans hh5.out)
        have x0 := (blk_cell hh6.out 0).trans (show _ = some (Value.slice A4 (ns.length + 1) c4) from rfl)
        have hc6 := Aside0.mk (hc5.out.drew.grown hg6 (fun k e _ => .inr (.inl (Option.some.inj e.symm))))
        have ho6 := Aside0.mk (owns_move (W := W6) (show W5.drew.ownsRow 0 9 1 _ _ _ from ho5.out) (fun b _ hl e => hg6.block b hl (fun q => by
          obtain ⟨cs, hcs⟩ := own_typed ho5.out b e
          exact ne_map hm5.out hcs (Option.some.inj q.symm))))
        have hm6' : Aside0 (MapIs strCode W6 m (symOf (ns ++ [s])) (ns ++ [s]).length) := ⟨by
          have hnone : (symOf ns (str s)).isSome = false := by unfold symOf; rw [if_neg (by simpa using hnot.out)]; rfl
          rw [hnone] at hm6
          rw [List.length_append]
          exact hm6.congr (symOf_snoc hnot.out)⟩
        clear hm6 hg6 hz6
        go_region
        go_wp2
        go_ret2
        refine ⟨⟨_, rfl⟩, Fr.of hc6.out (fun b e => ?_) (fun b cs e q => hk5.out b cs e q), .slice A4 (ns.length + 1) c4, m, hh6.out, ?_, hm6'.out, .inl hFt, .inl hFm, hf5.out⟩
        · rcases e with e | e | e
          · exact e ▸ hFt
          · exact e ▸ hFm
          · exact hFN b e
        · rw [List.length_append]
          have e : cellsN (ns ++ [s]) = cellsN ns ++ [.string (str s)] := by simp [cellsN]
          rw [e]
          exact ho6.out
      · have e : internN ns s = ns := by unfold internN; rw [if_neg (by omega)]
        rw [e]
        clear e hr hm h3
        replace h1 := Aside0.mk h1
        replace h2 := Aside0.mk h2
        go_enter Tryz.func21, Tryz.ntmps21
        go_wp2_with (go_at_call 35; refine hrt.out.mono ?_; rintro e w2 ⟨rfl, hb⟩; have hh := (hb.block t (blk_lt h1.out)).trans h1.out; have t1 := (blk_cell hh 1).trans (show _ = some (Value.map (some m)) from rfl); have t0 := (blk_cell hh 0).trans (show _ = some (Value.slice A ns.length c) from rfl); have hl2 := hl.out w2 hb; replace hb := Aside0.mk hb; replace hh := Aside0.mk hh)
        go_ret2
        exact ⟨⟨_, rfl⟩, Fr.of_below hb.out F, (tb.out.below hb.out).mono fun b hb => .inl hb⟩
end Go.Proofs.YtkbkkceeolclmaaGreatDoor.X
