/- The program's table of names in memory: a row of names, a map from each to its number. The library's contracts as package text uses them, and what they ask of a world. -/
import Derived.Lib.AppendIntMem
import Derived.Lib.AtoiErrMem
import Derived.Test.YtkbkkceeolclmaaGreatDoorQ08
import Derived.Test.YtkbkkceeolclmaaGreatDoorQ11
import Derived.Test.YtkbkkceeolclmaaGreatDoorQ13
import Derived.Test.YtkbkkceeolclmaaGreatDoorQ10
set_option linter.unusedVariables false
set_option linter.unusedSimpArgs false
namespace Go.Proofs.YtkbkkceeolclmaaGreatDoor.X
open Go.RowKit Go.TX Go.Proofs.YtkbkkceeolclmaaGreatDoorW.PrintWords Go.Proofs.YtkbkkceeolclmaaGreatDoorL
def strCode : KeyCode Tryz.prog 9 ByteArray where
  enc := fun s => .string s
  good := fun s => s.size ≤ maxLen
  lit := fun s => .string s.data.toList
  keyed := Maps.string_keyed Tryz.underlying9
  of := fun _ h => WideMaps.keyOf_string_mk (P := Tryz.prog) Tryz.underlying9 h
  inj := fun _ _ h => by cases h; rfl
/-- What a call may change: blocks of F alone, and none of a row of conditions. -/
structure Fr (w W : World) (F : Nat → Prop) : Prop where
  ch : Ch w W F
  k72 : ∀ (b : Nat) (cs : Array Value), w.heap[b]? = some (.cells cs 72 (0, 0)) → W.heap[b]? = w.heap[b]?
theorem Fr.refl (w : World) (F : Nat → Prop) : Fr w w F := ⟨Ch.refl _ _, fun _ _ _ => rfl⟩
theorem Fr.mono {w W : World} {F G : Nat → Prop} (h : Fr w W F) (hs : ∀ b, F b → G b) : Fr w W G := ⟨h.ch.mono hs, h.k72⟩
theorem Fr.then {w w1 w2 : World} {F G : Nat → Prop} (h : Fr w w1 F) (k : Fr w1 w2 G) (hs : ∀ b, b < w.heap.size → G b → F b) : Fr w w2 F :=
  ⟨h.ch.then k.ch hs, fun b cs e => (k.k72 b cs ((h.k72 b cs e).trans e)).trans (h.k72 b cs e)⟩
theorem Fr.of_below {w W : World} (h : Below w.heap.size w W) (F : Nat → Prop) : Fr w W F := ⟨Ch.of_below h F, fun b _ e => h.block b (blk_lt e)⟩
theorem Fr.of {w W : World} {S F : Nat → Prop} (h : Ch w W S) (hs : ∀ b, S b → F b) (hn : ∀ (b : Nat) (cs : Array Value), S b → w.heap[b]? ≠ some (.cells cs 72 (0, 0))) : Fr w W F :=
  ⟨h.mono hs, fun b cs e => h.block b (blk_lt e) (fun q => hn b cs q e)⟩
theorem Fr.below {w W : World} {F : Nat → Prop} (h : Fr w W F) {B : Nat} (hB : B ≤ w.heap.size) (hs : ∀ b, F b → B ≤ b) : Below B w W := h.ch.below (Below.refl _ _) hB hs
/-- F and what is new. -/
def New (w : World) (F : Nat → Prop) (b : Nat) : Prop := F b ∨ w.heap.size ≤ b
def cellsN (ns : List (List UInt8)) : List Value := ns.map fun s => .string (str s)
theorem cellsN_len (ns : List (List UInt8)) : (cellsN ns).length = ns.length := by simp [cellsN]
def symOf (ns : List (List UInt8)) (s : ByteArray) : Option Value := if s.data.toList ∈ ns then some (.int .i64 (findN ns s.data.toList : Nat)) else none
/-- The table at block t: its blocks are all in F. -/
def Tb (w : World) (F : Nat → Prop) (t : Nat) (ns : List (List UInt8)) : Prop :=
  ∃ N m, w.heap[t]? = some (.cells #[N, .map (some m)] 101 (0, 0)) ∧ w.ownsRow 0 9 1 N ns.length (cellsN ns) ∧ MapIs strCode w m (symOf ns) ns.length ∧ F t ∧ F m ∧ ∀ b, N.ownBlock = some b → F b
section
variable {w W : World} {F G : Nat → Prop} {t : Nat} {ns : List (List UInt8)}
theorem Tb.move (h : Tb w F t ns) (hb : ∀ b, F b → b < w.heap.size → W.heap[b]? = w.heap[b]?) : Tb W F t ns := by
  obtain ⟨N, m, h1, h2, h3, h4, h5, h6⟩ := h
  exact ⟨N, m, (hb t h4 (blk_lt h1)).trans h1, owns_move h2 (fun b _ hl ho => hb b (h6 b ho) hl), h3.of_heap (hb m h5 h3.lt), h4, h5, h6⟩
theorem Tb.mono (h : Tb w F t ns) (hf : ∀ b, F b → G b) : Tb w G t ns := by
  obtain ⟨N, m, h1, h2, h3, h4, h5, h6⟩ := h
  exact ⟨N, m, h1, h2, h3, hf _ h4, hf _ h5, fun b hb => hf _ (h6 b hb)⟩
theorem Tb.below (h : Tb w F t ns) (hb : Below w.heap.size w W) : Tb W F t ns := h.move fun b _ hl => hb.block b hl
theorem Tb.lt (h : Tb w F t ns) : t < w.heap.size := by
  obtain ⟨N, m, h1, _⟩ := h
  exact blk_lt h1
/-- What it has stays where another call changes nothing of it. -/
theorem Tb.ch (h : Tb w F t ns) (hc : Ch w W G) (hd : ∀ b, F b → ¬ G b) : Tb W F t ns := h.move fun b hf hl => hc.block b hl (hd b hf)
end
theorem zero3 (w : World) : (zeroValue 3).run Tryz.prog w = .ok (.int .i64 0) w := by kernel_rfl
theorem sym_look {w : World} {m : Nat} {ns : List (List UInt8)} (h : MapIs strCode w m (symOf ns) ns.length) (s : List UInt8) (hs : s.length ≤ 1000000) :
    (Instr.lookup 86 (.map (some m)) (.string (str s)) true).run Tryz.prog w = .ok (.tuple #[.int .i64 (findN ns s : Nat), .bool (decide (s ∈ ns))]) w := by
  have hmax : 1000000 ≤ maxLen := by decide
  have := h.look Tryz.underlying86 (zero3 w) (x := str s) (show (str s).size ≤ maxLen by rw [str_size]; omega) true
  by_cases hm : s ∈ ns
  · simpa [symOf, strCode, hm] using this
  · simpa [symOf, strCode, hm, findN] using this
theorem new20 (w : World) : Calls Tryz.prog 20 #[] w fun e W => ∃ t, e = .returned (.pointer (some ⟨t, 0, none⟩)) ∧ Below w.heap.size w W ∧ Tb W (fun b => w.heap.size ≤ b ∧ b < W.heap.size) t [] := by
  have hmm := @run_makeMap Tryz.prog
  have hb := Aside0.mk (((Below.refl w.heap.size w).alloc (Nat.le_refl _) (.map #[] 0)).alloc (by simp) (.cells #[.slice none 0 0, .map (some w.heap.size)] 101))
  have m0 := Aside0.mk ((MapIs.made strCode w).of_heap (Below.heap_alloc _ (.cells #[.slice none 0 0, .map (some w.heap.size)] 101) _ (by simp)))
  have ht := blk_new (w.alloc (.map #[] 0)) (.cells #[.slice none 0 0, .map (some w.heap.size)] 101)
  simp only [World.size_alloc] at ht
  replace ht := Aside0.mk ht
  go_enter Tryz.func20, Tryz.ntmps20
  go_wp2
  go_ret
  refine ⟨w.heap.size + 1, rfl, hb.out, .slice none 0 0, w.heap.size, ht.out, World.ownsRow_nil _ _ _ _, m0.out.congr (fun x => by simp [symOf]), ⟨by omega, by simp only [World.size_alloc]; omega⟩, ⟨by omega, by simp only [World.size_alloc]; omega⟩, fun b hb => by simp [Value.ownBlock] at hb⟩
set_option maxRecDepth 100000 in
theorem find_walk {w : World} {F : Nat → Prop} {t : Nat} {ns : List (List UInt8)} (h : Tb w F t ns) (s : List UInt8) (hs : s.length ≤ 1000000) :
    Calls Tryz.prog 64 #[.pointer (some ⟨t, 0, none⟩), .string (str s)] w fun e W => e = .returned (.tuple #[.int .i64 (findN ns s : Nat), .bool (decide (s ∈ ns))]) ∧ w = W := by
  obtain ⟨N, m, h1, _, h3, _⟩ := h
  have hl := sym_look h3 s hs
  have t1 := (blk_cell h1 1).trans (show _ = some (Value.map (some m)) from rfl)
  clear h3 h1
  generalize decide (s ∈ ns) = d at hl ⊢
  go_enter Tryz.func64, Tryz.ntmps64
  go_wp2
  go_ret2
  exact ⟨rfl, rfl⟩
/-- The name of a number. -/
def nameN (ns : List (List UInt8)) (n : Int) : Option (List UInt8) := if 1 ≤ n ∧ n ≤ ns.length then ns[(n - 1).toNat]? else none
set_option maxRecDepth 100000 in
theorem name_walk {w : World} {F : Nat → Prop} {t : Nat} {ns : List (List UInt8)} (h : Tb w F t ns) (n : Int) (hlen : ns.length ≤ 1000000) (hn1 : -9223372036854775808 ≤ n) (hn2 : n ≤ 9223372036854775807) :
    Calls Tryz.prog 39 #[.pointer (some ⟨t, 0, none⟩), .int .i64 n] w fun e W => e = .returned (.tuple #[.string (str ((nameN ns n).getD [])), .bool (nameN ns n).isSome]) ∧ w = W := by
  obtain ⟨N, m, h1, h2, _⟩ := h
  obtain ⟨A, c, rfl⟩ := owns_form h2
  have t0 := (blk_cell h1 0).trans (show _ = some (Value.slice A ns.length c) from rfl)
  clear h1
  by_cases c1 : n < 1
  · have e : nameN ns n = none := by unfold nameN; rw [if_neg (by omega)]
    rw [e]
    clear h2 e
    go_enter Tryz.func39, Tryz.ntmps39
    go_wp2
    go_ret2
    exact ⟨rfl, rfl⟩
  · by_cases c2 : n > ns.length
    · have e : nameN ns n = none := by unfold nameN; rw [if_neg (by omega)]
      rw [e]
      clear h2 e
      go_enter Tryz.func39, Tryz.ntmps39
      go_wp2
      go_ret2
      exact ⟨rfl, rfl⟩
    · obtain ⟨q, rfl⟩ : ∃ q : Nat, n = (q : Int) + 1 := ⟨(n - 1).toNat, by omega⟩
      have hq : q < ns.length := by omega
      have e : nameN ns ((q : Int) + 1) = some ns[q] := by
        unfold nameN
        rw [if_pos (by omega), show ((q : Int) + 1 - 1).toNat = q by omega, List.getElem?_eq_getElem hq]
      rw [e]
      obtain ⟨g, cap, he, _, hgl⟩ := owns_form1 h2 (by omega)
      cases he
      have hc := h2.cells (g := g) rfl q (.string (str ns[q])) (by simp [cellsN, hq])
      have ea : (⟨g, 0, none⟩ : Addr).add q = ⟨g, 0 + q, none⟩ := by
        unfold Addr.add
        split
        · rename_i e; subst e; rfl
        · simp
      rw [ea, Nat.zero_add] at hc
      clear e ea
      have hlc : ns.length ≤ c := by
        rcases h2.2 with ⟨e2, _⟩ | ⟨g2, cap2, cur2, e2, _, _, q1, q2, _⟩
        · cases e2
        · cases e2
          exact q1
      clear h2
      have e1 : ((q : Int) + 1 - 1) = (q : Int) := by omega
      go_enter Tryz.func39, Tryz.ntmps39
      go_wp2
      go_ret2
      exact ⟨rfl, rfl⟩
theorem len_walk {w : World} {F : Nat → Prop} {t : Nat} {ns : List (List UInt8)} (h : Tb w F t ns) :
    Calls Tryz.prog 19 #[.pointer (some ⟨t, 0, none⟩)] w fun e W => e = .returned (.int .i64 (ns.length : Nat)) ∧ w = W := by
  obtain ⟨N, m, h1, h2, _⟩ := h
  obtain ⟨A, c, rfl⟩ := owns_form h2
  have t0 := (blk_cell h1 0).trans (show _ = some (Value.slice A ns.length c) from rfl)
  clear h1 h2
  go_enter Tryz.func19, Tryz.ntmps19
  go_wp2
  go_ret
  exact ⟨rfl, rfl⟩
end Go.Proofs.YtkbkkceeolclmaaGreatDoor.X
namespace Go.TX
open Go.Lib
theorem join_lib : ∀ l : List (List UInt8), Lib.join l [32] = join l
  | [] => rfl
  | [a] => by simp [Lib.join, join, List.intercalate]
  | a :: b :: t => by
    have ih := join_lib (b :: t)
    unfold Lib.join at ih ⊢
    rw [List.intercalate_cons_of_ne_nil (by simp), ih]
    simp [join]
theorem prefix_one (s : List UInt8) (c : UInt8) : (Lib.trimPrefix s [c], Lib.hasPrefix s [c]) = if s.head? = some c then (s.tail, true) else (s, false) := by
  cases s with
  | nil => simp [Lib.trimPrefix, Lib.hasPrefix]
  | cons a t =>
    by_cases h : a = c
    · subst h; simp [Lib.trimPrefix, Lib.hasPrefix]
    · have hb : (c == a) = false := by simpa using Ne.symm h
      simp [Lib.trimPrefix, Lib.hasPrefix, List.isPrefixOf, hb, h]
theorem suffix_one (s : List UInt8) (c : UInt8) : (Lib.trimSuffix s [c], Lib.hasSuffix s [c]) = if s.getLast? = some c then (s.dropLast, true) else (s, false) := by
  rcases List.eq_nil_or_concat s with rfl | ⟨t, b, rfl⟩
  · simp [Lib.trimSuffix, Lib.hasSuffix, List.isSuffixOf]
  · have hh : Lib.hasSuffix (t ++ [b]) [c] = (c == b) := by
      unfold Lib.hasSuffix List.isSuffixOf
      simp [List.isPrefixOf]
    unfold Lib.trimSuffix
    simp only [List.concat_eq_append]
    rw [hh]
    by_cases h : b = c
    · subst h
      simp
    · have hb : (c == b) = false := by simpa using Ne.symm h
      rw [hb]
      simp [h]
def digitSet : List UInt8 := [48, 49, 50, 51, 52, 53, 54, 55, 56, 57]
theorem digitSet_mem (b : UInt8) : digitSet.contains b = true ↔ 48 ≤ b.toNat ∧ b.toNat ≤ 57 := by
  constructor
  · intro h
    simp [digitSet] at h
    rcases h with rfl | rfl | rfl | rfl | rfl | rfl | rfl | rfl | rfl | rfl <;> decide
  · rintro ⟨h1, h2⟩
    have h : b.toNat = (48 : UInt8).toNat ∨ b.toNat = (49 : UInt8).toNat ∨ b.toNat = (50 : UInt8).toNat ∨ b.toNat = (51 : UInt8).toNat ∨ b.toNat = (52 : UInt8).toNat ∨ b.toNat = (53 : UInt8).toNat ∨ b.toNat = (54 : UInt8).toNat ∨ b.toNat = (55 : UInt8).toNat ∨ b.toNat = (56 : UInt8).toNat ∨ b.toNat = (57 : UInt8).toNat := by
      simp
      omega
    simp only [UInt8.toNat_inj] at h
    rcases h with rfl | rfl | rfl | rfl | rfl | rfl | rfl | rfl | rfl | rfl <;> decide
theorem drop_nil {p : UInt8 → Bool} : ∀ {l : List UInt8}, l.dropWhile p = [] ↔ ∀ b ∈ l, p b = true
  | [] => by simp
  | a :: l => by
    cases h : p a with
    | true => simp [List.dropWhile, h, drop_nil (l := l)]
    | false => simp [List.dropWhile, h]
theorem trim_digits (l : List UInt8) : Lib.trimS l digitSet = [] ↔ ∀ b ∈ l, 48 ≤ b.toNat ∧ b.toNat ≤ 57 := by
  unfold Lib.trimS Lib.trimLeftS Lib.trimRightS
  rw [drop_nil]
  constructor
  · intro h
    have hr : l.reverse.dropWhile (digitSet.contains ·) = [] := by
      apply Classical.byContradiction
      intro hne
      have h1 := List.head_dropWhile_not (p := (digitSet.contains ·)) (l := l.reverse) hne
      rw [h _ (by rw [List.mem_reverse]; exact List.head_mem hne)] at h1
      cases h1
    rw [drop_nil] at hr
    exact fun b hb => (digitSet_mem b).1 (hr b (by simpa using hb))
  · intro h b hb
    exact (digitSet_mem b).2 (h b (by
      rw [List.mem_reverse] at hb
      have := (List.dropWhile_sublist _).subset hb
      simpa using this))
end Go.TX
namespace Go.Proofs.YtkbkkceeolclmaaGreatDoor.X
open Go.RowKit Go.TX Go.Lib Go.Proofs.YtkbkkceeolclmaaGreatDoorW.PrintWords Go.Proofs.YtkbkkceeolclmaaGreatDoorL
/-- The library's variables that are read lie as their text lays them. -/
structure Env (w : World) : Prop where
  tab : TabIs Tryz.prog w "internal/strconv.uint64pow10" .u64 pow10Tab
  maxl : ∃ m, w.cell? ⟨0, 0, none⟩ = some (.int .i64 m)
theorem var_below {w w' : World} (hb : Below w.heap.size w w') {name : String} {cs : Array Value} (h : w.var? Tryz.prog name = some cs) : w'.var? Tryz.prog name = some cs := by
  unfold World.var? at *
  cases hg : Tryz.prog.globalNamed name with
  | none => simp [hg] at h
  | some g =>
    simp only [hg, Option.bind_some] at h ⊢
    have hlt : g < w.heap.size := by
      rcases Nat.lt_or_ge g w.heap.size with h' | h'
      · exact h'
      · rw [Array.getElem?_eq_none h'] at h; simp at h
    rw [hb.block g hlt]
    exact h
theorem Env.below {w w' : World} (h : Env w) (hb : Below w.heap.size w w') : Env w' := by
  obtain ⟨a, ⟨m, d⟩⟩ := h
  exact ⟨var_below hb a, ⟨m, (hb.cell (World.block_lt_of_cell? w _ d)).trans d⟩⟩
theorem Env.drew {w : World} (h : Env w) : Env w.drew := h.below (Below.refl _ _).drew
theorem Env.of {w0 w : World} (h : Env w0) {B : Nat} (hb : Below B w0 w) (hB : w0.heap.size ≤ B) : Env w := h.below (hb.mono hB)
theorem itoa_any (n : Int) (h0 : 0 ≤ n) (h1 : n ≤ 999999999) (w : World) (hE : Env w) :
    Calls Tryz.prog 75 #[.int .i64 n] w fun e w' => e = .returned (.string (str (decDigits n.toNat))) ∧ Below w.heap.size w w' := by
  refine (Tryz.strconv_Itoa n (by omega) (by omega) w hE.tab).mono ?_
  rintro e w' ⟨rfl, k, os, rfl⟩
  rw [itoa_dd h0]
  exact ⟨rfl, below_grow _ _ (Nat.le_refl _) _ _⟩
theorem atoi_ok (s : ByteArray) (hs : s.size ≤ 5000) (v : Int) (h : atoiAll s.data.toList = .ok v) (w : World) :
    Calls Tryz.prog 97 #[.string s] w fun e w' => e = .returned (.tuple #[.int .i64 v, .nilIface]) ∧ Below w.heap.size w w' := by
  refine (Tryz.strconv_Atoi_ok s (by omega) v h w).mono ?_
  rintro e w' ⟨rfl, rfl | ⟨t, rfl⟩⟩
  · exact ⟨rfl, Below.refl _ _⟩
  · exact ⟨rfl, bytesWorld_below _ _ _⟩
theorem split_any (s : List UInt8) (hs : s.length ≤ 100000) (w : World) (hE : Env w) :
    Calls Tryz.prog 60 #[.string (str s), .string ⟨#[32]⟩] w fun e w' => e = .returned (.slice (some ⟨w.heap.size, 0, none⟩) (words s).length (words s).length) ∧ w' = w.alloc (.cells (cellsN (words s)).toArray 9) := by
  obtain ⟨m, hm⟩ := hE.maxl
  refine (Tryz.strings_Split (str s) (str [32]) m w (by rw [str_size]; omega) hm (by decide)).mono ?_
  rintro e w' ⟨rfl, rfl⟩
  rw [TX.pieces_eq, TX.pieces_len]
  have e : TX.pieces (str s) = (words s).map str := by unfold TX.pieces; simp
  rw [e, List.length_map, List.map_map]
  exact ⟨rfl, rfl⟩
theorem prefix_any (s : List UInt8) (c : UInt8) (w : World) : Calls Tryz.prog 81 #[.string (str s), .string ⟨#[c]⟩] w fun e w' => e = .returned (.tuple #[.string (str (if s.head? = some c then s.tail else s)), .bool (decide (s.head? = some c))]) ∧ w = w' := by
  refine (Tryz.strings_CutPrefix (str s) ⟨#[c]⟩ w).mono ?_
  rintro e w' ⟨rfl, rfl⟩
  refine ⟨?_, rfl⟩
  have h := prefix_one s c
  have h1 := congrArg Prod.fst h
  have h2 := congrArg Prod.snd h
  simp only at h1 h2
  show Ending.returned (.tuple #[.string ⟨(Lib.trimPrefix s [c]).toArray⟩, .bool (Lib.hasPrefix s [c])]) = _
  rw [h1, h2]
  split <;> rename_i hh <;> simp [hh]
theorem suffix_any (s : List UInt8) (hs : s.length ≤ 100000) (c : UInt8) (w : World) : Calls Tryz.prog 82 #[.string (str s), .string ⟨#[c]⟩] w fun e w' => e = .returned (.tuple #[.string (str (if s.getLast? = some c then s.dropLast else s)), .bool (decide (s.getLast? = some c))]) ∧ w = w' := by
  refine (Tryz.strings_CutSuffix (str s) ⟨#[c]⟩ w (by rw [str_size]; omega)).mono ?_
  rintro e w' ⟨rfl, rfl⟩
  refine ⟨?_, rfl⟩
  have h := suffix_one s c
  have h1 := congrArg Prod.fst h
  have h2 := congrArg Prod.snd h
  simp only at h1 h2
  show Ending.returned (.tuple #[.string ⟨(Lib.trimSuffix s [c]).toArray⟩, .bool (Lib.hasSuffix s [c])]) = _
  rw [h1, h2]
  split <;> rename_i hh <;> simp [hh]
theorem trim_any (s : List UInt8) (hs : s.length ≤ 100000) (w : World) : Calls Tryz.prog 96 #[.string (str s), .string ⟨#[48, 49, 50, 51, 52, 53, 54, 55, 56, 57]⟩] w fun e w' => e = .returned (.string (str (Lib.trimS s digitSet))) ∧ Below w.heap.size w w' :=
  Any.strings_Trim_laid Tryz.l160 (by kernel_rfl) (str s) ⟨#[48, 49, 50, 51, 52, 53, 54, 55, 56, 57]⟩ w (by rw [str_size]; omega) (by decide) (ascii_of_all (by decide))
/-- strings.Join over a row of the call's own. -/
theorem join_any {w : World} {n : Nat} {V : Value} (l : List (List UInt8)) (ho : w.ownsRow n 9 1 V l.length (cellsN l)) (hl : l.length ≤ 1000000) (hj : (TX.join l).length ≤ 1000000) :
    Calls Tryz.prog 47 #[V, .string ⟨#[32]⟩] w fun e w' => e = .returned (.string (str (TX.join l))) ∧ Below w.heap.size w w' := by
  cases l with
  | nil =>
    obtain ⟨A, c, rfl⟩ := owns_form ho
    refine (Tryz.strings_Join_none A c ⟨#[32]⟩ w).mono ?_
    rintro e w' ⟨rfl, rfl⟩
    exact ⟨rfl, Below.refl _ _⟩
  | cons a t =>
    have hlc := ho
    obtain ⟨g, c, rfl, _, hgl⟩ := owns_form1 ho (by simp)
    have hcap : (a :: t).length ≤ c := by
      rcases hlc.2 with ⟨e2, _⟩ | ⟨g2, cap2, cur2, e2, _, _, q1, _⟩
      · cases e2
      · cases e2
        exact q1
    have hm : ((a :: t).map str).map (·.data.toList) = a :: t := by rw [List.map_map]; exact (List.map_congr_left (fun x _ => by simp)).trans (List.map_id _)
    have h := Tryz.strings_Join g 0 c ((a :: t).map str) ⟨#[32]⟩ w (fun j x hx => by
      have hc := ho.cells (g := g) rfl j (.string x) (by simp only [cellsN]; rw [List.getElem?_map] at hx ⊢; cases hq : (a :: t)[j]? with
        | none => rw [hq] at hx; cases hx
        | some y => rw [hq] at hx; cases hx; rfl)
      have ea : (⟨g, 0, none⟩ : Addr).add j = ⟨g, 0 + j, none⟩ := by
        unfold Addr.add
        split
        · rename_i e; subst e; rfl
        · simp
      rw [ea] at hc
      exact hc) hgl (by rw [List.length_map]; omega) (by rw [List.length_map]; exact hcap) (by rw [hm, show (⟨#[32]⟩ : ByteArray).data.toList = [32] from rfl, join_lib]; omega)
    rw [hm, show (⟨#[32]⟩ : ByteArray).data.toList = [32] from rfl, join_lib, List.length_map] at h
    exact h
end Go.Proofs.YtkbkkceeolclmaaGreatDoor.X
