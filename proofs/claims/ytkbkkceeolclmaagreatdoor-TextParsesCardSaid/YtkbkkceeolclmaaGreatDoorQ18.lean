/- The library's contracts as package text uses them, and what they ask of a world. The reader in memory; a name's symbol, as it will be. -/
import Derived.Lib.AppendIntMem
import Derived.Lib.AtoiErrMem
import Derived.Test.YtkbkkceeolclmaaGreatDoorQ17
import Derived.Test.YtkbkkceeolclmaaGreatDoorQ13
set_option linter.unusedVariables false
set_option linter.unusedSimpArgs false
namespace Go.TX
open Go.Lib
theorem join_lib : ∀ l : List (List UInt8), Lib.join l [32] = join l
  | [] => rfl
  | [a] => by simp [Lib.join, join, List.intercalate]
  | a :: b :: t => by
    have ih := join_lib (b :: t)
    unfold Lib.join at ih ⊢
    rw [List.intercalate_cons_of_ne_nil (by simp), ih]
    simp [join]
theorem prefix_one (s : List UInt8) (c : UInt8) : (Lib.trimPrefix s [c], Lib.hasPrefix s [c]) = if s.head? = some c then (s.tail, true) else (s, false) := by
  cases s with
  | nil => simp [Lib.trimPrefix, Lib.hasPrefix]
  | cons a t =>
    by_cases h : a = c
    · subst h; simp [Lib.trimPrefix, Lib.hasPrefix]
    · have hb : (c == a) = false := by simpa using Ne.symm h
      simp [Lib.trimPrefix, Lib.hasPrefix, List.isPrefixOf, hb, h]
theorem suffix_one (s : List UInt8) (c : UInt8) : (Lib.trimSuffix s [c], Lib.hasSuffix s [c]) = if s.getLast? = some c then (s.dropLast, true) else (s, false) := by
  rcases List.eq_nil_or_concat s with rfl | ⟨t, b, rfl⟩
  · simp [Lib.trimSuffix, Lib.hasSuffix, List.isSuffixOf]
  · have hh : Lib.hasSuffix (t ++ [b]) [c] = (c == b) := by
      unfold Lib.hasSuffix List.isSuffixOf
      simp [List.isPrefixOf]
    unfold Lib.trimSuffix
    simp only [List.concat_eq_append]
    rw [hh]
    by_cases h : b = c
    · subst h
      simp
    · have hb : (c == b) = false := by simpa using Ne.symm h
      rw [hb]
      simp [h]
def digitSet : List UInt8 := [48, 49, 50, 51, 52, 53, 54, 55, 56, 57]
theorem digitSet_mem (b : UInt8) : digitSet.contains b = true ↔ 48 ≤ b.toNat ∧ b.toNat ≤ 57 := by
  constructor
  · intro h
    simp [digitSet] at h
    rcases h with rfl | rfl | rfl | rfl | rfl | rfl | rfl | rfl | rfl | rfl <;> decide
  · rintro ⟨h1, h2⟩
    have h : b.toNat = (48 : UInt8).toNat ∨ b.toNat = (49 : UInt8).toNat ∨ b.toNat = (50 : UInt8).toNat ∨ b.toNat = (51 : UInt8).toNat ∨ b.toNat = (52 : UInt8).toNat ∨ b.toNat = (53 : UInt8).toNat ∨ b.toNat = (54 : UInt8).toNat ∨ b.toNat = (55 : UInt8).toNat ∨ b.toNat = (56 : UInt8).toNat ∨ b.toNat = (57 : UInt8).toNat := by
      simp
      omega
    simp only [UInt8.toNat_inj] at h
    rcases h with rfl | rfl | rfl | rfl | rfl | rfl | rfl | rfl | rfl | rfl <;> decide
theorem drop_nil {p : UInt8 → Bool} : ∀ {l : List UInt8}, l.dropWhile p = [] ↔ ∀ b ∈ l, p b = true
  | [] => by simp
  | a :: l => by
    cases h : p a with
    | true => simp [List.dropWhile, h, drop_nil (l := l)]
    | false => simp [List.dropWhile, h]
theorem trim_digits (l : List UInt8) : Lib.trimS l digitSet = [] ↔ ∀ b ∈ l, 48 ≤ b.toNat ∧ b.toNat ≤ 57 := by
  unfold Lib.trimS Lib.trimLeftS Lib.trimRightS
  rw [drop_nil]
  constructor
  · intro h
    have hr : l.reverse.dropWhile (digitSet.contains ·) = [] := by
      apply Classical.byContradiction
      intro hne
      have h1 := List.head_dropWhile_not (p := (digitSet.contains ·)) (l := l.reverse) hne
      rw [h _ (by rw [List.mem_reverse]; exact List.head_mem hne)] at h1
      cases h1
    rw [drop_nil] at hr
    exact fun b hb => (digitSet_mem b).1 (hr b (by simpa using hb))
  · intro h b hb
    exact (digitSet_mem b).2 (h b (by
      rw [List.mem_reverse] at hb
      have := (List.dropWhile_sublist _).subset hb
      simpa using this))
end Go.TX
namespace Go.Proofs.YtkbkkceeolclmaaGreatDoor.X
open Go.RowKit Go.TX Go.Lib Go.Proofs.YtkbkkceeolclmaaGreatDoorW.PrintWords Go.Proofs.YtkbkkceeolclmaaGreatDoorL
/-- The library's variables that are read lie as their text lays them. -/
structure Env (w : World) : Prop where
  tab : TabIs Tryz.prog w "internal/strconv.uint64pow10" .u64 pow10Tab
  maxl : ∃ m, w.cell? ⟨0, 0, none⟩ = some (.int .i64 m)
theorem var_below {w w' : World} (hb : Below w.heap.size w w') {name : String} {cs : Array Value} (h : w.var? Tryz.prog name = some cs) : w'.var? Tryz.prog name = some cs := by
  unfold World.var? at *
  cases hg : Tryz.prog.globalNamed name with
  | none => simp [hg] at h
  | some g =>
    simp only [hg, Option.bind_some] at h ⊢
    have hlt : g < w.heap.size := by
      rcases Nat.lt_or_ge g w.heap.size with h' | h'
      · exact h'
      · rw [Array.getElem?_eq_none h'] at h; simp at h
    rw [hb.block g hlt]
    exact h
theorem Env.below {w w' : World} (h : Env w) (hb : Below w.heap.size w w') : Env w' := by
  obtain ⟨a, ⟨m, d⟩⟩ := h
  exact ⟨var_below hb a, ⟨m, (hb.cell (World.block_lt_of_cell? w _ d)).trans d⟩⟩
theorem Env.drew {w : World} (h : Env w) : Env w.drew := h.below (Below.refl _ _).drew
theorem Env.of {w0 w : World} (h : Env w0) {B : Nat} (hb : Below B w0 w) (hB : w0.heap.size ≤ B) : Env w := h.below (hb.mono hB)
theorem itoa_any (n : Int) (h0 : 0 ≤ n) (h1 : n ≤ 999999999) (w : World) (hE : Env w) :
    Calls Tryz.prog 75 #[.int .i64 n] w fun e w' => e = .returned (.string (str (decDigits n.toNat))) ∧ Below w.heap.size w w' := by
  refine (Tryz.strconv_Itoa n (by omega) (by omega) w hE.tab).mono ?_
  rintro e w' ⟨rfl, k, os, rfl⟩
  rw [itoa_dd h0]
  exact ⟨rfl, below_grow _ _ (Nat.le_refl _) _ _⟩
theorem atoi_ok (s : ByteArray) (hs : s.size ≤ 5000) (v : Int) (h : atoiAll s.data.toList = .ok v) (w : World) :
    Calls Tryz.prog 97 #[.string s] w fun e w' => e = .returned (.tuple #[.int .i64 v, .nilIface]) ∧ Below w.heap.size w w' := by
  refine (Tryz.strconv_Atoi_ok s (by omega) v h w).mono ?_
  rintro e w' ⟨rfl, rfl | ⟨t, rfl⟩⟩
  · exact ⟨rfl, Below.refl _ _⟩
  · exact ⟨rfl, bytesWorld_below _ _ _⟩
theorem split_any (s : List UInt8) (hs : s.length ≤ 100000) (w : World) (hE : Env w) :
    Calls Tryz.prog 60 #[.string (str s), .string ⟨#[32]⟩] w fun e w' => e = .returned (.slice (some ⟨w.heap.size, 0, none⟩) (words s).length (words s).length) ∧ w' = w.alloc (.cells (cellsN (words s)).toArray 9) := by
  obtain ⟨m, hm⟩ := hE.maxl
  refine (Tryz.strings_Split (str s) (str [32]) m w (by rw [str_size]; omega) hm (by decide)).mono ?_
  rintro e w' ⟨rfl, rfl⟩
  rw [TX.pieces_eq, TX.pieces_len]
  have e : TX.pieces (str s) = (words s).map str := by unfold TX.pieces; simp
  rw [e, List.length_map, List.map_map]
  exact ⟨rfl, rfl⟩
theorem prefix_any (s : List UInt8) (c : UInt8) (w : World) : Calls Tryz.prog 81 #[.string (str s), .string ⟨#[c]⟩] w fun e w' => e = .returned (.tuple #[.string (str (if s.head? = some c then s.tail else s)), .bool (decide (s.head? = some c))]) ∧ w = w' := by
  refine (Tryz.strings_CutPrefix (str s) ⟨#[c]⟩ w).mono ?_
  rintro e w' ⟨rfl, rfl⟩
  refine ⟨?_, rfl⟩
  have h := prefix_one s c
  have h1 := congrArg Prod.fst h
  have h2 := congrArg Prod.snd h
  simp only at h1 h2
  show Ending.returned (.tuple #[.string ⟨(Lib.trimPrefix s [c]).toArray⟩, .bool (Lib.hasPrefix s [c])]) = _
  rw [h1, h2]
  split <;> rename_i hh <;> simp [hh]
theorem suffix_any (s : List UInt8) (hs : s.length ≤ 100000) (c : UInt8) (w : World) : Calls Tryz.prog 82 #[.string (str s), .string ⟨#[c]⟩] w fun e w' => e = .returned (.tuple #[.string (str (if s.getLast? = some c then s.dropLast else s)), .bool (decide (s.getLast? = some c))]) ∧ w = w' := by
  refine (Tryz.strings_CutSuffix (str s) ⟨#[c]⟩ w (by rw [str_size]; omega)).mono ?_
  rintro e w' ⟨rfl, rfl⟩
  refine ⟨?_, rfl⟩
  have h := suffix_one s c
  have h1 := congrArg Prod.fst h
  have h2 := congrArg Prod.snd h
  simp only at h1 h2
  show Ending.returned (.tuple #[.string ⟨(Lib.trimSuffix s [c]).toArray⟩, .bool (Lib.hasSuffix s [c])]) = _
  rw [h1, h2]
  split <;> rename_i hh <;> simp [hh]
theorem trim_any (s : List UInt8) (hs : s.length ≤ 100000) (w : World) : Calls Tryz.prog 96 #[.string (str s), .string ⟨#[48, 49, 50, 51, 52, 53, 54, 55, 56, 57]⟩] w fun e w' => e = .returned (.string (str (Lib.trimS s digitSet))) ∧ Below w.heap.size w w' :=
  Any.strings_Trim_laid Tryz.l160 (by kernel_rfl) (str s) ⟨#[48, 49, 50, 51, 52, 53, 54, 55, 56, 57]⟩ w (by rw [str_size]; omega) (by decide) (ascii_of_all (by decide))
/-- strings.Join over a row of the call's own. -/
theorem join_any {w : World} {n : Nat} {V : Value} (l : List (List UInt8)) (ho : w.ownsRow n 9 1 V l.length (cellsN l)) (hl : l.length ≤ 1000000) (hj : (TX.join l).length ≤ 1000000) :
    Calls Tryz.prog 47 #[V, .string ⟨#[32]⟩] w fun e w' => e = .returned (.string (str (TX.join l))) ∧ Below w.heap.size w w' := by
  cases l with
  | nil =>
    obtain ⟨A, c, rfl⟩ := owns_form ho
    refine (Tryz.strings_Join_none A c ⟨#[32]⟩ w).mono ?_
    rintro e w' ⟨rfl, rfl⟩
    exact ⟨rfl, Below.refl _ _⟩
  | cons a t =>
    have hlc := ho
    obtain ⟨g, c, rfl, _, hgl⟩ := owns_form1 ho (by simp)
    have hcap : (a :: t).length ≤ c := by
      rcases hlc.2 with ⟨e2, _⟩ | ⟨g2, cap2, cur2, e2, _, _, q1, _⟩
      · cases e2
      · cases e2
        exact q1
    have hm : ((a :: t).map str).map (·.data.toList) = a :: t := by rw [List.map_map]; exact (List.map_congr_left (fun x _ => by simp)).trans (List.map_id _)
    have h := Tryz.strings_Join g 0 c ((a :: t).map str) ⟨#[32]⟩ w (fun j x hx => by
      have hc := ho.cells (g := g) rfl j (.string x) (by simp only [cellsN]; rw [List.getElem?_map] at hx ⊢; cases hq : (a :: t)[j]? with
        | none => rw [hq] at hx; cases hx
        | some y => rw [hq] at hx; cases hx; rfl)
      have ea : (⟨g, 0, none⟩ : Addr).add j = ⟨g, 0 + j, none⟩ := by
        unfold Addr.add
        split
        · rename_i e; subst e; rfl
        · simp
      rw [ea] at hc
      exact hc) hgl (by rw [List.length_map]; omega) (by rw [List.length_map]; exact hcap) (by rw [hm, show (⟨#[32]⟩ : ByteArray).data.toList = [32] from rfl, join_lib]; omega)
    rw [hm, show (⟨#[32]⟩ : ByteArray).data.toList = [32] from rfl, join_lib, List.length_map] at h
    exact h
end Go.Proofs.YtkbkkceeolclmaaGreatDoor.X
namespace Go.TX
theorem findN_app (ns fr : List (List UInt8)) (s : List UInt8) : findN (ns ++ fr) s = if s ∈ ns then findN ns s else if s ∈ fr then ns.length + findN fr s else 0 := by
  unfold findN
  by_cases h1 : s ∈ ns
  · rw [if_pos (by simp [h1]), if_pos h1, List.idxOf_append, if_pos h1, if_pos h1]
  · rw [if_neg h1]
    by_cases h2 : s ∈ fr
    · rw [if_pos (by simp [h2]), if_pos h2, List.idxOf_append, if_neg h1, if_pos h2]
      omega
    · rw [if_neg (by simp [h1, h2]), if_neg h2]
/-- The new names behind a look at one. -/
def freshN (ns fr : List (List UInt8)) (s : List UInt8) : List (List UInt8) := if s ∈ ns ++ fr then fr else fr ++ [s]
theorem fresh_all (ns fr : List (List UInt8)) (s : List UInt8) : ns ++ freshN ns fr s = addN (ns ++ fr) s := by
  unfold freshN addN
  split <;> simp
end Go.TX
namespace Go.Proofs.YtkbkkceeolclmaaGreatDoor.X
open Go.RowKit Go.TX Go.Proofs.YtkbkkceeolclmaaGreatDoorW.PrintWords Go.Proofs.YtkbkkceeolclmaaGreatDoorL
def seenOf (ns fr : List (List UInt8)) (s : ByteArray) : Option Value := if s.data.toList ∈ fr then some (.int .i64 ((ns.length : Int) + (findN fr s.data.toList : Nat))) else none
/-- Words in a row, to be read; no block of S. -/
def WordsAt (w : World) (S : Nat → Prop) (V : Value) (ws : List (List UInt8)) : Prop :=
  ∃ A c, V = .slice A ws.length c ∧ ws.length ≤ c ∧ c ≤ 9223372036854775807 ∧ ∀ j (h : j < ws.length), ∃ b o, A = some ⟨b, o, none⟩ ∧ (∃ cs, w.heap[b]? = some (.cells cs 9 (0, 0))) ∧ ¬ S b ∧ w.cell? ⟨b, o + j, none⟩ = some (.string (str ws[j]))
theorem WordsAt.ch {w W : World} {S F : Nat → Prop} {V : Value} {ws : List (List UInt8)} (h : WordsAt w S V ws) (hc : Ch w W F) (hs : ∀ b, b < w.heap.size → F b → S b) : WordsAt W S V ws := by
  obtain ⟨A, c, h1, h2, h2', h3⟩ := h
  refine ⟨A, c, h1, h2, h2', fun j hj => ?_⟩
  obtain ⟨b, o, e, hb, hn, hcell⟩ := h3 j hj
  obtain ⟨cs, hcs⟩ := hb
  have hbl := hc.block b (blk_lt hcs) (fun q => hn (hs b (blk_lt hcs) q))
  exact ⟨b, o, e, ⟨cs, hbl.trans hcs⟩, hn, (World.cell?_of_block hbl).trans hcell⟩
theorem WordsAt.mono {w : World} {S T : Nat → Prop} {V : Value} {ws : List (List UInt8)} (h : WordsAt w S V ws) (hs : ∀ b, b < w.heap.size → T b → S b) : WordsAt w T V ws := by
  obtain ⟨A, c, h1, h2, h2', h3⟩ := h
  refine ⟨A, c, h1, h2, h2', fun j hj => ?_⟩
  obtain ⟨b, o, e, hb, hn, hcell⟩ := h3 j hj
  exact ⟨b, o, e, hb, fun q => hn (hs b (hb.elim fun _ q => blk_lt q) q), hcell⟩
/-- The reader at block r: T, F: the blocks of the table, and of what it writes itself. -/
structure Rd (w : World) (T F : Nat → Prop) (r tb : Nat) (Wv Fv : Value) (sm : Nat) (ws ns fr : List (List UInt8)) : Prop where
  head : w.heap[r]? = some (.cells #[Wv, .pointer (some ⟨tb, 0, none⟩), Fv, .map (some sm)] 88 (0, 0))
  words : WordsAt w (fun b => F b ∨ T b) Wv ws
  fresh : w.ownsRow 0 9 1 Fv fr.length (cellsN fr)
  seen : MapIs strCode w sm (seenOf ns fr) fr.length
  table : Tb w T tb ns
  fr_ : F r
  fs : F sm
  ff : ∀ b, Fv.ownBlock = some b → F b
  tlt : ∀ b, T b → b < w.heap.size
  flt : ∀ b, F b → b < w.heap.size
  apart : ∀ b, T b → ¬ F b
def RdE (w : World) (T F : Nat → Prop) (r tb : Nat) (ws ns fr : List (List UInt8)) : Prop := ∃ Wv Fv sm, Rd w T F r tb Wv Fv sm ws ns fr
section
variable {w W : World} {T F G : Nat → Prop} {r tb sm : Nat} {Wv Fv : Value} {ws ns fr : List (List UInt8)}
/-- What is new alone has been added. -/
theorem Rd.below (h : Rd w T F r tb Wv Fv sm ws ns fr) (hb : Below w.heap.size w W) : Rd W T F r tb Wv Fv sm ws ns fr :=
  ⟨(hb.block r (blk_lt h.head)).trans h.head, h.words.ch (F := fun _ => False) (Ch.of_below hb _) (fun _ _ q => q.elim), owns_below h.fresh hb, h.seen.of_heap (hb.block sm h.seen.lt), h.table.below hb, h.fr_, h.fs, h.ff, fun b hb' => Nat.lt_of_lt_of_le (h.tlt b hb') hb.size, fun b hb' => Nat.lt_of_lt_of_le (h.flt b hb') hb.size, h.apart⟩
theorem RdE.below (h : RdE w T F r tb ws ns fr) (hb : Below w.heap.size w W) : RdE W T F r tb ws ns fr := by
  obtain ⟨Wv, Fv, sm, h⟩ := h
  exact ⟨Wv, Fv, sm, h.below hb⟩
theorem Rd.fresh_ne (h : Rd w T F r tb Wv Fv sm ws ns fr) {b : Nat} (hb : Fv.ownBlock = some b) : b ≠ r := by
  obtain ⟨cs, hcs⟩ := own_typed h.fresh b hb
  exact ne_type hcs h.head (by decide)
theorem Rd.fresh_map (h : Rd w T F r tb Wv Fv sm ws ns fr) {b : Nat} (hb : Fv.ownBlock = some b) : sm ≠ b := by
  obtain ⟨cs, hcs⟩ := own_typed h.fresh b hb
  exact ne_map h.seen hcs
theorem Rd.no72 (h : Rd w T F r tb Wv Fv sm ws ns fr) {b : Nat} (hb : b = r ∨ b = sm ∨ Fv.ownBlock = some b) (cs : Array Value) : w.heap[b]? ≠ some (.cells cs 72 (0, 0)) := fun q => by
  rcases hb with e | e | e
  · subst e
    exact ne_type h.head q (by decide) rfl
  · subst e
    exact ne_map h.seen q rfl
  · obtain ⟨cs2, hcs⟩ := own_typed h.fresh b e
    exact ne_type hcs q (by decide) rfl
theorem Rd.foot (h : Rd w T F r tb Wv Fv sm ws ns fr) {b : Nat} (hb : b = r ∨ b = sm ∨ Fv.ownBlock = some b) : F b := by
  rcases hb with e | e | e
  · exact e ▸ h.fr_
  · exact e ▸ h.fs
  · exact h.ff b e
end
theorem Tb.set {w : World} {F : Nat → Prop} {t : Nat} {ns : List (List UInt8)} (h : Tb w F t ns) {g : Nat} {cs : Array Value} {ty : TypeId} (hg : w.heap[g]? = some (.cells cs ty (0, 0))) (h1 : ty ≠ 101) (h2 : ty ≠ 9) (j : Nat) (u : Value) : Tb (w.setCell ⟨g, j, none⟩ u) F t ns := by
  obtain ⟨N, m, a1, a2, a3, a4, a5, a6⟩ := h
  refine ⟨N, m, (Below.heap_setCell _ _ _ _ (ne_type a1 hg (Ne.symm h1))).trans a1, owns_move a2 (fun b _ _ ho => Below.heap_setCell _ _ _ _ ?_), a3.of_heap (Below.heap_setCell _ _ _ _ (ne_map a3 hg)), a4, a5, a6⟩
  obtain ⟨cs2, hcs⟩ := own_typed a2 b ho
  exact ne_type hcs hg (Ne.symm h2)
theorem Rd.set {w : World} {T F : Nat → Prop} {r tb sm : Nat} {Wv Fv : Value} {ws ns fr : List (List UInt8)} (h : Rd w T F r tb Wv Fv sm ws ns fr) {g : Nat} {cs : Array Value} {ty : TypeId} (hg : w.heap[g]? = some (.cells cs ty (0, 0))) (h0 : ty ≠ 88) (h1 : ty ≠ 101) (h2 : ty ≠ 9) (j : Nat) (u : Value) : Rd (w.setCell ⟨g, j, none⟩ u) T F r tb Wv Fv sm ws ns fr := by
  have hz : (w.setCell ⟨g, j, none⟩ u).heap.size = w.heap.size := by simp [World.setCell]
  refine ⟨(Below.heap_setCell _ _ _ _ (ne_type h.head hg (Ne.symm h0))).trans h.head, ?_, owns_move h.fresh (fun b _ _ ho => Below.heap_setCell _ _ _ _ ?_), h.seen.of_heap (Below.heap_setCell _ _ _ _ (ne_map h.seen hg)), h.table.set hg h1 h2 j u, h.fr_, h.fs, h.ff, fun b hb => hz ▸ h.tlt b hb, fun b hb => hz ▸ h.flt b hb, h.apart⟩
  · obtain ⟨A, c, e1, e2, e3, e4⟩ := h.words
    refine ⟨A, c, e1, e2, e3, fun i hi => ?_⟩
    obtain ⟨b, o, e, ⟨cs2, hcs⟩, hn, hcell⟩ := e4 i hi
    have hbl : (w.setCell ⟨g, j, none⟩ u).heap[b]? = w.heap[b]? := Below.heap_setCell _ _ _ _ (ne_type hcs hg (Ne.symm h2))
    exact ⟨b, o, e, ⟨cs2, hbl.trans hcs⟩, hn, (World.cell?_of_block hbl).trans hcell⟩
  · obtain ⟨cs2, hcs⟩ := own_typed h.fresh b ho
    exact ne_type hcs hg (Ne.symm h2)
theorem RdE.set {w : World} {T F : Nat → Prop} {r tb : Nat} {ws ns fr : List (List UInt8)} (h : RdE w T F r tb ws ns fr) {g : Nat} {cs : Array Value} {ty : TypeId} (hg : w.heap[g]? = some (.cells cs ty (0, 0))) (h0 : ty ≠ 88) (h1 : ty ≠ 101) (h2 : ty ≠ 9) (j : Nat) (u : Value) : RdE (w.setCell ⟨g, j, none⟩ u) T F r tb ws ns fr := by
  obtain ⟨Wv, Fv, sm, h⟩ := h
  exact ⟨Wv, Fv, sm, h.set hg h0 h1 h2 j u⟩
theorem Fr.set {w W : World} {F : Nat → Prop} (h : Fr w W F) {p : Addr} (hp : w.heap.size ≤ p.block) (u : Value) : Fr w (W.setCell p u) F :=
  ⟨h.ch.setCell p (fun q => by omega) u, fun b cs e => (Below.heap_setCell _ _ _ _ (fun q => by have := blk_lt e; omega)).trans (h.k72 b cs e)⟩
/-- The reader behind a call: what it writes itself is F's, or new. -/
def RdX (w : World) (F : Nat → Prop) (W : World) (T : Nat → Prop) (r tb : Nat) (ws ns fr : List (List UInt8)) : Prop := ∃ F', (∀ b, F' b → F b ∨ w.heap.size ≤ b) ∧ RdE W T F' r tb ws ns fr
theorem RdX.same {w W : World} {T F : Nat → Prop} {r tb : Nat} {ws ns fr : List (List UInt8)} (h : RdE W T F r tb ws ns fr) : RdX w F W T r tb ws ns fr := ⟨F, fun _ q => .inl q, h⟩
theorem RdX.trans {w w1 W : World} {T F G : Nat → Prop} {r tb : Nat} {ws ns fr : List (List UInt8)} (hg : ∀ b, G b → F b ∨ w.heap.size ≤ b) (hs : w.heap.size ≤ w1.heap.size) (h : RdX w1 G W T r tb ws ns fr) : RdX w F W T r tb ws ns fr := by
  obtain ⟨F', h1, h2⟩ := h
  exact ⟨F', fun b q => (h1 b q).elim (hg b) (fun q => .inr (Nat.le_trans hs q)), h2⟩
theorem Fr.thenX {w w1 w2 : World} {F G : Nat → Prop} (h : Fr w w1 F) (k : Fr w1 w2 G) (hg : ∀ b, G b → F b ∨ w.heap.size ≤ b) : Fr w w2 F := h.then k fun b hb q => (hg b q).elim id (fun q => by omega)
end Go.Proofs.YtkbkkceeolclmaaGreatDoor.X
