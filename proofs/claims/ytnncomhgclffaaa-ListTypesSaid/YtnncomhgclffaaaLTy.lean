/- Two lists side by side, one of numbers and one of pairs of strings: what each call leaves of both. -/
import Derived.Test.YtnncomhgclffaaaLListIA
import Derived.Test.YtnncomhgclffaaaLListPA
import Derived.Test.YtnncomhgclffaaaLAwake09
import Derived.Laws.StructEq
import Derived.Laws.Tables
import Derived.Laws.Cover2
import Derived.KernelRfl
namespace Go.Proofs.Ytnncomhgclffaaa.LT
open Go.RowKit Go.Proofs.YtnncomhgclffaaaW.PrintWords Go.Proofs.YtnncomhgclffaaaL

theorem eq46 (n : Nat) (a b : ByteArray) (w : World) : (Op.equalIn (n + 2) 46 (.agg #[.string a, .string b]) (.agg #[.string a, .string b])).run Try.prog w = .ok true w := by
  have u9 := Try.underlying9
  have a9 := Try.isAgg9
  have z9 := Try.sizeOf9
  rw [Op.equalIn]
  simp only [Sem.run_bind, run_underlying Try.underlying46, Result.andThen_ok]
  simp only [Std.Legacy.Range.forIn_eq_forIn_range', Std.Legacy.Range.size, Nat.sub_zero, Nat.add_sub_cancel, Nat.div_one, List.range'_succ, List.range'_zero, List.forIn_cons, List.forIn_nil]
  go_simp
theorem build46 (a b : ByteArray) (w : World) : (Instr.build 46 #[(0, .string a), (1, .string b)]).run Try.prog w = .ok (.agg #[.string a, .string b]) w := run_build w 46 _ _ (by kernel_rfl)

/-- The handles k + 1 .. k + m. -/
def rowF (k m : Nat) : List Int := (List.range' k m).map (fun (i : Nat) => (i : Int) + 1)
theorem rowF_len (k m : Nat) : (rowF k m).length = m := by simp [rowF]
theorem rowF_succ (k m : Nat) : rowF k (m + 1) = ((k : Int) + 1) :: rowF (k + 1) m := by simp [rowF, List.range'_succ]
theorem rowF_snoc (m : Nat) : rowF 0 (m + 1) = rowF 0 m ++ [(m : Int) + 1] := by simp [rowF, List.range'_concat]
theorem mem_rowF {k m : Nat} (h : k < m) : ((k : Int) + 1) ∈ rowF 0 m := by
  simp only [rowF, List.mem_map]
  exact ⟨k, by simp [List.mem_range']; omega, rfl⟩

/-- Both lists, in blocks apart. -/
def Two (w W : World) (la lb : Nat) (r1 : List Int) (v1 : List Int) (r2 : List Int) (v2 : List LP.P2) : Prop :=
  ∃ F1 F2 : Nat → Prop, LI.Lst W la F1 r1 v1 ∧ LP.Lst W lb F2 r2 v2 ∧ (∀ b, F1 b → ¬ F2 b) ∧ (∀ b, F1 b → w.heap.size ≤ b ∧ b < W.heap.size) ∧ (∀ b, F2 b → w.heap.size ≤ b ∧ b < W.heap.size) ∧ Below w.heap.size w W

section
variable {w W : World} {la lb : Nat} {r1 v1 r2 : List Int} {v2 : List LP.P2}

theorem Two.below (h : Two w W la lb r1 v1 r2 v2) : Below w.heap.size w W := by
  obtain ⟨_, _, _, _, _, _, _, h⟩ := h
  exact h
theorem Two.keep {W' : World} (h : Two w W la lb r1 v1 r2 v2) (hb : Below W.heap.size W W') : Two w W' la lb r1 v1 r2 v2 := by
  obtain ⟨F1, F2, h1, h2, hd, b1, b2, hB⟩ := h
  have hs := hb.size
  exact ⟨F1, F2, h1.below hb, h2.below hb, hd, fun b hb => ⟨(b1 b hb).1, by have := (b1 b hb).2; omega⟩, fun b hb => ⟨(b2 b hb).1, by have := (b2 b hb).2; omega⟩, hB.trans (hb.mono hB.size)⟩
theorem Two.alloc (h : Two w W la lb r1 v1 r2 v2) (o : Obj) : Two w (W.alloc o) la lb r1 v1 r2 v2 := h.keep ((Below.refl _ _).alloc (Nat.le_refl _) o)

theorem push1 (v : Int) (h : Two w W la lb r1 v1 r2 v2) (hl : v1.length < 100000) :
    Calls Try.prog 30 #[.pointer (some ⟨la, 0, none⟩), .int .i64 v] W fun e W' => e = .returned (.int .i64 ((v1.length : Int) + 1)) ∧ Two w W' la lb (r1 ++ [(v1.length : Int) + 1]) (v1 ++ [v]) r2 v2 := by
  obtain ⟨F1, F2, h1, h2, hd, b1, b2, hB⟩ := h
  refine (LI.push_lst v h1 hl).mono ?_
  rintro e W' ⟨rfl, h1', hc⟩
  have hs := hc.size
  have hB' := hB.size
  refine ⟨rfl, fun b => (F1 b ∨ W.heap.size ≤ b) ∧ b < W'.heap.size, F2, h1'.bound, h2.ch hc (fun b hb h => hd b h hb), ?_, ?_, fun b hb => ⟨(b2 b hb).1, by have := (b2 b hb).2; omega⟩, hc.below hB hB' (fun b hb => (b1 b hb).1)⟩
  · rintro b ⟨hf | hf, _⟩ h
    · exact hd b hf h
    · have := (b2 b h).2; omega
  · rintro b ⟨hf | hf, hlt⟩
    · exact ⟨(b1 b hf).1, hlt⟩
    · exact ⟨by omega, hlt⟩

theorem after2 (F1 F2 : Nat → Prop) {r : Value} {r3 : List Int} {v3 : List LP.P2} {e : Ending} {W' : World} (h1 : LI.Lst W la F1 r1 v1) (hP : LP.LPost W F2 lb r r3 v3 e W') (hd : ∀ b, F1 b → ¬ F2 b) (b1 : ∀ b, F1 b → w.heap.size ≤ b ∧ b < W.heap.size) (b2 : ∀ b, F2 b → w.heap.size ≤ b ∧ b < W.heap.size) (hB : Below w.heap.size w W) : Two w W' la lb r1 v1 r3 v3 := by
  obtain ⟨_, h2', hc⟩ := hP
  have hs := hc.size
  have hB' := hB.size
  refine ⟨F1, fun b => (F2 b ∨ W.heap.size ≤ b) ∧ b < W'.heap.size, h1.ch hc hd, h2'.bound, ?_, fun b hb => ⟨(b1 b hb).1, by have := (b1 b hb).2; omega⟩, ?_, hc.below hB hB' (fun b hb => (b2 b hb).1)⟩
  · rintro b hf ⟨h | h, _⟩
    · exact hd b hf h
    · have := (b1 b hf).2; omega
  · rintro b ⟨hf | hf, hlt⟩
    · exact ⟨(b2 b hf).1, hlt⟩
    · exact ⟨by omega, hlt⟩
theorem push2 (s t : ByteArray) (h : Two w W la lb r1 v1 r2 v2) (hl : v2.length < 100000) :
    Calls Try.prog 31 #[.pointer (some ⟨lb, 0, none⟩), .agg #[.string s, .string t]] W fun e W' => e = .returned (.int .i64 ((v2.length : Int) + 1)) ∧ Two w W' la lb r1 v1 (r2 ++ [(v2.length : Int) + 1]) (v2 ++ [(s, t)]) := by
  obtain ⟨F1, F2, h1, h2, hd, b1, b2, hB⟩ := h
  exact (LP.push_lst (s, t) h2 hl).mono fun e W' hP => ⟨hP.1, after2 F1 F2 h1 hP hd b1 b2 hB⟩
theorem remove2 {b : List Int} {x : Int} (h : Two w W la lb r1 v1 (x :: b) v2) (hl : v2.length < 100000) :
    Calls Try.prog 33 #[.pointer (some ⟨lb, 0, none⟩), .int .i64 x] W fun e W' => e = .returned (.tuple #[.agg #[.string ((v2[(x - 1).toNat]?).getD LP.z2).1, .string ((v2[(x - 1).toNat]?).getD LP.z2).2], .bool true]) ∧ Two w W' la lb r1 v1 b v2 := by
  obtain ⟨F1, F2, h1, h2, hd, b1, b2, hB⟩ := h
  exact (LP.remove_lst (a := []) (b := b) h2 hl).mono fun e W' hP => ⟨hP.1, after2 F1 F2 h1 hP hd b1 b2 hB⟩
theorem get1 (x : Int) (hwx : (Lit.int .i64 x).wf = true) (h : Two w W la lb r1 v1 r2 v2) :
    Calls Try.prog 32 #[.pointer (some ⟨la, 0, none⟩), .int .i64 x] W fun e W' => e = .returned (.tuple #[.int .i64 (LI.getV r1 v1 x), .bool (decide (x ∈ r1))]) ∧ W = W' := by
  obtain ⟨F1, F2, h1, _⟩ := h
  exact LI.get_lst h1 hwx
theorem len1 (h : Two w W la lb r1 v1 r2 v2) (hl : r1.length < 100000) :
    Calls Try.prog 34 #[.pointer (some ⟨la, 0, none⟩)] W fun e W' => e = .returned (.int .i64 r1.length) ∧ W = W' := by
  obtain ⟨F1, F2, h1, _⟩ := h
  exact LI.len_lst h1 hl
theorem len2 (h : Two w W la lb r1 v1 r2 v2) (hl : r2.length < 100000) :
    Calls Try.prog 35 #[.pointer (some ⟨lb, 0, none⟩)] W fun e W' => e = .returned (.int .i64 r2.length) ∧ W = W' := by
  obtain ⟨F1, F2, h1, h2, _⟩ := h
  exact LP.len_lst h2 hl
theorem next2 (x : Int) (hwx : (Lit.int .i64 x).wf = true) (h : Two w W la lb r1 v1 r2 v2) :
    Calls Try.prog 36 #[.pointer (some ⟨lb, 0, none⟩), .int .i64 x] W fun e W' => e = .returned (.int .i64 (LP.nextR r2 x)) ∧ W = W' := by
  obtain ⟨F1, F2, h1, h2, _⟩ := h
  exact LP.next_lst h2 hwx
/-- Both made anew. -/
theorem made (W W' : World) (h1 : LI.Lst W la (fun b => w.heap.size ≤ b) [] []) (b1 : Below w.heap.size w W) (h2 : LP.Lst W' lb (fun b => W.heap.size ≤ b) [] []) (b2 : Below W.heap.size W W') : Two w W' la lb [] [] [] [] := by
  have s1 := b1.size
  have s2 := b2.size
  refine ⟨fun b => w.heap.size ≤ b ∧ b < W.heap.size, fun b => W.heap.size ≤ b ∧ b < W'.heap.size, h1.bound.below b2, h2.bound, fun b h1 h2 => by omega, fun b h => by omega, fun b h => by omega, b1.trans (b2.mono s1)⟩
end
end Go.Proofs.Ytnncomhgclffaaa.LT
