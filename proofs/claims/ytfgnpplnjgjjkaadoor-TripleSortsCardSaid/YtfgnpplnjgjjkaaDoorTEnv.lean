/- The library's contracts as layers 2 and 7 use them, and what they ask of a world. -/
import Derived.Test.YtfgnpplnjgjjkaaDoorShelf
import Derived.Test.YtfgnpplnjgjjkaaDoorTPlain
import Derived.Test.YtfgnpplnjgjjkaaDoorTRight
import Derived.Lib.AppendIntMem
import Derived.Lib.AtoiErrMem
namespace Go.Proofs.YtfgnpplnjgjjkaaDoor.T
open Go.RowKit Go.Lib Go.Proofs.YtfgnpplnjgjjkaaDoorW.PrintWords

/-- The library's variables that are read lie as their text lays them. -/
structure Env (w : World) : Prop where
  tab : TabIs Tryd.prog w "internal/strconv.uint64pow10" .u64 pow10Tab
  syn : ∃ tp p, w.var? Tryd.prog "strconv.ErrSyntax" = some #[.iface tp p]
  rng : ∃ tp p, w.var? Tryd.prog "strconv.ErrRange" = some #[.iface tp p]
  maxl : ∃ m, w.cell? ⟨3, 0, none⟩ = some (.int .i64 m)

theorem var_below {w w' : World} (hb : Below w.heap.size w w') {name : String} {cs : Array Value} (h : w.var? Tryd.prog name = some cs) : w'.var? Tryd.prog name = some cs := by
  unfold World.var? at *
  cases hg : Tryd.prog.globalNamed name with
  | none => simp [hg] at h
  | some g =>
    simp only [hg, Option.bind_some] at h ⊢
    have hlt : g < w.heap.size := by
      rcases Nat.lt_or_ge g w.heap.size with h' | h'
      · exact h'
      · rw [Array.getElem?_eq_none h'] at h; simp at h
    rw [hb.block g hlt]
    exact h
theorem Env.below {w w' : World} (h : Env w) (hb : Below w.heap.size w w') : Env w' := by
  obtain ⟨a, ⟨t1, p1, b⟩, ⟨t2, p2, c⟩, ⟨m, d⟩⟩ := h
  exact ⟨var_below hb a, ⟨t1, p1, var_below hb b⟩, ⟨t2, p2, var_below hb c⟩, ⟨m, (hb.cell (World.block_lt_of_cell? w _ d)).trans d⟩⟩
theorem Env.drew {w : World} (h : Env w) : Env w.drew := h.below (Below.refl _ _).drew
theorem Env.of {w0 w : World} (h : Env w0) {B : Nat} (hb : Below B w0 w) (hB : w0.heap.size ≤ B) : Env w := h.below (hb.mono hB)

/-- A string out of bytes. -/
abbrev str (l : List UInt8) : ByteArray := ⟨l.toArray⟩
theorem str_toList (s : ByteArray) : str s.data.toList = s := by cases s; simp [str]
theorem str_size (l : List UInt8) : (str l).size = l.length := by simp [ByteArray.size]
theorem str_inj {a b : List UInt8} (h : str a = str b) : a = b := by
  have := congrArg (fun s : ByteArray => s.data.toList) h
  simpa [str] using this

theorem itoa_any (n : Int) (h0 : 0 ≤ n) (h1 : n ≤ 4096) (w : World) (hE : Env w) :
    Calls Tryd.prog 40 #[.int .i64 n] w fun e w' => e = .returned (.string (str (decDigits n.toNat))) ∧ Below w.heap.size w w' := by
  refine (Tryd.strconv_Itoa n (by omega) (by omega) w hE.tab).mono ?_
  rintro e w' ⟨rfl, k, os, rfl⟩
  rw [itoa_dd h0]
  exact ⟨rfl, below_grow _ _ (Nat.le_refl _) _ _⟩

theorem atoi_ok (s : ByteArray) (hs : s.size ≤ 100) (v : Int) (h : atoiAll s.data.toList = .ok v) (w : World) :
    Calls Tryd.prog 42 #[.string s] w fun e w' => e = .returned (.tuple #[.int .i64 v, .nilIface]) ∧ Below w.heap.size w w' := by
  refine (Tryd.strconv_Atoi_ok s (by omega) v h w).mono ?_
  rintro e w' ⟨rfl, rfl | ⟨t, rfl⟩⟩
  · exact ⟨rfl, Below.refl _ _⟩
  · exact ⟨rfl, bytesWorld_below _ _ _⟩

def AtoiBad (w : World) (e : Ending) (w' : World) : Prop := ∃ (m : Int) (N : Nat), e = .returned (.tuple #[.int .i64 m, .iface 85 (.pointer (some ⟨N, 0, none⟩))]) ∧ Below w.heap.size w w'
theorem atoi_bad (s : ByteArray) (hs : s.size ≤ 100) (h : ∀ v, atoiAll s.data.toList ≠ .ok v) (w : World) (hE : Env w) : Calls Tryd.prog 42 #[.string s] w (AtoiBad w) := by
  cases hc : atoiAll s.data.toList with
  | ok v => exact absurd hc (h v)
  | «syntax» =>
    obtain ⟨tp, p, hv⟩ := hE.syn
    refine (Tryd.strconv_Atoi_syntax_var s (by omega) hc tp p w hv).mono ?_
    rintro e w' ⟨N, rfl, _, _, hb⟩
    exact ⟨_, N, rfl, hb⟩
  | range =>
    obtain ⟨tp, p, hv⟩ := hE.rng
    refine (Tryd.strconv_Atoi_range_var s (by omega) hc tp p w hv).mono ?_
    rintro e w' ⟨N, rfl, _, _, hb⟩
    exact ⟨_, N, rfl, hb⟩

/-- The words of a string, as strings. -/
def pieces (s : ByteArray) : List ByteArray := (words s.data.toList).map str
theorem pieces_eq (s : ByteArray) : splitB (str [32]) 0 (countB s (str [32])) s = pieces s := by
  unfold pieces
  rw [← split_words]
  have := splitB_data (str [32]) 0 (countB s (str [32])) s
  unfold split
  rw [show count s.data.toList [32] = countB s (str [32]) from rfl, show ([32] : List UInt8) = (str [32]).data.toList from rfl, ← this, List.map_map]
  conv => lhs; rw [← List.map_id (splitB (str [32]) 0 (countB s (str [32])) s)]
  refine List.map_congr_left fun x _ => ?_
  exact (str_toList x).symm
theorem pieces_len (s : ByteArray) : countB s (str [32]) + 1 = (pieces s).length := by
  rw [← pieces_eq, splitB_all (str [32]) (by decide) 0 _ s rfl]

def SplitPost (s : ByteArray) (w : World) (e : Ending) (w' : World) : Prop :=
  e = .returned (.slice (some ⟨w.heap.size, 0, none⟩) (pieces s).length (pieces s).length) ∧ w' = w.alloc (.cells ((pieces s).map Value.string).toArray 9)
theorem split_any (s : ByteArray) (hs : s.size ≤ 100) (w : World) (hE : Env w) :
    Calls Tryd.prog 41 #[.string s, .string ⟨#[32]⟩] w (SplitPost s w) := by
  obtain ⟨m, hm⟩ := hE.maxl
  refine (Tryd.strings_Split s (str [32]) m w (by omega) hm (by decide)).mono ?_
  rintro e w' ⟨rfl, rfl⟩
  rw [pieces_eq, pieces_len]
  exact ⟨rfl, rfl⟩
end Go.Proofs.YtfgnpplnjgjjkaaDoor.T
