/- The first order and the next one: walked. -/
import Derived.Test.YtnncomhgclffaaaOPlain
import Derived.Test.YtnncomhgclffaaaOReg
import Derived.Test.YtnncomhgclffaaaOIter
import Derived.Test.YtnncomhgclffaaaPOrderAllx0
namespace Go.Proofs.Ytnncomhgclffaaa.O
open Go.RowKit Go.Shelf Go.Proofs.YtnncomhgclffaaaW.PrintWords Go.Proofs.Ytnncomhgclffaaa.POrderAll

def Cs (l : List Int) : Array Value := (l.map (Value.int .i64)).toArray
/-- A row of its own. -/
def Lin (W : World) (b : Nat) (l : List Int) : Prop := W.heap[b]? = some (.cells (Cs l) 3 (0, 0))
theorem Lin.lt {W : World} {b : Nat} {l : List Int} (h : Lin W b l) : b < W.heap.size := (Array.getElem?_eq_some_iff.1 h).1
theorem Lin.at {W : World} {b : Nat} {l : List Int} (h : Lin W b l) {j : Nat} (hj : j < l.length) : W.cell? ⟨b, j, none⟩ = some (.int .i64 (l.getD j 0)) := by
  rw [blk_cell h j]
  simp [Cs, hj]
theorem Lin.free {W : World} {b : Nat} {l : List Int} (h : Lin W b l) (j : Nat) : W.frozen? ⟨b, j, none⟩ = false := blk_frozen h j
theorem Lin.set {W : World} {b : Nat} {l : List Int} (h : Lin W b l) (j : Nat) (x : Int) : Lin (W.setCell ⟨b, j, none⟩ (.int .i64 x)) b (l.set j x) := by
  have := blk_set h j (.int .i64 x)
  unfold Lin
  rw [this]
  simp [Cs, List.map_set]

theorem make_run (n : Nat) (h : n ≤ 6) (w : World) : (Instr.makeSlice 40 (.int .i64 n) (.int .i64 n)).run Try.prog w = .ok (.slice (some ⟨w.heap.size, 0, none⟩) n n) (w.alloc (.cells (Cs (List.replicate n 0)) 3)) := by
  obtain ⟨i0, hi, hz0, hz1, hz2⟩ := info_parts info3
  have e := run_make (P := Try.prog) w 40 3 i0 (.int .i64 0) Try.underlying40 hi hz0 .i64 .i64 n n (by omega) (by omega) (by rw [hz2]; omega) (by omega)
  rw [e, hz1]
  have : madeCells (Value.int .i64 0).cells (n * 1) = Cs (List.replicate n 0) := by
    obtain rfl | rfl | rfl | rfl | rfl | rfl | rfl : n = 0 ∨ n = 1 ∨ n = 2 ∨ n = 3 ∨ n = 4 ∨ n = 5 ∨ n = 6 := by omega
    all_goals kernel_rfl
  simp only [Int.toNat_natCast]
  rw [this]

def fill (n k : Nat) : List Int := (List.range n).map fun (j : Nat) => if j < k then (j : Int) else 0
theorem fill_0 (n : Nat) : fill n 0 = List.replicate n 0 := by simp [fill, List.map_const']
theorem fill_n (n : Nat) : fill n n = firstL n := by
  unfold fill firstL
  apply List.map_congr_left
  intro j hj
  rw [if_pos (List.mem_range.1 hj)]
theorem fill_len (n k : Nat) : (fill n k).length = n := by simp [fill]
theorem fill_set (n k : Nat) : (fill n k).set k k = fill n (k + 1) := by
  apply List.ext_getElem?
  intro j
  rw [List.getElem?_set]
  simp only [fill, List.getElem?_map, List.length_map, List.length_range]
  by_cases hj : j < n
  · rw [List.getElem?_range hj]
    by_cases e : k = j
    · subst e; simp [hj]
    · rw [if_neg e]
      simp only [Option.map_some]
      have : j < k ↔ j < k + 1 := by omega
      simp [this]
  · have : (List.range n)[j]? = none := by simp; omega
    rw [this]
    simp
    omega

set_option maxHeartbeats 1000000 in
set_option maxRecDepth 100000 in
theorem first_walk (n : Nat) (hn : n ≤ 6) (w : World) : Calls Try.prog 98 #[.int .i64 n] w fun e w' => e = .returned (.slice (some ⟨w.heap.size, 0, none⟩) n n) ∧ Lin w' w.heap.size (firstL n) ∧ Below w.heap.size w w' ∧ w'.heap.size = w.heap.size + 1 := by
  have hmk := make_run n hn w
  have h1 : Aside0 (Lin (w.alloc (.cells (Cs (List.replicate n 0)) 3)) w.heap.size (fill n 0)) := ⟨by rw [fill_0]; exact World.alloc_heap_new w _⟩
  have h2 : Aside0 (Below w.heap.size w (w.alloc (.cells (Cs (List.replicate n 0)) 3))) := ⟨(Below.refl _ w).alloc (Nat.le_refl _) _⟩
  have h3 : Aside0 ((w.alloc (.cells (Cs (List.replicate n 0)) 3)).heap.size = w.heap.size + 1) := ⟨by simp⟩
  go_enter Try.func98, Try.ntmps98
  go_wp2
  go_loopg [9] n (fun kq v9 wr => ∃ k : Nat, v9 = .int .i64 k ∧ k ≤ n ∧ kq = n - k ∧ Aside0 (Lin wr w.heap.size (fill n k)) ∧ Aside0 (Below w.heap.size w wr) ∧ Aside0 (wr.heap.size = w.heap.size + 1))
  case atStart => exact ⟨0, rfl, by omega, by omega, h1, h2, h3⟩
  case round =>
    clear hmk h1 h2 h3
    obtain ⟨k, rfl, hk, rfl, h1, h2, h3⟩ := hrel
    by_cases hlt : k < n
    · have c1 := h1.out.at (j := k) (by rw [fill_len]; omega)
      have c2 := h1.out.free k
      have h1' : Aside0 (Lin (wr.setCell ⟨w.heap.size, k, none⟩ (.int .i64 k)) w.heap.size (fill n (k + 1))) := ⟨by rw [← fill_set]; exact h1.out.set k k⟩
      have h2' : Aside0 (Below w.heap.size w (wr.setCell ⟨w.heap.size, k, none⟩ (.int .i64 k))) := ⟨h2.out.setCell (Nat.le_refl _) _⟩
      have h3' : Aside0 ((wr.setCell ⟨w.heap.size, k, none⟩ (.int .i64 k)).heap.size = w.heap.size + 1) := ⟨by simpa using h3.out⟩
      go_wp2
      go_roundg (n - (k + 1))
      case measure => omega
      case rel => exact ⟨k + 1, by simp, by omega, rfl, h1', h2', h3'⟩
    · obtain rfl : k = n := by omega
      go_wp2
      go_ret
      exact ⟨rfl, by rw [← fill_n]; exact h1.out, h2.out, h3.out⟩
end Go.Proofs.Ytnncomhgclffaaa.O
