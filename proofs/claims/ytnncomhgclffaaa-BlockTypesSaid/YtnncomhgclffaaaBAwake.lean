/- 'awake' of the statements of the blocks; a call of the statements' lists. -/
import Derived.Test.YtnncomhgclffaaaBSt
import Derived.Outline
import Derived.OwnWalk
import Derived.LoopTactic
import Derived.Deep.LoopGhost
import Derived.Deep.CutRange
import Derived.Deep.RegionHeld3
namespace Go.Proofs.Ytnncomhgclffaaa.BI
open Go.RowKit Go.Shelf Go.Proofs.YtnncomhgclffaaaW.PrintWords Go.Proofs.YtnncomhgclffaaaL Go.Proofs.Ytnncomhgclffaaa.LL Go.Proofs.Ytnncomhgclffaaa.LS

theorem Did.base {w0 w W : World} {bb N B : Nat} {ks : List ByteArray} {vs : ByteArray → List Int} {r : Value} {e : Ending} (h : Did w bb (fun b => B ≤ b) r ks vs N e W) (hB : B ≤ w.heap.size) (hb : Below B w0 w) :
    e = .returned r ∧ Blk W bb (fun b => B ≤ b) ks vs N ∧ Below B w0 W :=
  ⟨h.1, h.2.1.mono (fun b x _ => by rcases x with x | x <;> omega), h.2.2.below hb hB (fun _ x => x)⟩

def ka : ByteArray := ⟨#[97]⟩
theorem ka_size : ka.size ≤ maxLen := by decide

set_option maxHeartbeats 1000000 in
set_option maxRecDepth 100000 in
theorem awake_walk (w : World) : Calls Try.prog 64 #[] w fun e w' => e = .returned (.bool true) ∧ Below w.heap.size w w' := by
  go_enter Try.func64, Try.ntmps64
  go_wp2_with (go_at_call 70; refine (new_did _).mono ?_; rintro e w1 ⟨bb, rfl, h1, b1⟩; replace h1 := Aside0.mk h1; replace b1 := Aside0.mk b1)
  refine (open_did h1.out ka ka_size (by decide)).mono ?_
  intro e w2 hd
  obtain ⟨rfl, h2, b2⟩ := hd.base (w0 := w) b1.out.size b1.out
  rw [show openK [] ka = [ka] from if_neg (by simp)] at h2
  replace h2 := Aside0.mk h2
  replace b2 := Aside0.mk b2
  clear hd h1
  simp only [show decide (ka ∉ ([] : List ByteArray)) = true by simp]
  go_wp2_with fail
  refine (block_did h2.out ka 1 ka_size (by decide) (by decide)).mono ?_
  intro e w3 hd
  obtain ⟨rfl, h3, b3⟩ := hd.base (w0 := w) b2.out.size b2.out
  rw [show blkV [ka] (fun _ => []) ka 1 = upd (fun _ => []) ka [1] from if_pos (by simp)] at h3
  replace h3 := Aside0.mk h3
  replace b3 := Aside0.mk b3
  clear hd h2 b2
  simp only [show decide ((ka ∈ [ka] ∧ (1 : Int) ∉ ([] : List Int)) ∧ ([] : List Int).length = 0) = true by simp, show decide (ka ∈ [ka] ∧ (1 : Int) ∉ ([] : List Int)) = true by simp]
  go_wp2_with fail
  refine (block_did h3.out ka 2 ka_size (by decide) (by decide)).mono ?_
  intro e w4 hd
  obtain ⟨rfl, h4, b4⟩ := hd.base (w0 := w) b3.out.size b3.out
  rw [show blkV [ka] (upd (fun _ => []) ka [1]) ka 2 = upd (upd (fun _ => []) ka [1]) ka [1, 2] by unfold blkV; rw [upd_same]; exact if_pos (by simp)] at h4
  replace h4 := Aside0.mk h4
  replace b4 := Aside0.mk b4
  clear hd h3 b3
  simp only [upd_same, show decide ((ka ∈ [ka] ∧ (2 : Int) ∉ ([1] : List Int)) ∧ ([1] : List Int).length = 0) = false by simp, show decide (ka ∈ [ka] ∧ (2 : Int) ∉ ([1] : List Int)) = true by simp]
  go_wp2_with fail
  refine (free_did h4.out ka 1 ka_size (by decide) (by decide)).mono ?_
  intro e w5 hd
  obtain ⟨rfl, h5, b5⟩ := hd.base (w0 := w) b4.out.size b4.out
  rw [show freeV (upd (upd (fun _ => []) ka [1]) ka [1, 2]) ka 1 = upd (upd (upd (fun _ => []) ka [1]) ka [1, 2]) ka [2] by unfold freeV; rw [upd_same]; exact if_pos (by simp)] at h5
  replace h5 := Aside0.mk h5
  replace b5 := Aside0.mk b5
  clear hd h4 b4
  simp only [upd_same, show decide ((1 : Int) ∈ ([1, 2] : List Int) ∧ ([1, 2] : List Int).length = 1) = false by decide, show decide ((1 : Int) ∈ ([1, 2] : List Int)) = true by decide]
  go_wp2_with fail
  refine (free_did h5.out ka 2 ka_size (by decide) (by decide)).mono ?_
  intro e w6 hd
  obtain ⟨rfl, h6, b6⟩ := hd.base (w0 := w) b5.out.size b5.out
  replace b6 := Aside0.mk b6
  clear hd h5 b5 h6
  simp only [upd_same, show decide ((2 : Int) ∈ ([2] : List Int) ∧ ([2] : List Int).length = 1) = true by decide, show decide ((2 : Int) ∈ ([2] : List Int)) = true by decide]
  go_wp2_with fail
  go_ret
  exact ⟨rfl, b6.out⟩

/-- A call of the statements, as it lies in memory. -/
def opB (x : Int × ByteArray × Int) (cs : List Value) : Prop := cs = [.int .i64 x.1, .string x.2.1, .int .i64 x.2.2] ∧ x.2.1.size ≤ maxLen ∧ (Lit.int .i64 x.2.2).wf = true
theorem opB_cells {w : World} {A : Option Addr} {len : Nat} {xs : List (Int × ByteArray × Int)} (hr : ReadsRow opB 3 w A len xs) {k : Nat} (hk : k < len) :
    ∃ (b off : Nat) (kd : Int) (s : ByteArray) (v : Int), A = some ⟨b, off, none⟩ ∧ b < w.heap.size ∧ s.size ≤ maxLen ∧ (Lit.int .i64 v).wf = true ∧ w.cell? ⟨b, off + k * 3, none⟩ = some (.int .i64 kd) ∧ w.cell? ⟨b, off + k * 3 + 1, none⟩ = some (.string s) ∧ w.cell? ⟨b, off + k * 3 + 2, none⟩ = some (.int .i64 v) := by
  obtain ⟨hl, _, hread⟩ := hr
  obtain ⟨ad, rfl, hc⟩ := hread (by omega)
  obtain ⟨c0, _, ⟨rfl, _⟩, h0⟩ := hc 0 xs[0] (List.getElem?_eq_getElem (by omega))
  obtain ⟨c, _, ⟨rfl, hs', hw⟩, h⟩ := hc k xs[k] (List.getElem?_eq_getElem (by omega))
  have hs : ad.spot = none := by
    have := h0 0 _ rfl
    simp only [Nat.zero_mul, Nat.add_zero, Addr.add, if_true, World.cell?] at this
    split at this
    · split at this
      · cases this
      · rename_i hn
        simpa using hn
    · cases this
  obtain ⟨b, off, sp⟩ := ad
  dsimp only at hs
  subst hs
  have ha : ∀ n, (⟨b, off, none⟩ : Addr).add n = ⟨b, off + n, none⟩ := fun n => by
    unfold Addr.add
    split
    · rename_i e; subst e; rfl
    · rfl
  have e0 := h 0 _ rfl
  have e1 := h 1 _ rfl
  have e2 := h 2 _ rfl
  rw [ha] at e0 e1 e2
  exact ⟨b, off, _, _, _, rfl, World.block_lt_of_cell? w _ e0, hs', hw, e0, e1, e2⟩
end Go.Proofs.Ytnncomhgclffaaa.BI
