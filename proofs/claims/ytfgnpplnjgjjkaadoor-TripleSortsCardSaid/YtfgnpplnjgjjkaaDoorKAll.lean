/- The walk of layer 7: the eight keys of a triple. -/
import Derived.Test.YtfgnpplnjgjjkaaDoorKRight
namespace Go.Proofs.YtfgnpplnjgjjkaaDoor.K
open Go.RowKit Go.Proofs.YtfgnpplnjgjjkaaDoorW.PrintWords

attribute [local go_sem high] ix0 ix1 ix2
def tv (t0 t1 t2 : Int) (i : Nat) : Int := if i = 0 then t0 else if i = 1 then t1 else t2
/-- The p-th cell of the eight keys, when m of the twenty-four have been looked at. -/
def kc (t0 t1 t2 : Int) (m p : Nat) : Value := .int .i64 (if p < m ∧ (p / 3) / 2 ^ (p % 3) % 2 = 1 then tv t0 t1 t2 (p % 3) else 0)
def kcs (t0 t1 t2 : Int) (m : Nat) : Array Value := ((List.range 24).map (kc t0 t1 t2 m)).toArray
theorem kcs_get (t0 t1 t2 : Int) (m p : Nat) (hp : p < 24) : (kcs t0 t1 t2 m)[p]? = some (kc t0 t1 t2 m p) := by simp [kcs, hp]
theorem kcs_put (t0 t1 t2 : Int) (m : Nat) (hb : (m / 3) / 2 ^ (m % 3) % 2 = 1) : (kcs t0 t1 t2 m).setIfInBounds m (.int .i64 (tv t0 t1 t2 (m % 3))) = kcs t0 t1 t2 (m + 1) := by
  apply Array.ext_getElem?
  intro p
  rw [Array.getElem?_setIfInBounds]
  by_cases h : p < 24
  · rw [kcs_get _ _ _ _ _ h, kcs_get _ _ _ _ _ h]
    by_cases e : m = p
    · subst e
      rw [if_pos rfl, if_pos (by simp [kcs]; exact h)]
      simp [kc, hb]
    · rw [if_neg e]
      have : (p < m) ↔ (p < m + 1) := by omega
      simp only [kc, this]
  · rw [Array.getElem?_eq_none (by simp [kcs]; omega), Array.getElem?_eq_none (by simp [kcs]; omega)]
    split <;> simp [kcs]; omega
theorem kcs_skip (t0 t1 t2 : Int) (m : Nat) (hb : ¬ (m / 3) / 2 ^ (m % 3) % 2 = 1) : kcs t0 t1 t2 m = kcs t0 t1 t2 (m + 1) := by
  unfold kcs
  congr 1
  apply List.map_congr_left
  intro p _
  unfold kc
  by_cases e : p = m
  · subst e; simp [hb]
  · have : (p < m) ↔ (p < m + 1) := by omega
    simp only [this]

theorem make8 (W : World) : (Instr.makeSlice 27 (.int .i64 8) (.int .i64 8)).run Tryd.prog W = .ok (.slice (some ⟨W.heap.size, 0, none⟩) 8 8) (W.alloc (.cells (Array.replicate 24 (.int .i64 0)) 23)) := by kernel_rfl
attribute [local go_sem high] make8
theorem and1 (x : Int) (h : 0 ≤ x ∧ x < 8) : bits BinOp.and IntKind.i64 x 1 = x % 2 := by
  have : ∀ n : Fin 8, bits BinOp.and IntKind.i64 (n.val : Int) 1 = (n.val : Int) % 2 := by decide +kernel
  have h1 := this ⟨x.toNat, by omega⟩
  simp only at h1
  rwa [Int.toNat_of_nonneg h.1] at h1
def AllInv (w : World) (qb g : Nat) (t0 t1 t2 : Int) (m : Nat) (wr : World) : Prop :=
  wr.heap[qb]? = some (.cells #[.int .i64 t0, .int .i64 t1, .int .i64 t2] 23 (0, 0)) ∧ wr.heap[g]? = some (.cells (kcs t0 t1 t2 m) 23 (0, 0)) ∧ Below w.heap.size w wr

theorem AllInv.put {w wr : World} {qb : Nat} {t0 t1 t2 v : Int} {n j : Nat} (h : AllInv w qb (qb + 1) t0 t1 t2 (3 * n + j) wr) (hn : n < 8) (hj : j < 3) (hv : tv t0 t1 t2 j = v) (hq : w.heap.size ≤ qb + 1) (hb : n / 2 ^ j % 2 = 1) :
    (∃ z, wr.cell? ⟨qb + 1, n * 3 + j, none⟩ = some z) ∧ wr.frozen? ⟨qb + 1, n * 3 + j, none⟩ = false ∧ AllInv w qb (qb + 1) t0 t1 t2 (3 * n + j + 1) (wr.setCell ⟨qb + 1, n * 3 + j, none⟩ (.int .i64 v)) := by
  subst hv
  obtain ⟨h1, h2, h3⟩ := h
  have e : n * 3 + j = 3 * n + j := by omega
  have e1 : (3 * n + j) / 3 = n := by omega
  have e2 : (3 * n + j) % 3 = j := by omega
  refine ⟨⟨_, (blk_cell h2 _).trans (kcs_get _ _ _ _ _ (by omega))⟩, blk_frozen h2 _, ?_, ?_, h3.setCell hq _⟩
  · exact blk_far h1 (by simp) _
  · refine blk_put h2 (n * 3 + j) _ ?_
    rw [e]
    have := kcs_put t0 t1 t2 (3 * n + j) (by rw [e1, e2]; exact hb)
    rw [e2] at this
    exact this
theorem AllInv.skip {w wr : World} {qb : Nat} {t0 t1 t2 : Int} {n j : Nat} (h : AllInv w qb (qb + 1) t0 t1 t2 (3 * n + j) wr) (hj : j < 3) (hb : ¬ n / 2 ^ j % 2 = 1) : AllInv w qb (qb + 1) t0 t1 t2 (3 * n + j + 1) wr := by
  have e1 : (3 * n + j) / 3 = n := by omega
  have e2 : (3 * n + j) % 3 = j := by omega
  unfold AllInv at h ⊢
  rw [kcs_skip t0 t1 t2 (3 * n + j) (by rw [e1, e2]; exact hb)] at h
  exact h

set_option maxHeartbeats 4000000 in
set_option maxRecDepth 100000 in
theorem all_walk (t0 t1 t2 : Int) (w : World) : Calls Tryd.prog 17 #[.agg #[.int .i64 t0, .int .i64 t1, .int .i64 t2]] w fun e w' => ∃ g, e = .returned (.slice (some ⟨g, 0, none⟩) 8 8) ∧ w'.heap[g]? = some (.cells (kcs t0 t1 t2 24) 23 (0, 0)) ∧ Below w.heap.size w w' := by
  go_enter Tryd.func17, Tryd.ntmps17
  go_upto_region 2 with fail
  have hA : (w.alloc (.cells #[.int .i64 t0, .int .i64 t1, .int .i64 t2] 23)).heap.size = w.heap.size + 1 := World.size_alloc _ _
  have hG := Aside0.mk (show ((w.alloc (.cells #[.int .i64 t0, .int .i64 t1, .int .i64 t2] 23)).alloc (.cells (Array.replicate 24 (.int .i64 0)) 23)).heap[w.heap.size + 1]? = some (.cells (kcs t0 t1 t2 0) 23 (0, 0)) from by
    have := blk_new (w.alloc (.cells #[.int .i64 t0, .int .i64 t1, .int .i64 t2] 23)) (.cells (Array.replicate 24 (.int .i64 0)) 23)
    rw [hA] at this
    exact this)
  have hQ := Aside0.mk (blk_alloc (blk_new w (.cells #[.int .i64 t0, .int .i64 t1, .int .i64 t2] 23)) (.cells (Array.replicate 24 (.int .i64 0)) 23))
  have hB := Aside0.mk (((Below.refl w.heap.size w).alloc (Nat.le_refl _) (.cells #[.int .i64 t0, .int .i64 t1, .int .i64 t2] 23)).alloc (by omega) (.cells (Array.replicate 24 (.int .i64 0)) 23))
  obtain ⟨qb, hqb⟩ : ∃ q, q = w.heap.size := ⟨_, rfl⟩
  have hI := Aside0.mk (show AllInv w qb (qb + 1) t0 t1 t2 (3 * 0) _ from ⟨hqb ▸ hQ.out, hqb ▸ hG.out, hB.out⟩)
  rw [← hqb]
  replace hqb := Aside0.mk hqb
  clear hA hG hQ hB
  go_wp2_with fail
  go_loopw [8] (fun i wr => ∃ n : Nat, i = .int .i64 n ∧ n ≤ 8 ∧ AllInv w qb (qb + 1) t0 t1 t2 (3 * n) wr) (fun i _ => 8 - (intOf i).toNat)
  case atStart => exact ⟨0, rfl, by omega, hI.out⟩
  case round =>
    obtain ⟨n, rfl, hn, hW⟩ := hrel
    by_cases hlt : n < 8
    · have x0 : wr.cell? ⟨qb, 0, none⟩ = some (.int .i64 t0) := (blk_cell hW.1 0).trans rfl
      have x1 : wr.cell? ⟨qb, 1, none⟩ = some (.int .i64 t1) := (blk_cell hW.1 1).trans rfl
      have x2 : wr.cell? ⟨qb, 2, none⟩ = some (.int .i64 t2) := (blk_cell hW.1 2).trans rfl
      replace hW := Aside0.mk hW
      clear hI
      go_wp2_with fail
      clear x0 x1 x2
      go_loopw [12] (fun i wq => (i = .int .i64 0 ∧ AllInv w qb (qb + 1) t0 t1 t2 (3 * n) wq) ∨ (i = .int .i64 1 ∧ AllInv w qb (qb + 1) t0 t1 t2 (3 * n + 1) wq) ∨ (i = .int .i64 2 ∧ AllInv w qb (qb + 1) t0 t1 t2 (3 * n + 2) wq) ∨ (i = .int .i64 3 ∧ AllInv w qb (qb + 1) t0 t1 t2 (3 * n + 3) wq)) (fun i _ => 3 - (intOf i).toNat)
      case atStart => exact .inl ⟨rfl, hW.out⟩
      case round =>
        clear hW
        rcases hrel with ⟨rfl, hW⟩ | ⟨rfl, hW⟩ | ⟨rfl, hW⟩ | ⟨rfl, hW⟩
        · by_cases hb : (n) % 2 = 1
          · have hand : bits BinOp.and IntKind.i64 ((n : Int)) 1 = 1 := by rw [and1 _ ⟨by omega, by omega⟩]; omega
            obtain ⟨⟨z, y0⟩, y1, hx2⟩ := AllInv.put (j := 0) (v := t0) hW (by omega) (by omega) rfl (by have := hqb.out; omega) (by simp; omega)
            simp only [Nat.add_zero] at y0 y1 hx2
            replace hx2 := Aside0.mk hx2
            replace hb := Aside0.mk hb
            replace hW := Aside0.mk hW
            go_wp2_with fail
            go_roundw
            case rel => exact .inr (.inl ⟨rfl, hx2.out⟩)
            case measure => simp [intOf]
          · have hand : bits BinOp.and IntKind.i64 ((n : Int)) 1 = 0 := by rw [and1 _ ⟨by omega, by omega⟩]; omega
            have hx2 := Aside0.mk (AllInv.skip (j := 0) hW (by omega) (by simp; omega))
            replace hb := Aside0.mk hb
            replace hW := Aside0.mk hW
            go_wp2_with fail
            go_roundw
            case rel => exact .inr (.inl ⟨rfl, hx2.out⟩)
            case measure => simp [intOf]
        · by_cases hb : (n / 2) % 2 = 1
          · have hand : bits BinOp.and IntKind.i64 ((n : Int) / 2) 1 = 1 := by rw [and1 _ ⟨by omega, by omega⟩]; omega
            obtain ⟨⟨z, y0⟩, y1, hx2⟩ := AllInv.put (j := 1) (v := t1) hW (by omega) (by omega) rfl (by have := hqb.out; omega) (by simp; omega)
            replace hx2 := Aside0.mk hx2
            replace hb := Aside0.mk hb
            replace hW := Aside0.mk hW
            go_wp2_with fail
            go_roundw
            case rel => exact .inr (.inr (.inl ⟨rfl, hx2.out⟩))
            case measure => simp [intOf]
          · have hand : bits BinOp.and IntKind.i64 ((n : Int) / 2) 1 = 0 := by rw [and1 _ ⟨by omega, by omega⟩]; omega
            have hx2 := Aside0.mk (AllInv.skip (j := 1) hW (by omega) (by simp; omega))
            replace hb := Aside0.mk hb
            replace hW := Aside0.mk hW
            go_wp2_with fail
            go_roundw
            case rel => exact .inr (.inr (.inl ⟨rfl, hx2.out⟩))
            case measure => simp [intOf]
        · by_cases hb : (n / 4) % 2 = 1
          · have hand : bits BinOp.and IntKind.i64 ((n : Int) / 4) 1 = 1 := by rw [and1 _ ⟨by omega, by omega⟩]; omega
            obtain ⟨⟨z, y0⟩, y1, hx2⟩ := AllInv.put (j := 2) (v := t2) hW (by omega) (by omega) rfl (by have := hqb.out; omega) (by simp; omega)
            replace hx2 := Aside0.mk hx2
            replace hb := Aside0.mk hb
            replace hW := Aside0.mk hW
            go_wp2_with fail
            go_roundw
            case rel => exact .inr (.inr (.inr ⟨rfl, hx2.out⟩))
            case measure => simp [intOf]
          · have hand : bits BinOp.and IntKind.i64 ((n : Int) / 4) 1 = 0 := by rw [and1 _ ⟨by omega, by omega⟩]; omega
            have hx2 := Aside0.mk (AllInv.skip (j := 2) hW (by omega) (by simp; omega))
            replace hb := Aside0.mk hb
            replace hW := Aside0.mk hW
            go_wp2_with fail
            go_roundw
            case rel => exact .inr (.inr (.inr ⟨rfl, hx2.out⟩))
            case measure => simp [intOf]
        · replace hW := Aside0.mk hW
          go_wp2_with fail
          go_roundw
          case rel => exact ⟨n + 1, by go_num, by omega, hW.out⟩
          case measure => simp [intOf]; omega
    · obtain rfl : n = 8 := by omega
      clear hI
      replace hW := Aside0.mk hW
      go_wp2_with fail
      go_ret
      exact ⟨_, rfl, hW.out.2.1, hW.out.2.2⟩
end Go.Proofs.YtfgnpplnjgjjkaaDoor.K
