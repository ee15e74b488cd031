/- The walk of the law ListPlays. -/
import Derived.Test.YtnncomhgclffaaaLSt
import Derived.Test.YtnncomhgclffaaaLTurns
import Derived.Deep.RegionHeld3
import Derived.Deep.CutRange
namespace Go.Proofs.Ytnncomhgclffaaa.LS
open Go.RowKit Go.Proofs.YtnncomhgclffaaaW.PrintWords Go.Proofs.YtnncomhgclffaaaL Go.Proofs.YtnncomhgclffaaaL.Row Go.Proofs.Ytnncomhgclffaaa.LL

theorem st_set {w0 W : World} {lb xb : Nat} {xs : List Nat} {row row' : List Int} {vals vals' : List ByteArray} {v0 v1 : Value} (h : StE w0 lb xs W row vals v0 v1 row' vals') (hx : xb ∈ xs) (a b : Value) :
    StE w0 lb xs ((W.setCell ⟨xb, 0, none⟩ a).setCell ⟨xb, 1, none⟩ b) row vals v0 v1 row' vals' := (h.setx (p := ⟨xb, 0, none⟩) hx a).setx (p := ⟨xb, 1, none⟩) hx b
theorem box_set {W : World} {xb : Nat} {c d : Value} (h : W.heap[xb]? = some (.cells #[c, d] 72 (0, 0))) (a b : Value) : ((W.setCell ⟨xb, 0, none⟩ a).setCell ⟨xb, 1, none⟩ b).heap[xb]? = some (.cells #[a, b] 72 (0, 0)) :=
  blk_put (blk_put h 0 a rfl) 1 b rfl
theorem putR_len (row : List Int) (n h : Int) : (putR row n h).length ≤ row.length + 1 := by
  unfold putR
  split
  · simp; omega
  · omega
theorem befV_len (row : List Int) (vals : List ByteArray) (h : Int) (v : ByteArray) : (befV row vals h v).length ≤ vals.length + 1 := by
  unfold befV
  split
  · simp
  · omega

/-- The state of the second loop: both lists, and the box of the document's. -/
abbrev Held2 (w : World) (lb xb : Nat) (row : List Int) (vals : List ByteArray) (s0 s1 : Value) (W : World) : Prop :=
  StE w lb [xb] W row vals s0 s1 row vals ∧ W.cell? ⟨xb, 0, none⟩ = some s0 ∧ W.cell? ⟨xb, 1, none⟩ = some s1
section
variable {w W W' : World} {lb xb : Nat} {row : List Int} {vals : List ByteArray} {s0 s1 : Value}
theorem Held2.same (h : Held2 w lb xb row vals s0 s1 W) (hS : StE w lb [xb] W' row vals s0 s1 row vals) (hM : Same [xb] W W') : Held2 w lb xb row vals s0 s1 W' :=
  ⟨hS, (World.cell?_of_block (a := ⟨xb, 0, none⟩) (hM xb (by simp))).trans h.2.1, (World.cell?_of_block (a := ⟨xb, 1, none⟩) (hM xb (by simp))).trans h.2.2⟩
theorem Held2.keep (h : Held2 w lb xb row vals s0 s1 W) (hb : Below W.heap.size W W') : Held2 w lb xb row vals s0 s1 W' :=
  h.same (h.1.step hb.size (fun b hl _ => hb.block b hl) (h.1.below.trans (hb.mono h.1.below.size))) (fun b hm => hb.block b (h.1.lt hm))
end

/-- What the loop over the calls keeps. -/
def Plays (w : World) (lb xb k : Nat) (W : World) : Prop :=
  ∃ row vals A0 c0 A1 c1, StE w lb [xb] W row vals (.slice A0 row.length c0) (.slice A1 vals.length c1) row vals ∧ W.heap[xb]? = some (.cells #[.slice A0 row.length c0, .slice A1 vals.length c1] 72 (0, 0)) ∧ vals.length ≤ k ∧ row.length ≤ k

set_option maxHeartbeats 8000000 in
set_option maxRecDepth 100000 in
theorem plays_walk (A : Option Addr) (len cap : Nat) (xs : List (Int × Int × ByteArray)) (w : World) (hr : ReadsRow opR 3 w A len xs) :
    Calls Try.prog 9 #[.slice A len cap] w fun e w' => e = .returned (.bool true) ∧ Below w.heap.size w w' := by
  have HR := Aside0.mk hr
  have hlen : len ≤ 9223372036854775807 := hr.2.1
  clear hr
  by_cases hbig : 60 < len
  · go_enter Try.func9, Try.ntmps9
    go_wp2_with (first | (go_at_call 42; refine (new_lst _).mono ?_; rintro e w1 ⟨rfl, h1, b1⟩; replace b1 := Aside0.mk b1; clear h1) | (go_at_call 27; refine (awake_walk _).mono ?_; rintro e w2 ⟨rfl, b2⟩; replace b2 := Aside0.mk b2))
    go_ret
    exact ⟨rfl, b1.out.trans (b2.out.mono b1.out.size)⟩
  · go_enter Try.func9, Try.ntmps9
    go_wp2_with (go_at_call 42; refine (new_lst _).mono ?_; rintro e w1 ⟨rfl, h1, b1⟩; replace h1 := Aside0.mk h1; replace b1 := Aside0.mk b1)
    have hStart : Aside0 (Plays w (w.heap.size + 2) w1.heap.size 0 (w1.alloc (.cells #[.slice none 0 0, .slice none 0 0] 72))) := by
      have hs := b1.out.size
      have h0 : StE w (w.heap.size + 2) [] w1 [] [] (.slice none 0 0) (.slice none 0 0) [] [] :=
        ⟨fun b => w.heap.size ≤ b ∧ b < w1.heap.size, fun _ => False, h1.out.bound, ⟨Kd.R_nil _ _ _ _ _, Kd.R_nil _ _ _ _ _⟩, fun _ _ h => h, fun b hb => ⟨hb.1, by simp, hb.2⟩, fun _ h => h.elim, fun b hb => by simp at hb, b1.out⟩
      exact ⟨⟨[], [], none, 0, none, 0, h0.box _, (by show (w1.heap.push _)[w1.heap.size]? = _; simp), Nat.le_refl _, Nat.le_refl _⟩⟩
    generalize hxb : w1.heap.size = xb at hStart ⊢
    replace hxb := Aside0.mk hxb
    go_loopw [35] (fun i wr => ∃ k : Nat, i = .int .i64 k ∧ k ≤ len ∧ Plays w (w.heap.size + 2) xb k wr) (fun i _ => len - (intOf i).toNat)
    case atStart => exact ⟨0, rfl, Nat.zero_le _, hStart.out⟩
    case round =>
      obtain ⟨k, rfl, hk, row, vals, A0, c0, A1, c1, hS, hX, hv, hrw⟩ := hrel
      by_cases hlt : k < len
      · obtain ⟨b, off, kd, h, v, rfl, hbl, hwh, q0, q1, q2⟩ := op_cells HR.out hlt
        have hBel := hS.below
        have f0 : wr.cell? ⟨b, off + k * 3, none⟩ = some (.int .i64 kd) := (hBel.cell (p := ⟨b, off + k * 3, none⟩) hbl).trans q0
        have f1 : wr.cell? ⟨b, off + k * 3 + 1, none⟩ = some (.int .i64 h) := (hBel.cell (p := ⟨b, off + k * 3 + 1, none⟩) hbl).trans q1
        have f2 : wr.cell? ⟨b, off + k * 3 + 2, none⟩ = some (.string v) := (hBel.cell (p := ⟨b, off + k * 3 + 2, none⟩) hbl).trans q2
        clear q0 q1 q2 hBel
        have hxl : xb < wr.heap.size := hS.lt (by simp)
        have hS1 := Aside0.mk (hS.box (.cells #[.int .i64 kd, .int .i64 h, .string v] 74))
        have hX1 := Aside0.mk (blk_alloc hX (.cells #[.int .i64 kd, .int .i64 h, .string v] 74))
        have hO1 : Aside0 ((wr.alloc (.cells #[.int .i64 kd, .int .i64 h, .string v] 74)).heap[wr.heap.size]? = some (.cells #[.int .i64 kd, .int .i64 h, .string v] 74 (0, 0))) := ⟨by show (wr.heap.push _)[wr.heap.size]? = _; simp⟩
        clear hS hX
        go_upto_region 8 with fail
        generalize wr.alloc (.cells #[.int .i64 kd, .int .i64 h, .string v] 74) = W1 at hS1 hX1 hO1 ⊢
        clear f0 f1 f2
        generalize wr.heap.size = q at hS1 hO1 hxl ⊢
        have p0 : W1.cell? ⟨q, 0, none⟩ = some (.int .i64 kd) := (blk_cell hO1.out 0).trans rfl
        have p1 : W1.cell? ⟨q, 1, none⟩ = some (.int .i64 h) := (blk_cell hO1.out 1).trans rfl
        have p2 : W1.cell? ⟨q, 2, none⟩ = some (.string v) := (blk_cell hO1.out 2).trans rfl
        have x0 : W1.cell? ⟨xb, 0, none⟩ = some (.slice A0 row.length c0) := (blk_cell hX1.out 0).trans rfl
        have x1 : W1.cell? ⟨xb, 1, none⟩ = some (.slice A1 vals.length c1) := (blk_cell hX1.out 1).trans rfl
        have hne : q ≠ xb := by omega
        have hne' : xb ≠ q := by omega
        by_cases k1 : kd = 1
        · subst k1
          obtain ⟨row2, hrow2⟩ : ∃ r, r = row ++ [(vals.length : Int) + 1] := ⟨_, rfl⟩
          obtain ⟨vals2, hvals2⟩ : ∃ r, r = vals ++ [v] := ⟨_, rfl⟩
          have L1 : row2.length ≤ k + 1 := by rw [hrow2]; simp; omega
          have L2 : vals2.length ≤ k + 1 := by rw [hvals2]; simp; omega
          replace hrow2 := Aside0.mk hrow2
          replace hvals2 := Aside0.mk hvals2
          go_wp2_with (first | (go_at_call 43; refine (rpush_st v hS1.out (by omega) (by omega)).mono ?_; rintro e W2 ⟨B0, d0, B1, d1, rfl, hS2, hM2⟩; rw [← hrow2.out, ← hvals2.out] at hS2 ⊢; clear p0 p1 p2 x0 x1; have hO2 := (hM2 q (by simp)).trans hO1.out; have hX2 := (hM2 xb (by simp)).trans hX1.out; have p0 : W2.cell? ⟨q, 0, none⟩ = some (.int .i64 1) := (blk_cell hO2 0).trans rfl; have p1 : W2.cell? ⟨q, 1, none⟩ = some (.int .i64 h) := (blk_cell hO2 1).trans rfl; have p2 : W2.cell? ⟨q, 2, none⟩ = some (.string v) := (blk_cell hO2 2).trans rfl; have x0 : W2.cell? ⟨xb, 0, none⟩ = some (.slice A0 row.length c0) := (blk_cell hX2 0).trans rfl; have x1 : W2.cell? ⟨xb, 1, none⟩ = some (.slice A1 vals.length c1) := (blk_cell hX2 1).trans rfl; have hXa := blk_alloc hX2 (.cells #[.slice B0 row2.length d0, .slice B1 vals2.length d1] 72); have hOa := blk_alloc hO2 (.cells #[.slice B0 row2.length d0, .slice B1 vals2.length d1] 72); have pa1 : (W2.alloc (.cells #[.slice B0 row2.length d0, .slice B1 vals2.length d1] 72)).cell? ⟨q, 1, none⟩ = some (.int .i64 h) := (blk_cell hOa 1).trans rfl; have pa2 : (W2.alloc (.cells #[.slice B0 row2.length d0, .slice B1 vals2.length d1] 72)).cell? ⟨q, 2, none⟩ = some (.string v) := (blk_cell hOa 2).trans rfl; have xa0 : (W2.alloc (.cells #[.slice B0 row2.length d0, .slice B1 vals2.length d1] 72)).cell? ⟨xb, 0, none⟩ = some (.slice A0 row.length c0) := (blk_cell hXa 0).trans rfl; have xa1 : (W2.alloc (.cells #[.slice B0 row2.length d0, .slice B1 vals2.length d1] 72)).cell? ⟨xb, 1, none⟩ = some (.slice A1 vals.length c1) := (blk_cell hXa 1).trans rfl; have za0 := blk_frozen hXa 0; have za1 := blk_frozen hXa 1; have hS3 := Aside0.mk (st_set (xb := xb) (hS2.alloc (.cells #[.slice B0 row2.length d0, .slice B1 vals2.length d1] 72)) (by simp) (.slice B0 row2.length d0) (.slice B1 vals2.length d1)); have hX3 := Aside0.mk (box_set hXa (.slice B0 row2.length d0) (.slice B1 vals2.length d1)); clear hS2 hO2 hX2 hXa hOa hM2) | (go_at_call 44; refine (push_st v hS3.out (by omega)).mono ?_; rintro e W5 ⟨rfl, hS5, hM5⟩; rw [← hrow2.out, ← hvals2.out] at hS5; have hX5 := Aside0.mk ((hM5 xb (by simp)).trans hX3.out); replace hS5 := Aside0.mk hS5; clear hM5))
          go_roundw
          case rel => exact ⟨k + 1, by go_num, by omega, row2, vals2, B0, d0, B1, d1, hS5.out.fewer (by simp), hX5.out, L2, L1⟩
          case measure => simp [intOf]; omega
        · by_cases k2 : kd = 2
          · subst k2
            obtain ⟨row2, hrow2⟩ : ∃ r, r = putR row ((vals.length : Int) + 1) h := ⟨_, rfl⟩
            obtain ⟨vals2, hvals2⟩ : ∃ r, r = befV row vals h v := ⟨_, rfl⟩
            have L1 : row2.length ≤ k + 1 := by rw [hrow2]; have := putR_len row ((vals.length : Int) + 1) h; omega
            have L2 : vals2.length ≤ k + 1 := by rw [hvals2]; have := befV_len row vals h v; omega
            replace hrow2 := Aside0.mk hrow2
            replace hvals2 := Aside0.mk hvals2
            go_wp2_with (first | (go_at_call 45; refine (rbefore_st h v hS1.out (by omega) (by omega)).mono ?_; rintro e W2 ⟨B0, d0, B1, d1, rfl, hS2, hM2⟩; rw [← hrow2.out, ← hvals2.out] at hS2 ⊢; clear p0 p1 p2 x0 x1; have hO2 := (hM2 q (by simp)).trans hO1.out; have hX2 := (hM2 xb (by simp)).trans hX1.out; have p0 : W2.cell? ⟨q, 0, none⟩ = some (.int .i64 2) := (blk_cell hO2 0).trans rfl; have p1 : W2.cell? ⟨q, 1, none⟩ = some (.int .i64 h) := (blk_cell hO2 1).trans rfl; have p2 : W2.cell? ⟨q, 2, none⟩ = some (.string v) := (blk_cell hO2 2).trans rfl; have x0 : W2.cell? ⟨xb, 0, none⟩ = some (.slice A0 row.length c0) := (blk_cell hX2 0).trans rfl; have x1 : W2.cell? ⟨xb, 1, none⟩ = some (.slice A1 vals.length c1) := (blk_cell hX2 1).trans rfl; have hXa := blk_alloc hX2 (.cells #[.slice B0 row2.length d0, .slice B1 vals2.length d1] 72); have hOa := blk_alloc hO2 (.cells #[.slice B0 row2.length d0, .slice B1 vals2.length d1] 72); have pa1 : (W2.alloc (.cells #[.slice B0 row2.length d0, .slice B1 vals2.length d1] 72)).cell? ⟨q, 1, none⟩ = some (.int .i64 h) := (blk_cell hOa 1).trans rfl; have pa2 : (W2.alloc (.cells #[.slice B0 row2.length d0, .slice B1 vals2.length d1] 72)).cell? ⟨q, 2, none⟩ = some (.string v) := (blk_cell hOa 2).trans rfl; have xa0 : (W2.alloc (.cells #[.slice B0 row2.length d0, .slice B1 vals2.length d1] 72)).cell? ⟨xb, 0, none⟩ = some (.slice A0 row.length c0) := (blk_cell hXa 0).trans rfl; have xa1 : (W2.alloc (.cells #[.slice B0 row2.length d0, .slice B1 vals2.length d1] 72)).cell? ⟨xb, 1, none⟩ = some (.slice A1 vals.length c1) := (blk_cell hXa 1).trans rfl; have za0 := blk_frozen hXa 0; have za1 := blk_frozen hXa 1; have hS3 := Aside0.mk (st_set (xb := xb) (hS2.alloc (.cells #[.slice B0 row2.length d0, .slice B1 vals2.length d1] 72)) (by simp) (.slice B0 row2.length d0) (.slice B1 vals2.length d1)); have hX3 := Aside0.mk (box_set hXa (.slice B0 row2.length d0) (.slice B1 vals2.length d1)); clear hS2 hO2 hX2 hXa hOa hM2) | (go_at_call 46; refine (before_st h v hwh hS3.out (by omega)).mono ?_; rintro e W5 ⟨rfl, hS5, hM5⟩; rw [← hrow2.out, ← hvals2.out] at hS5; have hX5 := Aside0.mk ((hM5 xb (by simp)).trans hX3.out); replace hS5 := Aside0.mk hS5; clear hM5))
            go_roundw
            case rel => exact ⟨k + 1, by go_num, by omega, row2, vals2, B0, d0, B1, d1, hS5.out.fewer (by simp), hX5.out, L2, L1⟩
            case measure => simp [intOf]; omega
          · by_cases k3 : kd = 3
            · subst k3
              obtain ⟨row2, hrow2⟩ : ∃ r, r = row.filter (fun y => decide (y ≠ h)) := ⟨_, rfl⟩
              have L1 : row2.length ≤ k + 1 := by rw [hrow2]; have := List.length_filter_le (fun y => decide (y ≠ h)) row; omega
              replace hrow2 := Aside0.mk hrow2
              have hfa := Aside0.mk hS1.out.facts.2
              go_wp2_with (first | (go_at_call 47; refine (rget_st h hS1.out (by omega) (by omega) hfa.out).mono ?_; rintro e W2 ⟨rfl, hS2, hM2⟩; clear p0 p1 p2 x0 x1; have hO2 := (hM2 q (by simp)).trans hO1.out; have hX2 := (hM2 xb (by simp)).trans hX1.out; have p0 : W2.cell? ⟨q, 0, none⟩ = some (.int .i64 3) := (blk_cell hO2 0).trans rfl; have p1 : W2.cell? ⟨q, 1, none⟩ = some (.int .i64 h) := (blk_cell hO2 1).trans rfl; have p2 : W2.cell? ⟨q, 2, none⟩ = some (.string v) := (blk_cell hO2 2).trans rfl; have x0 : W2.cell? ⟨xb, 0, none⟩ = some (.slice A0 row.length c0) := (blk_cell hX2 0).trans rfl; have x1 : W2.cell? ⟨xb, 1, none⟩ = some (.slice A1 vals.length c1) := (blk_cell hX2 1).trans rfl; replace hS2 := Aside0.mk hS2; replace hO2 := Aside0.mk hO2; replace hX2 := Aside0.mk hX2; clear hM2) | (go_at_call 48; refine (rremove_st h hS2.out (by omega)).mono ?_; rintro e W3 ⟨B0, d0, B1, d1, rfl, hS3, hM3⟩; rw [← hrow2.out] at hS3 ⊢; clear p0 p1 p2 x0 x1; have hO3 := (hM3 q (by simp)).trans hO2.out; have hX3 := (hM3 xb (by simp)).trans hX2.out; have p1 : W3.cell? ⟨q, 1, none⟩ = some (.int .i64 h) := (blk_cell hO3 1).trans rfl; have x0 : W3.cell? ⟨xb, 0, none⟩ = some (.slice A0 row.length c0) := (blk_cell hX3 0).trans rfl; have x1 : W3.cell? ⟨xb, 1, none⟩ = some (.slice A1 vals.length c1) := (blk_cell hX3 1).trans rfl; have z0 := blk_frozen hX3 0; have z1 := blk_frozen hX3 1; have hS4 := Aside0.mk (st_set (xb := xb) hS3 (by simp) (.slice B0 row2.length d0) (.slice B1 vals.length d1)); have hX4 := Aside0.mk (box_set hX3 (.slice B0 row2.length d0) (.slice B1 vals.length d1)); clear hS3 hO3 hX3 hM3) | (go_at_call 49; refine (remove_st h hwh hS4.out (by omega)).mono ?_; rintro e W5 ⟨rfl, hS5, hM5⟩; rw [← hrow2.out] at hS5; have hX5 := Aside0.mk ((hM5 xb (by simp)).trans hX4.out); replace hS5 := Aside0.mk hS5; clear hM5))
              go_roundw
              case rel => exact ⟨k + 1, by go_num, by omega, row2, vals, B0, d0, B1, d1, hS5.out.fewer (by simp), hX5.out, by omega, L1⟩
              case measure => simp [intOf]; omega
            · have e1 : (kd == 1) = false := beq_eq_false_iff_ne.2 k1
              have e2 : (kd == 2) = false := beq_eq_false_iff_ne.2 k2
              have e3 : (kd == 3) = false := beq_eq_false_iff_ne.2 k3
              go_wp2_with fail
              go_roundw
              case rel => exact ⟨k + 1, by go_num, by omega, row, vals, A0, c0, A1, c1, hS1.out.fewer (by simp), hX1.out, by omega, by omega⟩
              case measure => simp [intOf]; omega
      · have x0 : wr.cell? ⟨xb, 0, none⟩ = some (.slice A0 row.length c0) := (blk_cell hX 0).trans rfl
        have x1 : wr.cell? ⟨xb, 1, none⟩ = some (.slice A1 vals.length c1) := (blk_cell hX 1).trans rfl
        replace hX := Aside0.mk hX
        replace hS := Aside0.mk hS
        have hfa := Aside0.mk hS.out.facts
        obtain ⟨n, hn⟩ : ∃ n, vals.length = n := ⟨_, rfl⟩
        obtain ⟨m, hm⟩ : ∃ m, row.length = m := ⟨_, rfl⟩
        have hn60 : n ≤ 60 := by omega
        have hm60 : m ≤ 60 := by omega
        have hT0 := Aside0.mk (show Held2 w (w.heap.size + 2) xb row vals _ _ wr from ⟨hS.out, x0, x1⟩)
        clear hS hX x0 x1 hv hrw
        rw [hn, hm] at hT0
        replace hn := Aside0.mk hn
        replace hm := Aside0.mk hm
        go_wp2_with fail
        go_loopw [15] (fun i W => ∃ j : Nat, i = .int .i64 ((j : Int) - 1) ∧ j ≤ n + 3 ∧ Held2 w (w.heap.size + 2) xb row vals (.slice A0 m c0) (.slice A1 n c1) W) (fun i _ => n + 3 - ((intOf i) + 1).toNat)
        case atStart => exact ⟨0, rfl, Nat.zero_le _, hT0.out⟩
        case round =>
          obtain ⟨j, rfl, hj, hT⟩ := hrel
          obtain ⟨h, hh⟩ : ∃ h : Int, (j : Int) - 1 = h := ⟨_, rfl⟩
          rw [hh]
          have hwh : (Lit.int .i64 h).wf = true := wf_small (by omega) (by omega)
          replace hwh := Aside0.mk hwh
          have hlr : row.length < 100000 := by rw [hm.out]; omega
          have hlv : vals.length < 100000 := by rw [hn.out]; omega
          replace hlr := Aside0.mk hlr
          replace hlv := Aside0.mk hlv
          have x0 := hT.2.1
          have x1 := hT.2.2
          have hne := Aside0.mk (next_eq row vals h (by rw [hm.out]; omega))
          have hpe := Aside0.mk (prev_eq row vals h (by rw [hm.out]; omega))
          by_cases hlt : j < n + 3
          · replace hT := Aside0.mk hT
            obtain ⟨g, hg⟩ : ∃ g, getV row vals h = g := ⟨_, rfl⟩
            obtain ⟨o, ho⟩ : ∃ o, decide (h ∈ row) = o := ⟨_, rfl⟩
            obtain ⟨rn, hrn⟩ : ∃ r, nextR row h = r := ⟨_, rfl⟩
            obtain ⟨rp, hrp⟩ : ∃ r, prevR row h = r := ⟨_, rfl⟩
            rw [hrn] at hne
            rw [hrp] at hpe
            replace hg := Aside0.mk hg
            replace ho := Aside0.mk ho
            replace hrn := Aside0.mk hrn
            replace hrp := Aside0.mk hrp
            go_upto_region 31 with (first | (go_at_call 50; refine (get_st h hwh.out hT.out.1).mono ?_; rintro e w2 ⟨rfl, rfl⟩; rw [hg.out, ho.out]) | (go_at_call 47; refine (rget_st h hT.out.1 hlr.out hlv.out hfa.out.2).mono ?_; rintro e W2 ⟨rfl, hS2, hM2⟩; rw [hg.out, ho.out]; have hT2 := Aside0.mk (hT.out.same hS2 hM2); clear hS2 hM2; have y0 := hT2.out.2.1; have y1 := hT2.out.2.2))
            have hT3 : Held2 w (w.heap.size + 2) xb row vals (.slice A0 m c0) (.slice A1 n c1) W2.drew := ⟨hT2.out.1.drew, hT2.out.2⟩
            clear hT2 hT x0 x1 y0 y1
            go_region_held3 (fun W => StE w (w.heap.size + 2) [xb] W row vals (.slice A0 m c0) (.slice A1 n c1) row vals ∧ W.cell? ⟨xb, 0, none⟩ = some (.slice A0 m c0) ∧ W.cell? ⟨xb, 1, none⟩ = some (.slice A1 n c1)) (assumption) (first | (go_at_call 51; refine (next_st h hwh.out (And.left (by assumption : Held2 w (w.heap.size + 2) xb row vals (.slice A0 m c0) (.slice A1 n c1) _))).mono ?_; rintro e w9 ⟨rfl, rfl⟩; rw [hrn.out]) | (go_at_call 53; refine (prev_st h hwh.out (And.left (by assumption : Held2 w (w.heap.size + 2) xb row vals (.slice A0 m c0) (.slice A1 n c1) _))).mono ?_; rintro e w9 ⟨rfl, rfl⟩; rw [hrp.out]) | (go_at_call 52; (with_reducible show Calls Try.prog 52 #[_, _, .int .i64 1] _ _); refine (rnext_st h 1 rn (And.left (by assumption : Held2 w (w.heap.size + 2) xb row vals (.slice A0 m c0) (.slice A1 n c1) _)) hne.out).mono ?_; rintro e w9 ⟨rfl, hS9, hM9⟩; have hT9 := Held2.same (by assumption : Held2 w (w.heap.size + 2) xb row vals (.slice A0 m c0) (.slice A1 n c1) _) hS9 hM9; clear hS9 hM9) | (go_at_call 52; (with_reducible show Calls Try.prog 52 #[_, _, .int .i64 (-1)] _ _); refine (rnext_st h (-1) rp (And.left (by assumption : Held2 w (w.heap.size + 2) xb row vals (.slice A0 m c0) (.slice A1 n c1) _)) hpe.out).mono ?_; rintro e w9 ⟨rfl, hS9, hM9⟩; have hT9 := Held2.same (by assumption : Held2 w (w.heap.size + 2) xb row vals (.slice A0 m c0) (.slice A1 n c1) _) hS9 hM9; clear hS9 hM9))
            have hTf := Aside0.mk (‹Held2 w (w.heap.size + 2) xb row vals (.slice A0 m c0) (.slice A1 n c1) _›)
            go_wp2_with fail
            go_roundw
            case rel => exact ⟨j + 1, by go_num, by omega, hTf.out⟩
            case measure => simp [intOf]; omega
          · have hT2 := Aside0.mk hT
            clear hT
            go_upto_region 33 with fail
            have hT3 : Held2 w (w.heap.size + 2) xb row vals (.slice A0 m c0) (.slice A1 n c1) wr.drew := ⟨hT2.out.1.drew, hT2.out.2⟩
            clear hT2 x0 x1
            go_region_held3 (fun W => StE w (w.heap.size + 2) [xb] W row vals (.slice A0 m c0) (.slice A1 n c1) row vals ∧ W.cell? ⟨xb, 0, none⟩ = some (.slice A0 m c0) ∧ W.cell? ⟨xb, 1, none⟩ = some (.slice A1 n c1)) (assumption) (first | (go_at_call 54; refine (len_st (And.left (by assumption : Held2 w (w.heap.size + 2) xb row vals (.slice A0 m c0) (.slice A1 n c1) _)) hlr.out).mono ?_; rintro e w9 ⟨rfl, rfl⟩; rw [hm.out]) | (go_at_call 27; refine (awake_walk _).mono ?_; rintro e w9 ⟨rfl, hb9⟩; have hT9 := Held2.keep (by assumption : Held2 w (w.heap.size + 2) xb row vals (.slice A0 m c0) (.slice A1 n c1) _) hb9; clear hb9))
            have hTf := (‹Held2 w (w.heap.size + 2) xb row vals (.slice A0 m c0) (.slice A1 n c1) _›).1.below
            go_wp2_with fail
            go_ret
            exact ⟨by simp, hTf⟩
end Go.Proofs.Ytnncomhgclffaaa.LS
