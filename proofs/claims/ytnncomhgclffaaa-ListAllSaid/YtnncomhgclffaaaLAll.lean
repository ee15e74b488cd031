/- The walk of the law ListAll. -/
import Derived.Test.YtnncomhgclffaaaLAllPlain
import Derived.Test.YtnncomhgclffaaaLAwake09
import Derived.Deep.CutBlock
import Derived.Deep.RegionHeld3
import Derived.Sort.CutIn
import Derived.Outline
namespace Go.Proofs.Ytnncomhgclffaaa.LA
open Go.RowKit Go.Shelf Go.Proofs.YtnncomhgclffaaaW.PrintWords Go.Proofs.YtnncomhgclffaaaL Go.Proofs.YtnncomhgclffaaaL.Row Go.Proofs.Ytnncomhgclffaaa.LL Go.Proofs.Ytnncomhgclffaaa.LI

attribute [local go_sem] Oper.semAt_some

/-- The variables of the law, and the list. -/
def Base (w : World) (st g k b3 b5 bk bl lb mb : Nat) (row vals : List Int) (W : World) : Prop :=
  Boxed W (w.heap.size + 1) 4 (.bool false) ∧ Boxed W b3 5 (.int .u8 st) ∧ Boxed W b5 5 (.int .u8 g) ∧ Boxed W bk 3 (.int .i64 k) ∧ Boxed W bl 42 (.pointer (some ⟨lb, 0, none⟩)) ∧ LM W (bk + 1) lb mb row vals ∧ Below w.heap.size w W ∧ w.heap.size ≤ bk

section
variable {w W W' : World} {st g k b3 b5 bk bl lb mb : Nat} {row vals row' vals' : List Int}
theorem Base.lm (h : Base w st g k b3 b5 bk bl lb mb row vals W) : LM W (bk + 1) lb mb row vals := h.2.2.2.2.2.1
theorem Base.bel (h : Base w st g k b3 b5 bk bl lb mb row vals W) : Below w.heap.size w W := h.2.2.2.2.2.2.1
/-- A call that turned the list. -/
theorem Base.ch (h : Base w st g k b3 b5 bk bl lb mb row vals W) (hc : Ch W W' (Mine W (bk + 1) mb)) (hl : LM W' (bk + 1) lb mb row' vals') : Base w st g k b3 b5 bk bl lb mb row' vals' W' := by
  obtain ⟨h1, h2, h3, h4, h5, h6, h7, h8⟩ := h
  have keep : ∀ {b : Nat} {t : TypeId} {v : Value}, Boxed W b t v → t ≠ 132 → t ≠ 135 → Boxed W' b t v := fun hb a c => (hc.block _ hb.lt (h6.not_mine hb a c)).trans hb
  exact ⟨keep h1 (by decide) (by decide), keep h2 (by decide) (by decide), keep h3 (by decide) (by decide), keep h4 (by decide) (by decide), keep h5 (by decide) (by decide), hl, hc.below h7 h7.size (fun b hb => by have := hb.1; omega), h8⟩
theorem Base.grow (h : Base w st g k b3 b5 bk bl lb mb row vals W) (hb : Below W.heap.size W W') : Base w st g k b3 b5 bk bl lb mb row vals W' := by
  obtain ⟨h1, h2, h3, h4, h5, h6, h7, h8⟩ := h
  have keep : ∀ {b : Nat} {t : TypeId} {v : Value}, Boxed W b t v → Boxed W' b t v := fun hx => (hb.block _ hx.lt).trans hx
  exact ⟨keep h1, keep h2, keep h3, keep h4, keep h5, h6.below hb, h7.trans (hb.mono h7.size), h8⟩

theorem all_fn (lb : Nat) (w : World) : Calls Try.prog 55 #[.pointer (some ⟨lb, 0, none⟩)] w fun e w' => e = .returned (.func (.func 96) #[] #[.pointer (some ⟨w.heap.size, 0, none⟩)]) ∧ w' = w.alloc (.cells #[.pointer (some ⟨lb, 0, none⟩)] 42) := by
  go_enter Try.func55, Try.ntmps55
  go_wp2
  go_ret
  exact ⟨rfl, rfl⟩
end

/-- One step of the iterator or of the loop's records leaves the variables alone. -/
theorem Base.step {w W W' : World} {st g k b3 b5 bk bl lb mb B : Nat} {row vals : List Int} {r : Option Nat} (h : Base w st g k b3 b5 bk bl lb mb row vals W) (hg : W.grownBy W' r) (hr : ∀ j, r = some j → B ≤ j ∧ ∃ o : Obj, W.heap[j]? = some o ∧ o.isCells = false) (hmb : mb < B) (hw : w.heap.size ≤ B) : Base w st g k b3 b5 bk bl lb mb row vals W' := by
  obtain ⟨h1, h2, h3, h4, h5, h6, h7, h8⟩ := h
  have keep : ∀ {b : Nat} {t : TypeId} {v : Value}, Boxed W b t v → Boxed W' b t v := fun {b t v} hx => hx.kept hg (fun e => by
    obtain ⟨_, o, ho, hc⟩ := hr b e.symm
    rw [show W.heap[b]? = _ from hx] at ho; cases ho; cases hc)
  refine ⟨keep h1, keep h2, keep h3, keep h4, keep h5, h6.move (fun b hb hl => hg.block b hl (fun e => ?_)), h7.grown hg h7.size (fun j e => Nat.le_trans hw (hr j e).1), h8⟩
  obtain ⟨hB, o, ho, hc⟩ := hr b e.symm
  rcases hb.2 with rfl | ⟨cs, t, e2, _⟩
  · omega
  · rw [e2] at ho; cases ho; cases hc

/-- The handle that is awaited. -/
def want (k t : Nat) (g : Int) (pre : List (Int × Int)) : Int := if pre = [] then 1 else pend (rowF k t g) pre
theorem want_eq {k t : Nat} {g : Int} {pre : List (Int × Int)} (h : pend (rowF k t g) pre ≠ 0) : want k t g pre = pend (rowF k t g) pre := by
  unfold want
  split
  · rename_i e
    subst e
    have hr : rowF k t g [] = base k := if_pos (Nat.zero_le _)
    unfold pend at h ⊢
    rw [hr] at h ⊢
    cases k with
    | zero => exact absurd rfl h
    | succ k => simp [nextR, lastH, base, List.range_succ_eq_map]
  · rfl

/-- What holds ahead of each round. -/
def Inv (w : World) (st g k t b3 b5 bk bl lb mb N : Nat) (pre : List (Int × Int)) (W : World) : Prop :=
  Base w st g k b3 b5 bk bl lb mb (rowF k t (1 + (g : Int) % 31) pre) (valsF k t pre) W ∧ Boxed W N 42 (.pointer (some ⟨lb, 0, none⟩)) ∧ Boxed W (N + 1) 3 (.int .i64 (pre.length : Nat)) ∧ Boxed W (N + 1 + 1) 3 (.int .i64 t) ∧ Boxed W (N + 1 + 1 + 1) 3 (.int .i64 (want k t (1 + (g : Int) % 31) pre)) ∧ (pre.length : Int) ≤ lastH pre ∧ lastH pre ≤ k + 1

theorem inv_own {w : World} {st g k t b3 b5 bk bl lb mb N B : Nat} (hmb : mb < B) (hw : w.heap.size ≤ B) : OwnFrom B (Inv w st g k t b3 b5 bk bl lb mb N) := fun pre W W' r h hg hr => by
  obtain ⟨h1, h2, h3, h4, h5, h6, h7⟩ := h
  have keep : ∀ {b : Nat} {t : TypeId} {v : Value}, Boxed W b t v → Boxed W' b t v := fun {b t v} hx => hx.kept hg (fun e => by
    obtain ⟨_, o, ho, hc⟩ := hr b e.symm
    rw [show W.heap[b]? = _ from hx] at ho; cases ho; cases hc)
  exact ⟨h1.step hg hr hmb hw, keep h2, keep h3, keep h4, keep h5, h6, h7⟩
theorem inv_at {w W : World} {st g k t b3 b5 bk bl lb mb N : Nat} {pre : List (Int × Int)} (hk : k ≤ 30) (h : Inv w st g k t b3 b5 bk bl lb mb N pre W) : LoopAt (k + 1) N (bk + 1) lb mb (rowF k t (1 + (g : Int) % 31)) (valsF k t) pre W := by
  obtain ⟨h1, h2, h3, h4, h5, h6, h7⟩ := h
  have := vals_len (k := k) (t := t) (pre := pre)
  exact ⟨h1.lm, h2, by omega, pend_bound (by omega)⟩
/-- The law has been left by its 'true'. -/
def Gone (w : World) (c : Code) (_ : List (Int × Int)) (W : World) : Prop := c = .ret ∧ Boxed W (w.heap.size + 1) 4 (.bool true) ∧ Below w.heap.size w W
theorem gone_own {w : World} {B : Nat} (hw : w.heap.size ≤ B) (c : Code) : OwnFrom B (Gone w c) := fun pre W W' r h hg hr => by
  obtain ⟨h1, h2, h3⟩ := h
  exact ⟨h1, h2.kept hg (fun e => by
    obtain ⟨_, o, ho, hc⟩ := hr _ e.symm
    rw [show W.heap[w.heap.size + 1]? = _ from h2] at ho; cases ho; cases hc), h3.grown hg h3.size (fun j e => Nat.le_trans hw (hr j e).1)⟩

theorem Base.set {w W : World} {st g k b3 b5 bk bl lb mb c : Nat} {row vals : List Int} {v : Value} (h : Base w st g k b3 b5 bk bl lb mb row vals W) (hc : Boxed W c 3 v) (h1 : w.heap.size + 1 < c) (h2 : b3 < c) (h3 : b5 < c) (h4 : bk < c) (h5 : bl < c) (u : Value) : Base w st g k b3 b5 bk bl lb mb row vals (W.setCell ⟨c, 0, none⟩ u) := by
  obtain ⟨g1, g2, g3, g4, g5, g6, g7, g8⟩ := h
  exact ⟨g1.other (by omega) u, g2.other (by omega) u, g3.other (by omega) u, g4.other (by omega) u, g5.other (by omega) u, g6.set hc (by decide) (by decide) 0 u, g7.setCell (by show w.heap.size ≤ c; omega) u, g8⟩

/-- Behind what a round may turn of the list. -/
def Mid (w : World) (st g k t b3 b5 bk bl lb mb N B : Nat) (pre : List (Int × Int)) (x : Int × Int) (W wx : World) : Prop :=
  Base w st g k b3 b5 bk bl lb mb (rowF k t (1 + (g : Int) % 31) (pre ++ [x])) (valsF k t (pre ++ [x])) wx ∧ Boxed wx N 42 (.pointer (some ⟨lb, 0, none⟩)) ∧ Boxed wx (N + 1) 3 (.int .i64 (pre.length : Nat)) ∧ Boxed wx (N + 1 + 1) 3 (.int .i64 t) ∧ (∃ v, Boxed wx (N + 1 + 1 + 1) 3 v) ∧ KeepsFrom B W wx

theorem Mid.of_inv {w W : World} {st g k t b3 b5 bk bl lb mb N B : Nat} {pre : List (Int × Int)} {x : Int × Int} (h : Inv w st g k t b3 b5 bk bl lb mb N pre W) (hn : pre.length ≠ t) : Mid w st g k t b3 b5 bk bl lb mb N B pre x W W := by
  obtain ⟨h1, h2, h3, h4, h5, _⟩ := h
  exact ⟨by rw [rowF_same hn, valsF_same hn]; exact h1, h2, h3, h4, ⟨_, h5⟩, KeepsFrom.refl _ _⟩
theorem Mid.of_ch {w W W' : World} {st g k t b3 b5 bk bl lb mb N B : Nat} {pre : List (Int × Int)} {x : Int × Int} (h : Inv w st g k t b3 b5 bk bl lb mb N pre W) (hc : Ch W W' (Mine W (bk + 1) mb)) (hl : LM W' (bk + 1) lb mb (rowF k t (1 + (g : Int) % 31) (pre ++ [x])) (valsF k t (pre ++ [x]))) (hmb : mb < B) : Mid w st g k t b3 b5 bk bl lb mb N B pre x W W' := by
  obtain ⟨h1, h2, h3, h4, h5, _⟩ := h
  have keep : ∀ {b : Nat} {t : TypeId} {v : Value}, Boxed W b t v → t ≠ 132 → t ≠ 135 → Boxed W' b t v := fun hb a c => (hc.block _ hb.lt (h1.lm.not_mine hb a c)).trans hb
  refine ⟨h1.ch hc hl, keep h2 (by decide) (by decide), keep h3 (by decide) (by decide), keep h4 (by decide) (by decide), ⟨_, keep h5 (by decide) (by decide)⟩, hc.size, fun i o hB hi ho => (hc.block i (Array.getElem?_eq_some_iff.1 hi).1 (fun hm => ?_)).trans hi⟩
  rcases hm.2 with rfl | ⟨cs, t', e, _⟩
  · omega
  · rw [e] at hi; cases hi; cases ho
theorem ch_then {W W1 W2 : World} {b0 mb : Nat} (h1 : Ch W W1 (Mine W b0 mb)) (h2 : Ch W1 W2 (Mine W1 b0 mb)) : Ch W W2 (Mine W b0 mb) := h1.then h2 fun _ hb hm => mine_back h1 hb hm
theorem rem_base {W : World} {b0 lb mb k : Nat} {g : Int} (h : LM W b0 lb mb (base k) (baseV k)) (hk : k ≤ 30) (hg : 1 ≤ g ∧ g ≤ 31) :
    Calls Try.prog 56 #[.pointer (some ⟨lb, 0, none⟩), .int .i64 g] W fun e W' => (∃ u, e = .returned u) ∧ LM W' b0 lb mb ((base k).filter (· ≠ g)) (baseV k) ∧ Ch W W' (Mine W b0 mb) := by
  by_cases hm : g ∈ base k
  · obtain ⟨a, b, e1, e2⟩ := filter_base hm
    rw [e2]
    rw [e1] at h
    exact rem_m h (by rw [baseV_len]; omega)
  · rw [filter_none hm]
    exact rem_m_none h hm (wf_small (by omega) (by omega))

theorem fn_nil (c : Array Value) (w : World) : (binOp BinOp.eql 89 (.func (.func 96) #[] c) .nilFunc).run Try.prog w = .ok (.bool false) w := by kernel_rfl
attribute [local go_sem] fn_nil

set_option maxHeartbeats 8000000 in
set_option maxRecDepth 100000 in
theorem all_walk (n st at_ g : Nat) (hn : n < 256) (hs : st < 256) (ha : at_ < 256) (hg : g < 256) (w : World) :
    Calls Try.prog 11 #[.agg #[.int .u8 n, .int .u8 st, .int .u8 at_, .int .u8 g]] w fun e w' => e = .returned (.bool true) ∧ Below w.heap.size w w' := by
  have hro : Fence.wide.round = none := rfl
  refine (callsIn_wide (n := 5)).1 (callsIn_of_wp_marks Try.func11 rfl trivial (wpIn_wide.2 ?_) hro)
  simp only [Try.ntmps11, List.size_toArray, List.length_cons, List.length_nil, Nat.reduceAdd, Nat.reduceSub, Array.replicate_succ, Array.replicate_zero, List.push_toArray, List.append_toArray, List.nil_append, List.cons_append]
  go_upto_region 1 with fail
  have hA : Aside0 (((w.alloc (.cells #[.int .u8 n, .int .u8 st, .int .u8 at_, .int .u8 g] 87)).alloc (.cells #[.bool false] 4)).heap[w.heap.size]? = some (.cells #[.int .u8 n, .int .u8 st, .int .u8 at_, .int .u8 g] 87 (0, 0))) := ⟨(Below.heap_alloc _ _ _ (by simp)).trans (blk_new _ _)⟩
  have hR : Aside0 (Boxed ((w.alloc (.cells #[.int .u8 n, .int .u8 st, .int .u8 at_, .int .u8 g] 87)).alloc (.cells #[.bool false] 4)) (w.heap.size + 1) 4 (.bool false)) := ⟨by
    have e := Boxed.new (w.alloc (.cells #[.int .u8 n, .int .u8 st, .int .u8 at_, .int .u8 g] 87)) 4 (.bool false)
    rwa [World.size_alloc] at e⟩
  have hB : Aside0 (Below w.heap.size w ((w.alloc (.cells #[.int .u8 n, .int .u8 st, .int .u8 at_, .int .u8 g] 87)).alloc (.cells #[.bool false] 4))) := ⟨((Below.refl _ w).alloc (Nat.le_refl _) _).alloc (by simp) _⟩
  have hS : ((w.alloc (.cells #[.int .u8 n, .int .u8 st, .int .u8 at_, .int .u8 g] 87)).alloc (.cells #[.bool false] 4)).heap.size = w.heap.size + 2 := by simp
  generalize (w.alloc (.cells #[.int .u8 n, .int .u8 st, .int .u8 at_, .int .u8 g] 87)).alloc (.cells #[.bool false] 4) = W at hA hR hB hS ⊢
  have a1 := (blk_cell hA.out 1).trans (show _ = some (Value.int .u8 st) from rfl)
  have a2 := (blk_cell hA.out 2).trans (show _ = some (Value.int .u8 at_) from rfl)
  have a3 := (blk_cell hA.out 3).trans (show _ = some (Value.int .u8 g) from rfl)
  go_cut [3, 4, 5] from 16 to 21 (fun a b c wx => b = .int .u8 at_ ∧ ∃ b3 b5, a = .pointer (some ⟨b3, 0, none⟩) ∧ c = .pointer (some ⟨b5, 0, none⟩) ∧ Boxed wx b3 5 (.int .u8 st) ∧ Boxed wx b5 5 (.int .u8 g) ∧ Below W.heap.size W wx ∧ W.heap.size ≤ b3 ∧ W.heap.size ≤ b5 ∧ b3 ≠ b5)
  case first =>
    have n1 := World.new_ne W _ a1
    have n2 := World.new_ne W _ a2
    have n3 := World.new_ne W _ a3
    go_region_held3 (fun w' => w'.cell? ⟨w.heap.size, 1, none⟩ = some (.int .u8 st) ∧ w'.cell? ⟨w.heap.size, 2, none⟩ = some (.int .u8 at_) ∧ w'.cell? ⟨w.heap.size, 3, none⟩ = some (.int .u8 g)) (go_keep) (fail)
    all_goals (clear n1 n2 n3 a1 a2 a3; go_wp2_with fail; go_meet)
    case rel =>
      refine ⟨rfl, _, _, rfl, rfl, ?_, ?_, (((Below.refl _ W).alloc (Nat.le_refl _) _).alloc (by simp) _).drew, by omega, by omega, by omega⟩
      · have e := (Boxed.new W 5 (.int .u8 st)).alloc (.cells #[.int .u8 g] 5)
        rw [hS] at e
        exact e
      · have e := Boxed.new (W.alloc (.cells #[.int .u8 st] 5)) 5 (.int .u8 g)
        rw [World.size_alloc, hS] at e
        exact e
    case rel =>
      refine ⟨rfl, _, _, rfl, rfl, ?_, ?_, (((Below.refl _ W).alloc (Nat.le_refl _) _).alloc (by simp) _).drew, by omega, by omega, by omega⟩
      · have e := Boxed.new (W.alloc (.cells #[.int .u8 g] 5)) 5 (.int .u8 st)
        rw [World.size_alloc, hS] at e
        exact e
      · have e := (Boxed.new W 5 (.int .u8 g)).alloc (.cells #[.int .u8 st] 5)
        rw [hS] at e
        exact e
  case rest =>
    obtain ⟨rfl, b3, b5, rfl, rfl, hb3, hb5, hBW, l3, l5, hne⟩ := hcut
    have hA2 := Aside0.mk ((hBW.block _ (by omega)).trans hA.out)
    have hR2 : Aside0 (Boxed wc (w.heap.size + 1) 4 (.bool false)) := ⟨(hBW.block _ (by omega)).trans hR.out⟩
    have hB2 := Aside0.mk (hB.out.trans (hBW.mono hB.out.size))
    have q0 := (blk_cell hA2.out 0).trans (show _ = some (Value.int .u8 n) from rfl)
    have hsz := hBW.size
    have hlt := blk_lt hA2.out
    clear a1 a2 a3 hA hR hB hBW
    replace hb3 := Aside0.mk hb3
    replace hb5 := Aside0.mk hb5
    go_upto_block 0 with (go_at_call 28; refine (new_m _).mono ?_; rintro e w1 ⟨lb, mb, rfl, hL, hBL⟩; have hK : Boxed w1 wc.heap.size 3 (.int .i64 ((n : Int) % 31)) := (hBL.block _ (by simp)).trans (Boxed.new wc 3 _); have hk := (hK.alloc (.cells #[.pointer (some ⟨lb, 0, none⟩)] 42)).cell; replace hL := Aside0.mk hL; replace hBL := Aside0.mk hBL; replace hK := Aside0.mk hK)
    have h31 : ∃ k : Nat, (n : Int) % 31 = k ∧ k ≤ 30 := ⟨n % 31, by omega, by omega⟩
    obtain ⟨k, hk31, hk30⟩ := h31
    rw [hk31] at hK ⊢
    have zs : wc.heap.size < w1.heap.size := by have := hBL.out.size; simp at this; omega
    have sL := Aside0.mk (hL.out.below ((Below.refl _ w1).alloc (Nat.le_refl _) (.cells #[.pointer (some ⟨lb, 0, none⟩)] 42)))
    have sK := Aside0.mk (hK.out.alloc (.cells #[.pointer (some ⟨lb, 0, none⟩)] 42))
    have sP := Aside0.mk (Boxed.new w1 42 (.pointer (some ⟨lb, 0, none⟩)))
    have hBL2 : Aside0 (Below wc.heap.size wc w1) := ⟨((Below.refl _ wc).alloc (Nat.le_refl _) _).trans (hBL.out.mono (by simp))⟩
    have sBel := Aside0.mk (hB2.out.trans ((hBL2.out.trans ((Below.refl _ w1).alloc hBL2.out.size (.cells #[.pointer (some ⟨lb, 0, none⟩)] 42))).mono hB2.out.size))
    have sR : Aside0 (Boxed (w1.alloc (.cells #[.pointer (some ⟨lb, 0, none⟩)] 42)) (w.heap.size + 1) 4 (.bool false)) := ⟨Boxed.alloc (show Boxed w1 _ _ _ from (hBL2.out.block _ hR2.out.lt).trans hR2.out) _⟩
    have s3 : Aside0 (Boxed (w1.alloc (.cells #[.pointer (some ⟨lb, 0, none⟩)] 42)) b3 5 (.int .u8 st)) := ⟨Boxed.alloc (show Boxed w1 _ _ _ from (hBL2.out.block _ hb3.out.lt).trans hb3.out) _⟩
    have s5 : Aside0 (Boxed (w1.alloc (.cells #[.pointer (some ⟨lb, 0, none⟩)] 42)) b5 5 (.int .u8 g)) := ⟨Boxed.alloc (show Boxed w1 _ _ _ from (hBL2.out.block _ hb5.out.lt).trans hb5.out) _⟩
    have e0 : (wc.alloc (.cells #[.int .i64 ((n : Int) % 31)] 3)).heap.size = wc.heap.size + 1 := by simp
    rw [e0] at sL
    have d1 : wc.heap.size ≠ w1.heap.size := by omega
    have d3 := hb3.out.lt
    have d5 := hb5.out.lt
    clear hk hL hBL hK hBL2 e0 hA2 hR2 hB2 hb3 hb5 q0
    generalize w1.alloc (.cells #[.pointer (some ⟨lb, 0, none⟩)] 42) = W1 at sL sK sP sBel sR s3 s5 ⊢
    generalize w1.heap.size = bl at *
    generalize wc.heap.size = bk at *
    have hBase : Aside0 (Base w st g k b3 b5 bk bl lb mb [] [] W1) := ⟨sR.out, s3.out, s5.out, sK.out, sP.out, sL.out, sBel.out, by omega⟩
    clear sR s3 s5 sK sP sL sBel
    go_upto_block 1 with fail
    go_loopw [30] (fun i wr => ∃ j : Nat, i = .int .i64 j ∧ j ≤ k ∧ Base w st g k b3 b5 bk bl lb mb (base j) (baseV j) wr) (fun i _ => k - (intOf i).toNat)
    case atStart => exact ⟨0, rfl, Nat.zero_le _, hBase.out⟩
    case round =>
      obtain ⟨j, rfl, hj, hB⟩ := hrel
      clear hBase
      have c7 := hB.2.2.2.2.1.cell
      by_cases hlt : j < k
      · have hP := Aside0.mk (push_m (10 * (j : Int)) hB.lm (by rw [baseV_len]; omega))
        rw [← baseV_succ, baseV_len, ← base_succ] at hP
        replace hB := Aside0.mk hB
        go_wp2_with (go_at_call 30; refine hP.out.mono ?_; rintro e w2 ⟨rfl, hL2, hc2⟩; have hB2 := Aside0.mk (hB.out.ch hc2 hL2); clear hL2 hc2)
        go_roundw
        case rel => exact ⟨j + 1, by go_num, by omega, hB2.out⟩
        case measure => simp [intOf]; omega
      · obtain rfl : j = k := by omega
        replace hB := Aside0.mk hB
        go_upto_block 2 with (go_at_call 55; refine (all_fn _ _).mono ?_; rintro e w2 ⟨rfl, rfl⟩)
        have ht : ∃ t : Nat, (at_ : Int) % 31 = t ∧ t ≤ 30 := ⟨at_ % 31, by omega, by omega⟩
        obtain ⟨t, ht31, ht30⟩ := ht
        rw [ht31]
        have hNl := hB.out.lm.map_obj.2.1
        have wsz := hB.out.bel.size
        have i1 := ((Boxed.new wr 42 (.pointer (some ⟨lb, 0, none⟩))).alloc (.cells #[.int .i64 0] 3)).alloc (.cells #[.int .i64 t] 3) |>.alloc (.cells #[.int .i64 1] 3)
        have i2 := (Boxed.new (wr.alloc (.cells #[.pointer (some ⟨lb, 0, none⟩)] 42)) 3 (.int .i64 0)).alloc (.cells #[.int .i64 t] 3) |>.alloc (.cells #[.int .i64 1] 3)
        have i3 := (Boxed.new ((wr.alloc (.cells #[.pointer (some ⟨lb, 0, none⟩)] 42)).alloc (.cells #[.int .i64 0] 3)) 3 (.int .i64 t)).alloc (.cells #[.int .i64 1] 3)
        have i4 := Boxed.new (((wr.alloc (.cells #[.pointer (some ⟨lb, 0, none⟩)] 42)).alloc (.cells #[.int .i64 0] 3)).alloc (.cells #[.int .i64 t] 3)) 3 (.int .i64 1)
        simp only [World.size_alloc] at i2 i3 i4
        have i5 := hB.out.grow (W' := (((wr.alloc (.cells #[.pointer (some ⟨lb, 0, none⟩)] 42)).alloc (.cells #[.int .i64 0] 3)).alloc (.cells #[.int .i64 t] 3)).alloc (.cells #[.int .i64 1] 3)) (((((Below.refl _ wr).alloc (Nat.le_refl _) _).alloc (by simp) _).alloc (by simp; omega) _).alloc (by simp; omega) _)
        have hI0 : Aside0 (Inv w st g j t b3 b5 bk bl lb mb wr.heap.size [] ((((wr.alloc (.cells #[.pointer (some ⟨lb, 0, none⟩)] 42)).alloc (.cells #[.int .i64 0] 3)).alloc (.cells #[.int .i64 t] 3)).alloc (.cells #[.int .i64 1] 3))) := ⟨by rw [show rowF j t (1 + (g : Int) % 31) [] = base j from if_pos (Nat.zero_le _), show valsF j t [] = baseV j from if_pos (Nat.zero_le _)]; exact i5, i1, i2, i3, i4, by simp [lastH], by simp [lastH]; omega⟩
        have hWs : ((((wr.alloc (.cells #[.pointer (some ⟨lb, 0, none⟩)] 42)).alloc (.cells #[.int .i64 0] 3)).alloc (.cells #[.int .i64 t] 3)).alloc (.cells #[.int .i64 1] 3)).heap.size = wr.heap.size + 4 := by simp
        have hbnd : Aside0 (b3 < wr.heap.size ∧ b5 < wr.heap.size ∧ bk < wr.heap.size ∧ bl < wr.heap.size ∧ w.heap.size + 1 < wr.heap.size) := ⟨hB.out.2.1.lt, hB.out.2.2.1.lt, hB.out.2.2.2.1.lt, hB.out.2.2.2.2.1.lt, hB.out.1.lt⟩
        clear i1 i2 i3 i4 i5 c7 hB
        generalize (((wr.alloc (.cells #[.pointer (some ⟨lb, 0, none⟩)] 42)).alloc (.cells #[.int .i64 0] 3)).alloc (.cells #[.int .i64 t] 3)).alloc (.cells #[.int .i64 1] 3) = W2 at hI0 hWs ⊢
        generalize wr.heap.size = N at *
        go_step
        refine (wpIn_wide (n := 5)).1 ?_
        refine' XRange.wpIn_range hro (by decide) (gf := 96) (lb := #[.pointer (some ⟨N, 0, none⟩)]) rfl trivial (enters_of Try.func96 (by kernel_rfl) rfl)
          (all_iter (5 - 1) (by decide) (j + 1) N (bk + 1) lb mb (rowF j t (1 + (g : Int) % 31)) (valsF j t) W2) (fun _ => rfl) (Inv w st g j t b3 b5 bk bl lb mb N) (Gone w) (inv_own (by omega) (by omega)) (gone_own (by omega)) (fun _ _ h => inv_at hk30 h) hI0.out _ ?assign ?body ?done ?stop
        case assign =>
          intro l x W K hK
          gi_wp2
          exact hK
        case body =>
          rintro l pre ⟨h, v⟩ W hI ⟨e1, e2, e3, e4⟩
          dsimp only at e1 e3 e4 ⊢
          have hgv := getV_at e3
          have hbd := mem_rowF e3
          have c12 := hI.2.2.2.2.1.cell
          rw [want_eq e2, ← e1] at c12
          have c10 := hI.2.2.1.cell
          have c11 := hI.2.2.2.1.cell
          have c6 := hI.1.2.2.2.1.cell
          have c7 := hI.1.2.2.2.2.1.cell
          have c5 := hI.1.2.2.1.cell
          have hpl : pre.length ≤ 31 := by have := hI.2.2.2.2.2; omega
          rw [hgv] at e4
          have hI' := Aside0.mk hI
          have e1' := Aside0.mk e1
          have e3' := Aside0.mk e3
          have ev := Aside0.mk e4
          clear hI e1 e2 e3 e4 hgv
          have hcase : (h ≤ j ∧ v = 10 * (h - 1)) ∨ (h = j + 1 ∧ v = 7) := by
            have := ev.out
            by_cases q : h ≤ j
            · rw [if_pos q] at this; exact .inl ⟨q, this⟩
            · rw [if_neg q] at this; exact .inr ⟨by omega, this⟩
          have hb1 : 1 ≤ h := hbd.1
          have hb2 : h ≤ 31 := by omega
          clear hbd
          gi_upto_region 19 with fail
          gi_cut [13, 14, 71] from 48 (fun a b c wx => a = .int .i64 h ∧ b = .int .i64 v ∧ c = .bool false ∧ W = wx)
          case first =>
            rcases hcase with ⟨q, rfl⟩ | ⟨rfl, rfl⟩
            · have q1 : decide (h ≤ (j : Int)) = true := decide_eq_true q
              have q2 : decide ((j : Int) < h) = false := decide_eq_false (by omega)
              gi_wp2
              gi_meet
              exact ⟨rfl, rfl, rfl, rfl⟩
            · have q1 : decide ((j : Int) + 1 ≤ (j : Int)) = false := decide_eq_false (by omega)
              have q2 : decide ((j : Int) < (j : Int) + 1) = true := decide_eq_true (by omega)
              gi_wp2
              gi_meet
              exact ⟨rfl, rfl, rfl, rfl⟩
          case rest =>
            obtain ⟨rfl, rfl, rfl, rfl⟩ := hcut
            gi_upto_if 74 with fail
            gi_cut [13, 14] from 48 (fun a b wx => a = .int .i64 h ∧ b = .int .i64 v ∧ Mid w st g j t b3 b5 bk bl lb mb N W2.heap.size pre (h, v) W wx)
            case first =>
              by_cases ht : pre.length = t
              · obtain ⟨r1, r2, r3, r4⟩ := rowF_turn (k := j) (g := 1 + (g : Int) % 31) (x := (h, v)) ht
                have hb5' : (1 : Int) ≤ 1 + (g : Int) % 31 ∧ 1 + (g : Int) % 31 ≤ 31 := by omega
                have hbl := hI'.out.1.lm
                rw [r1, r3] at hbl
                have hM : ∀ W', Ch W W' (Mine W (bk + 1) mb) → LM W' (bk + 1) lb mb (rowC j (1 + (g : Int) % 31) h) (baseV j ++ [7]) → Mid w st g j t b3 b5 bk bl lb mb N W2.heap.size pre (h, v) W W' := fun W' hc hl => Mid.of_ch hI'.out hc (by rw [r2, r4]; exact hl) (by omega)
                have hRem := Aside0.mk (rem_base hbl hk30 hb5')
                have hPush := Aside0.mk (push_m 7 hbl (by rw [baseV_len]; omega))
                rw [baseV_len] at hPush
                replace hM := Aside0.mk hM
                have htt : ((pre.length : Int) == (t : Int)) = true := by rw [ht]; simp
                have hg1 : (g : Int) % 31 ≤ 30 := by omega
                have hg0 : 0 ≤ (g : Int) % 31 := by omega
                clear r1 r2 r3 r4 hbl hb5'
                have hInv := hI'
                by_cases hx : 1 + (g : Int) % 31 = h
                · have hx' : (1 + (g : Int) % 31 != h) = false := by simp [hx]
                  have hrc : Aside0 (rowC j (1 + (g : Int) % 31) h = base j ++ [(j : Int) + 1]) := ⟨by unfold rowC; rw [if_pos hx]⟩
                  clear hx
                  gi_wp2_with (refine ⟨trivial, ?_⟩; gi_at_call 30; refine (((callsIn_wide (n := 2)).2 hPush.out).inRound l).mono ?_; rintro e w2 ⟨rfl, hL2, hc2⟩; have hm2 := Aside0.mk (hM.out w2 hc2 (by rw [hrc.out]; exact hL2)); clear hL2 hc2)
                  gi_meet
                  exact ⟨rfl, rfl, hm2.out⟩
                · have hx' : (1 + (g : Int) % 31 != h) = true := by simp [hx]
                  have hrc : Aside0 (rowC j (1 + (g : Int) % 31) h = (base j).filter (· ≠ 1 + (g : Int) % 31) ++ [(j : Int) + 1]) := ⟨by unfold rowC; rw [if_neg hx]⟩
                  clear hx
                  gi_wp2_with (first | (refine ⟨trivial, ?_⟩; gi_at_call 56; refine (((callsIn_wide (n := 2)).2 hRem.out).inRound l).mono ?_; rintro e w2 ⟨⟨u, rfl⟩, hL2, hc2⟩; have k7 : w2.cell? ⟨bl, 0, none⟩ = some (.pointer (some ⟨lb, 0, none⟩)) := (hInv.out.1.ch hc2 hL2).2.2.2.2.1.cell; have hPush2 := Aside0.mk (push_m 7 hL2 (by rw [baseV_len]; omega)); rw [baseV_len] at hPush2; replace hc2 := Aside0.mk hc2; clear hL2) | (refine ⟨trivial, ?_⟩; gi_at_call 30; refine (((callsIn_wide (n := 2)).2 hPush2.out).inRound l).mono ?_; rintro e w3 ⟨rfl, hL3, hc3⟩; have hm2 := Aside0.mk (hM.out w3 (ch_then hc2.out hc3) (by rw [hrc.out]; exact hL3)); clear hL3 hc3))
                  gi_meet
                  exact ⟨rfl, rfl, hm2.out⟩
              · have htt : ((pre.length : Int) == (t : Int)) = false := by simp; omega
                gi_wp2
                gi_meet
                exact ⟨rfl, rfl, Mid.of_inv hI'.out ht⟩
            case rest =>
              obtain ⟨rfl, rfl, hm⟩ := hcut
              obtain ⟨m1, m2, m3, m4, ⟨v5, m5⟩, m6⟩ := hm
              clear c12 c10 c11 c6 c7 c5
              have bnd : b3 < N ∧ b5 < N ∧ bk < N ∧ bl < N ∧ w.heap.size + 1 < N := hbnd.out
              have HN := Aside0.mk (next_lst (h := h) m1.lm.lst (wf_small (by omega) (by omega)))
              rw [show nextR (rowF j t (1 + (g : Int) % 31) (pre ++ [(h, v)])) h = pend (rowF j t (1 + (g : Int) % 31)) (pre ++ [(h, v)]) from by unfold pend; rw [lastH_snoc]] at HN
              have hwant : want j t (1 + (g : Int) % 31) (pre ++ [(h, v)]) = pend (rowF j t (1 + (g : Int) % 31)) (pre ++ [(h, v)]) := by unfold want; rw [if_neg (by simp)]
              have hlast : lastH (pre ++ [(h, v)]) = h := lastH_snoc _ _
              have hlt2 : (pre.length : Int) + 1 ≤ h := by
                have := hI'.out.2.2.2.2.2
                have q := pend_bound (k := j) (t := t) (g := 1 + (g : Int) % 31) (pre := pre) (by omega)
                rw [← e1'.out] at q
                omega
              have hub := (mem_rowF e3'.out).2
              generalize pend (rowF j t (1 + (g : Int) % 31)) (pre ++ [(h, v)]) = q at HN hwant
              have c7 := m1.2.2.2.2.1.cell
              have f5 := m5.frozen
              have fc5 := m5.cell
              -- behind the store of what is awaited
              have s1 := m1.set m5 (by omega) (by omega) (by omega) (by omega) (by omega) (.int .i64 q)
              have s2 := m2.other (B' := N + 1 + 1 + 1) (by omega) (.int .i64 q)
              have s3 := m3.other (B' := N + 1 + 1 + 1) (by omega) (.int .i64 q)
              have s4 := m4.other (B' := N + 1 + 1 + 1) (by omega) (.int .i64 q)
              have s5 := m5.set (.int .i64 q)
              have g3 := s3.cell
              have gf := s3.frozen
              -- behind the count
              have u1 := s1.set s3 (by omega) (by omega) (by omega) (by omega) (by omega) (.int .i64 ((pre.length : Int) + 1))
              have u2 := s2.other (B' := N + 1) (by omega) (.int .i64 ((pre.length : Int) + 1))
              have u3 := s3.set (.int .i64 ((pre.length : Int) + 1))
              have u4 := s4.other (B' := N + 1) (by omega) (.int .i64 ((pre.length : Int) + 1))
              have u5 := s5.other (B' := N + 1) (by omega) (.int .i64 ((pre.length : Int) + 1))
              have k3 := u1.2.1.cell
              have ki := u3.cell
              have kf := u1.1.frozen
              have hAw := Aside0.mk (fun W => (callsIn_wide (n := 2)).2 (LS.awake_walk W))
              have hKeep : Aside0 (KeepsFrom W2.heap.size W ((wc.setCell ⟨N + 1 + 1 + 1, 0, none⟩ (.int .i64 q)).setCell ⟨N + 1, 0, none⟩ (.int .i64 ((pre.length : Int) + 1)))) := ⟨m6.trans (((KeepsOthers.setCell _ _ _).trans (KeepsOthers.setCell _ _ _)).from _)⟩
              have hInv2 : Aside0 (Inv w st g j t b3 b5 bk bl lb mb N (pre ++ [(h, v)]) ((wc.setCell ⟨N + 1 + 1 + 1, 0, none⟩ (.int .i64 q)).setCell ⟨N + 1, 0, none⟩ (.int .i64 ((pre.length : Int) + 1)))) := ⟨u1, u2, by rw [List.length_append]; exact u3, u4, by rw [hwant]; exact u5, by rw [hlast, List.length_append]; exact hlt2, by rw [hlast]; exact hub⟩
              clear m1 m2 m3 m4 m5 m6 s1 s2 s3 s4 s5 u1 u2 u3 u4 u5 hwant hlast hI' e1' e3' ev
              gi_wp2_with (first | (refine ⟨trivial, ?_⟩; gi_at_call 57; refine (((callsIn_wide (n := 2)).2 HN.out).inRound l).mono ?_; rintro e w4 ⟨rfl, rfl⟩) | (refine ⟨trivial, ?_⟩; gi_at_call 27; refine ((hAw.out _).inRound l).mono ?_; rintro e w5 ⟨rfl, hb5⟩; have hR5 : Boxed w5 (w.heap.size + 1) 4 (.bool false) := (hb5.block _ hInv2.out.1.1.lt).trans hInv2.out.1.1; have hf5 := hR5.frozen; have hg5 := hR5.cell))
              · have e5 := hR5.set (.bool true)
                refine ⟨hKeep.out.trans ((show KeepsFrom W2.heap.size _ w5 from ⟨hb5.size, fun i o _ hi _ => (hb5.block i (Array.getElem?_eq_some_iff.1 hi).1).trans hi⟩).trans ((KeepsOthers.setCell _ _ _).from _)), rfl, e5, ?_⟩
                exact (hInv2.out.1.bel.trans (hb5.mono hInv2.out.1.bel.size)).setCell (by simp) _
              · exact ⟨hKeep.out, trivial, hInv2.out⟩
        case done =>
          rintro D ys W hD hys hI hK
          have d6 := hI.1.2.2.2.1.cell
          have d12 := hI.2.2.2.2.1.cell
          have hAw := Aside0.mk (LS.awake_walk W)
          have hz : j = 0 ∨ want j t (1 + (g : Int) % 31) ys = 0 := by
            by_cases e : ys = []
            · subst e
              by_cases hj : j = 0
              · exact .inl hj
              · exfalso
                have : pend (rowF j t (1 + (g : Int) % 31)) [] = 1 := by
                  have hr : rowF j t (1 + (g : Int) % 31) [] = base j := if_pos (Nat.zero_le _)
                  unfold pend
                  rw [hr]
                  obtain ⟨i, rfl⟩ : ∃ i, j = i + 1 := ⟨j - 1, by omega⟩
                  simp [nextR, lastH, base, List.range_succ_eq_map]
                rw [this] at hys
                cases hys
            · exact .inr (by unfold want; rw [if_neg e]; exact hys)
          have hI' := Aside0.mk hI
          replace hK := Aside0.mk hK
          clear hI hys
          generalize want j t (1 + (g : Int) % 31) ys = q at hz d12
          have fin : ∀ W3, Below W.heap.size W W3 → Boxed W3 (w.heap.size + 1) 4 (.bool false) ∧ W3.heap[D]? = some (.deferred (some [])) := fun W3 hb => ⟨(hb.block _ hI'.out.1.1.lt).trans hI'.out.1.1, (hb.block _ (Array.getElem?_eq_some_iff.1 hK.out).1).trans hK.out⟩
          replace fin := Aside0.mk fin
          have post : ∀ W3 (a : Act), Below W.heap.size W W3 → a.tmps[2]? = some (.pointer (some ⟨w.heap.size + 1, 0, none⟩)) → LeavesInM Fence.wide 5 Try.prog Try.f11 a.tmps (fun e w' => e = .returned (.bool true) ∧ Below w.heap.size w w') [{ target := .collected D, args := #[] }] .returning (W3.setCell ⟨w.heap.size + 1, 0, none⟩ (.bool true)) := fun W3 a hb ha => by
            obtain ⟨x1, x2⟩ := fin.out W3 hb
            have y1 := x1.set (.bool true)
            have y2 : (W3.setCell ⟨w.heap.size + 1, 0, none⟩ (.bool true)).heap[D]? = some (.deferred (some [])) := (Below.heap_setCell _ _ _ _ (by show D ≠ w.heap.size + 1; omega)).trans x2
            have yb : Below w.heap.size w (W3.setCell ⟨w.heap.size + 1, 0, none⟩ (.bool true)) := (hI'.out.1.bel.trans (hb.mono hI'.out.1.bel.size)).setCell (by show w.heap.size ≤ w.heap.size + 1; omega) _
            generalize W3.setCell ⟨w.heap.size + 1, 0, none⟩ (.bool true) = W4 at y1 y2 yb ⊢
            have z1 : Boxed (W4.putObj D (.deferred none)) (w.heap.size + 1) 4 (.bool true) := (World.putObj_heap_other (by omega)).trans y1
            have hc := z1.cell
            refine ⟨by simp, .inl ⟨_, _, rfl, run_takeDeferred y2, ?_⟩⟩
            exact ⟨_, by simp [results, Try.results11, go_sem, hc, ha], rfl, yb.trans (belowK_b (w := w) (Nat.le_refl _) W4 D _ _ (by omega) y2 rfl rfl)⟩
          replace post := Aside0.mk post
          have rf := (fin.out W (Below.refl _ _)).1.frozen
          rcases hz with rfl | rfl
          · go_wp2_with (go_at_call 27; refine hAw.out.mono ?_; rintro e w5 ⟨rfl, hb5⟩; have hf5 := (fin.out w5 hb5).1.frozen; have hg5 := (fin.out w5 hb5).1.cell)
            exact post.out _ _ hb5 rfl
          · by_cases hj : j = 0
            · subst hj
              go_wp2_with (go_at_call 27; refine hAw.out.mono ?_; rintro e w5 ⟨rfl, hb5⟩; have hf5 := (fin.out w5 hb5).1.frozen; have hg5 := (fin.out w5 hb5).1.cell)
              exact post.out _ _ hb5 rfl
            · have hj' : ((j : Int) == 0) = false := by simp; omega
              go_wp2_with (go_at_call 27; refine hAw.out.mono ?_; rintro e w5 ⟨rfl, hb5⟩; have hf5 := (fin.out w5 hb5).1.frozen; have hg5 := (fin.out w5 hb5).1.cell)
              exact post.out _ _ hb5 rfl
        case stop =>
          rintro D c pre W hD ⟨rfl, hR, hBel⟩ hK
          gi_wp2
          have hR2 : Boxed (W.putObj D (.deferred none)) (w.heap.size + 1) 4 (.bool true) := (World.putObj_heap_other (by omega)).trans hR
          have hc := hR2.cell
          refine ⟨by simp, .inl ⟨_, _, rfl, run_takeDeferred hK, ?_⟩⟩
          exact ⟨_, by simp [results, Try.results11, go_sem, hc], rfl, hBel.trans (belowK_b (w := w) (Nat.le_refl _) W D _ _ (by omega) hK rfl rfl)⟩
end Go.Proofs.Ytnncomhgclffaaa.LA
