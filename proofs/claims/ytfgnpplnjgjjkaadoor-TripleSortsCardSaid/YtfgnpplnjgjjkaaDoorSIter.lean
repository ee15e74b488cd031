/- slices.Values, slices.AppendSeq and slices.Collect at triples. -/
import Derived.Test.YtfgnpplnjgjjkaaDoorSCmp
import Derived.RangeFuncNested
import Derived.RangeFuncBox
import Derived.RangeFuncBound
import Derived.RangeFuncCalls
import Derived.RangeFuncLeaves
import Derived.Shelf.Abstract
import Derived.WalkKit
import Derived.OwnWalkIn
import Derived.TacticsInMore
import Derived.LoopNIn
import Derived.LoopIn
import Derived.Maps.AppendAt
import Derived.Outline
namespace Go.Proofs.YtfgnpplnjgjjkaaDoor.T
open Go.RowKit Go.Shelf Go.Lib Go.Proofs.YtfgnpplnjgjjkaaDoorW.PrintWords Go.Proofs.YtfgnpplnjgjjkaaDoor.K

attribute [local go_sem] Oper.semAt_some

/-- A triple. -/
abbrev Tr := Int × Int × Int
abbrev cs3 (x : Tr) : List Value := [.int .i64 x.1, .int .i64 x.2.1, .int .i64 x.2.2]
abbrev ag3 (x : Tr) : Value := .agg #[.int .i64 x.1, .int .i64 x.2.1, .int .i64 x.2.2]
def csT (l : List Tr) : List Value := l.flatMap cs3
theorem csT_append (l : List Tr) (x : Tr) : csT (l ++ [x]) = csT l ++ cs3 x := by simp [csT]
theorem csT_len : ∀ l : List Tr, (csT l).length = l.length * 3
  | [] => rfl
  | x :: l => by
    have e : csT (x :: l) = cs3 x ++ csT l := rfl
    rw [e, List.length_append, csT_len l, List.length_cons]
    simp
    omega
theorem csT_at : ∀ (l : List Tr) (j : Nat) (hj : j < l.length), (csT l)[j * 3]? = some (.int .i64 l[j].1) ∧ (csT l)[j * 3 + 1]? = some (.int .i64 l[j].2.1) ∧ (csT l)[j * 3 + 2]? = some (.int .i64 l[j].2.2)
  | x :: l, 0, _ => ⟨rfl, rfl, rfl⟩
  | x :: l, j + 1, hj => by
    have e : csT (x :: l) = .int .i64 x.1 :: .int .i64 x.2.1 :: .int .i64 x.2.2 :: csT l := rfl
    obtain ⟨h1, h2, h3⟩ := csT_at l j (by simpa using hj)
    rw [e]
    have e1 : (j + 1) * 3 = j * 3 + 1 + 1 + 1 := by omega
    rw [e1]
    exact ⟨by simpa using h1, by simpa using h2, by simpa using h3⟩

/-- Triples in memory, below block n₀, to be read. -/
def RT (n₀ : Nat) (W : World) (v : Value) (l : List Tr) : Prop := ∃ A cap, v = .slice A l.length cap ∧ l.length ≤ 9223372036854775807 ∧ ∀ j (_ : j < l.length), ∃ b o, A = some ⟨b, o, none⟩ ∧ b < n₀ ∧ b < W.heap.size ∧
  W.cell? ⟨b, o + j * 3, none⟩ = some (.int .i64 l[j].1) ∧ W.cell? ⟨b, o + j * 3 + 1, none⟩ = some (.int .i64 l[j].2.1) ∧ W.cell? ⟨b, o + j * 3 + 2, none⟩ = some (.int .i64 l[j].2.2)
theorem RT.below {n₀ : Nat} {w W : World} {v : Value} {l : List Tr} (h : RT n₀ w v l) (hb : Below n₀ w W) : RT n₀ W v l := by
  obtain ⟨A, cap, e, hm, h⟩ := h
  refine ⟨A, cap, e, hm, fun j hj => ?_⟩
  obtain ⟨b, o, e, h1, h2, c0, c1, c2⟩ := h j hj
  exact ⟨b, o, e, h1, Nat.lt_of_lt_of_le h2 hb.size, (hb.cell (p := ⟨b, o + j * 3, none⟩) h1).trans c0, (hb.cell (p := ⟨b, o + j * 3 + 1, none⟩) h1).trans c1, (hb.cell (p := ⟨b, o + j * 3 + 2, none⟩) h1).trans c2⟩

theorem grownBy_new (W : World) (o : Obj) : W.grownBy (W.alloc o) none :=
  ⟨rfl, rfl, rfl, by simp, fun k hk _ => Below.heap_alloc W o k hk⟩

set_option maxRecDepth 100000 in
set_option maxHeartbeats 2000000 in
theorem values1_in (n : Nat) (hn : 1 ≤ n) (l Bs n₀ : Nat) (A : Option Addr) (cap : Nat) (zs : List Tr) (J Jx : List Tr → World → Prop)
    (hY : ∀ pre x W, J pre W → pre.length < zs.length → YieldAt Fence.wide (n - 1) Tryd.prog l #[ag3 x] W fun e W' =>
      (e = .returned (.bool true) ∧ J (pre ++ [x]) W' ∧ Below n₀ W W') ∨ (e = .returned (.bool false) ∧ Jx (pre ++ [x]) W'))
    (W : World) (hW : n₀ ≤ W.heap.size) (hJ : AbidesFrom W.heap.size J) (hBs : W.cell? ⟨Bs, 0, none⟩ = some (.slice A zs.length cap)) (hc : RT n₀ W (.slice A zs.length cap) zs) (h0 : J [] W) :
    CallsIn Fence.wide n Tryd.prog 56 #[.func (.yield l) #[] #[], .pointer (some ⟨Bs, 0, none⟩)] W fun e W' => (∃ v, e = .returned v) ∧
      ((∃ ys, ys = zs ∧ J ys W') ∨ (∃ pre, pre <+: zs ∧ Jx pre W')) := by
  have hm : zs.length ≤ 9223372036854775807 := by obtain ⟨_, _, _, h, _⟩ := hc; exact h
  replace hc := Aside0.mk hc
  refine callsIn_of_wp Tryd.func56 rfl trivial ?_ rfl
  simp only [Tryd.ntmps56, List.size_toArray, List.length_cons, List.length_nil, Nat.reduceAdd, Nat.reduceSub, Array.replicate_succ, Array.replicate_zero, List.push_toArray, List.append_toArray, List.nil_append, List.cons_append]
  gi_wp2
  gi_loopw [7] (fun i wr => ∃ k : Nat, k ≤ zs.length ∧ i = .int .i64 k ∧ J (zs.take k) wr ∧ Below n₀ W wr) (fun i _ => zs.length - (RowKit.intOf i).toNat)
  case atStart => exact ⟨0, Nat.zero_le _, rfl, h0, Below.refl _ _⟩
  case round =>
    clear hBs h0
    obtain ⟨k, hk, rfl, hJs, hnx⟩ := hrel
    have htk : (zs.take k).length = k := by rw [List.length_take]; omega
    by_cases hlt : k < zs.length
    · obtain ⟨A', cap', e, _, hcs⟩ := (hc.out.below hnx)
      cases e
      obtain ⟨b, o, rfl, hb, hbl, c0, c1, c2⟩ := hcs k hlt
      have hJ2 := hJ (zs.take k) wr (wr.alloc (.cells #[.int .i64 zs[k].1, .int .i64 zs[k].2.1, .int .i64 zs[k].2.2] 23)) none hJs (grownBy_new _ _) (fun r e => by cases e)
      have hnx2 := hnx.alloc (Nat.le_trans hW hnx.size) (.cells #[.int .i64 zs[k].1, .int .i64 zs[k].2.1, .int .i64 zs[k].2.2] 23)
      obtain ⟨fn, tmps, assign, body, hy, hR⟩ := hY _ zs[k] _ hJ2 (by omega)
      have htk1 := Aside0.mk (List.take_succ_eq_append_getElem hlt)
      replace htk := Aside0.mk htk
      clear hcs
      gi_wp2
      refine hR.mono ?_
      rintro e W3 (⟨rfl, hJ3, hk3⟩ | ⟨rfl, hJx3⟩)
      · gi_wp2
        go_roundw
        case rel => exact ⟨k + 1, by omega, by simp, by rw [htk1.out]; exact hJ3, hnx2.trans hk3⟩
        case measure => simp [RowKit.intOf]; omega
      · gi_wp2
        refine bodyPost_ret (results_none rfl _ _ _) rfl ?_
        exact ⟨⟨_, rfl⟩, .inr ⟨_, by rw [← htk1.out]; exact List.take_prefix _ _, hJx3⟩⟩
    · obtain rfl : k = zs.length := by omega
      gi_wp2
      go_end0
      exact ⟨⟨_, rfl⟩, .inl ⟨zs, rfl, by rw [List.take_length] at hJs; exact hJs⟩⟩
end Go.Proofs.YtfgnpplnjgjjkaaDoor.T
