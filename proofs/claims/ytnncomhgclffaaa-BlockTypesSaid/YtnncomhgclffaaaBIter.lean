/- 'All' of package list at strings: the iterator's contract, for every loop body that keeps the list. -/
import Derived.RangeFuncNested
import Derived.RangeFuncBox
import Derived.RangeFuncBound
import Derived.RangeFuncCalls
import Derived.RangeFuncLeaves
import Derived.Shelf.Abstract
import Derived.WalkKit
import Derived.OwnWalkIn
import Derived.TacticsInMore
import Derived.LoopNIn
import Derived.LoopIn
import Derived.Maps.AppendAt
import Derived.Test.YtnncomhgclffaaaLListSA
namespace Go.Proofs.Ytnncomhgclffaaa.BI
open Go.RowKit Go.Shelf Go.Proofs.YtnncomhgclffaaaW.PrintWords Go.Proofs.YtnncomhgclffaaaL Go.Proofs.Ytnncomhgclffaaa.LS

attribute [local go_sem] Oper.semAt_some

/-- The value of a handle. -/
def vOf (vals : List ByteArray) (h : Int) : ByteArray := (vals[(h - 1).toNat]?).getD ⟨#[]⟩
def prs (vals : List ByteArray) (row : List Int) : List (Int × ByteArray) := row.map fun h => (h, vOf vals h)
theorem prs_len (vals : List ByteArray) (row : List Int) : (prs vals row).length = row.length := by simp [prs]
/-- What a round that goes on keeps: the list, and the box that the iterator has captured. -/
def Kp (Fl : Nat → Prop) (Bn lb : Nat) (W W' : World) : Prop := (∀ b, Fl b → W'.heap[b]? = W.heap[b]?) ∧ (Boxed W Bn 69 (.pointer (some ⟨lb, 0, none⟩)) → Boxed W' Bn 69 (.pointer (some ⟨lb, 0, none⟩)))
theorem Kp.t {Fl : Nat → Prop} {Bn lb : Nat} {A B C : World} (h : Kp Fl Bn lb A B) (k : Kp Fl Bn lb B C) : Kp Fl Bn lb A C := ⟨fun b hb => (k.1 b hb).trans (h.1 b hb), fun x => k.2 (h.2 x)⟩
theorem Kp.b {Fl : Nat → Prop} {Bn lb : Nat} {w : World} (hF : ∀ b, Fl b → b < w.heap.size) (W : World) (l : Nat) (o o' : Obj) (hl : w.heap.size ≤ l) (h : W.heap[l]? = some o) (hc : o.isCells = false) (_ : o.isWalk = false) : Kp Fl Bn lb W (W.putObj l o') := by
  have hg := grownBy_putObj' W l o'
  have hlt := (Array.getElem?_eq_some_iff.1 h).1
  refine ⟨fun b hb => ?_, fun hx => ?_⟩
  · have h1 := hF b hb
    exact hg.block b (by omega) (by simp; omega)
  · have hne : Bn ≠ l := by
      rintro rfl
      unfold Boxed at hx
      rw [hx] at h
      cases h
      cases hc
    exact (hg.block Bn hx.lt (by simp; omega)).trans hx

/-- How many handles are still to come. -/
def mIt (row : List Int) (v : Value) : Nat := if RowKit.intOf v = 0 then 0 else row.length - row.idxOf (RowKit.intOf v)
theorem next_split {row a rest : List Int} {x : Int} (hr : row = a ++ x :: rest) (hn : row.Nodup) (h0 : x ≠ 0) : nextR row x = (rest.head?).getD 0 := by
  subst hr
  have hx : x ∉ a := fun h => by
    rw [List.nodup_append] at hn
    exact hn.2.2 x h x (by simp) rfl
  unfold nextR
  rw [if_neg h0, if_pos (by simp), List.idxOf_append, if_neg hx]
  rw [List.idxOf_cons_self, List.getElem?_append_right (by omega)]
  cases rest <;> simp
theorem mIt_at {row a rest : List Int} {x : Int} (hr : row = a ++ x :: rest) (hn : row.Nodup) (h0 : x ≠ 0) : mIt row (.int .i64 x) = rest.length + 1 := by
  subst hr
  have hx : x ∉ a := fun h => by
    rw [List.nodup_append] at hn
    exact hn.2.2 x h x (by simp) rfl
  unfold mIt
  rw [show RowKit.intOf (.int .i64 x) = x from rfl, if_neg h0, List.idxOf_append, if_neg hx]
  simp [List.idxOf_cons_self]

theorem mIt_less {row a rest : List Int} {x : Int} (hr : row = a ++ x :: rest) (hn : row.Nodup) (h0 : ∀ y ∈ row, y ≠ 0) : mIt row (.int .i64 ((rest.head?).getD 0)) < mIt row (.int .i64 x) := by
  rw [mIt_at hr hn (h0 x (by rw [hr]; simp))]
  cases rest with
  | nil => simp [mIt, RowKit.intOf]
  | cons y t =>
    have : mIt row (.int .i64 y) = t.length + 1 := mIt_at (a := a ++ [x]) (by rw [hr]; simp) hn (h0 y (by rw [hr]; simp))
    simp only [List.head?_cons, Option.getD_some]
    rw [this]
    simp
theorem getV_in {row : List Int} {vals : List ByteArray} {h : Int} (hm : h ∈ row) : getV row vals h = vOf vals h := by unfold getV; rw [if_pos hm]; rfl

set_option maxRecDepth 100000 in
set_option maxHeartbeats 2000000 in
theorem all1_in (n : Nat) (hn : 1 ≤ n) (l Bn lb : Nat) (Fl : Nat → Prop) (row : List Int) (vals : List ByteArray) (hl : vals.length < 100000) (J Jx : List (Int × ByteArray) → World → Prop)
    (hY : ∀ pre x W, J pre W → x ∈ prs vals row → pre.length < row.length → YieldAt Fence.wide (n - 1) Try.prog l #[.int .i64 x.1, .string x.2] W fun e W' =>
      (e = .returned (.bool true) ∧ J (pre ++ [x]) W' ∧ Kp Fl Bn lb W W') ∨ (e = .returned (.bool false) ∧ Jx (pre ++ [x]) W'))
    (W : World) (hBn : Boxed W Bn 69 (.pointer (some ⟨lb, 0, none⟩))) (hL : Lst W lb Fl row vals) (h0 : J [] W) :
    CallsIn Fence.wide n Try.prog 111 #[.func (.yield l) #[] #[], .pointer (some ⟨Bn, 0, none⟩)] W fun e W' => (∃ v, e = .returned v) ∧
      ((∃ ys, ys = prs vals row ∧ J ys W') ∨ (∃ pre, pre <+: prs vals row ∧ Jx pre W')) := by
  obtain ⟨hnd, hbd⟩ := hL.facts
  replace hnd := Aside0.mk hnd
  replace hbd := Aside0.mk hbd
  have hc0 := hBn.cell
  have hnx := Aside0.mk (fun W hL => next_lst (w := W) (lb := lb) (F := Fl) (row := row) (vals := vals) (h := 0) hL (by decide))
  have e0 : nextR row 0 = (row[0]?).getD 0 := by simp [nextR]
  rw [e0] at hnx
  generalize hfirst : (row[0]?).getD 0 = first at hnx
  replace hfirst := Aside0.mk hfirst
  replace hL := Aside0.mk hL
  replace hBn := Aside0.mk hBn
  clear e0
  refine callsIn_of_wp Try.func111 rfl trivial ?_ rfl
  simp only [Try.ntmps111, List.size_toArray, List.length_cons, List.length_nil, Nat.reduceAdd, Nat.reduceSub, Array.replicate_succ, Array.replicate_zero, List.push_toArray, List.append_toArray, List.nil_append, List.cons_append]
  gi_wp2_with (refine ⟨trivial, ?_⟩; gi_at_call 51; refine (callsIn_wide.2 (hnx.out _ hL.out)).mono ?_; rintro e w' ⟨rfl, rfl⟩)
  gi_loopw [3] (fun p wr => ∃ (a rest : List Int), row = a ++ rest ∧ p = .int .i64 ((rest.head?).getD 0) ∧ Lst wr lb Fl row vals ∧ Boxed wr Bn 69 (.pointer (some ⟨lb, 0, none⟩)) ∧ J (prs vals a) wr)
    (fun p _ => mIt row p)
  case atStart => exact ⟨[], row, rfl, by rw [← hfirst.out]; cases row <;> rfl, hL.out, hBn.out, h0⟩
  case round =>
    clear hL hBn h0 hc0 hnx hfirst
    obtain ⟨a, rest, hr, rfl, hL, hBn, hJ⟩ := hrel
    replace hr := Aside0.mk hr
    have hc0 := hBn.cell
    cases rest with
    | nil =>
      gi_wp2
      go_end0
      exact ⟨⟨_, rfl⟩, .inl ⟨prs vals a, by rw [hr.out]; simp, hJ⟩⟩
    | cons x rest =>
      have hx : x ∈ row := by rw [hr.out]; simp
      have hb := hbd.out x hx
      have hwf := Aside0.mk (wf_small (x := x) (by omega) (by omega))
      have hne : (x != 0) = true := bne_iff_ne.2 (by omega)
      obtain ⟨fn, tmps, assign, body, hy, hR⟩ := hY (prs vals a) (x, vOf vals x) wr hJ (List.mem_map.2 ⟨x, hx, rfl⟩) (by rw [prs_len, hr.out]; simp)
      dsimp only at hy
      have HG := Aside0.mk (get_lst (h := x) hL hwf.out)
      rw [getV_in hx, show decide (x ∈ row) = true from decide_eq_true hx] at HG
      replace hL := Aside0.mk hL
      replace hBn := Aside0.mk hBn
      replace hx := Aside0.mk hx
      simp only [List.head?_cons, Option.getD_some]
      gi_wp2_with (refine ⟨trivial, ?_⟩; gi_at_call 50; refine (callsIn_wide.2 HG.out).mono ?_; rintro e w' ⟨rfl, rfl⟩)
      refine hR.mono ?_
      rintro e W3 (⟨rfl, hJ3, hk3⟩ | ⟨rfl, hJx3⟩)
      · have hL3 := hL.out.move (W := W3) (fun b hb _ => hk3.1 b hb)
        have hB3 := hk3.2 hBn.out
        have hc3 := hB3.cell
        have HN := Aside0.mk (next_lst (h := x) hL3 hwf.out)
        rw [next_split hr.out hnd.out (by omega)] at HN
        have hless := Aside0.mk (mIt_less hr.out hnd.out (fun y hy => by have := hbd.out y hy; omega))
        replace hL3 := Aside0.mk hL3
        replace hB3 := Aside0.mk hB3
        replace hk3 := Aside0.mk hk3
        clear hy hR hc0
        generalize hnx : (rest.head?).getD 0 = nx at HN hless
        replace hnx := Aside0.mk hnx
        gi_wp2_with (refine ⟨trivial, ?_⟩; gi_at_call 51; refine (callsIn_wide.2 HN.out).mono ?_; rintro e w' ⟨rfl, rfl⟩)
        go_roundw
        case rel => exact ⟨a ++ [x], rest, by rw [hr.out]; simp, by rw [hnx.out], hL3.out, hB3.out, by simpa [prs] using hJ3⟩
        case measure => exact hless.out
      · gi_wp2
        refine bodyPost_ret (results_none rfl _ _ _) rfl ?_
        exact ⟨⟨_, rfl⟩, .inr ⟨prs vals a ++ [(x, vOf vals x)], ⟨prs vals rest, by rw [hr.out]; simp [prs]⟩, hJx3⟩⟩
end Go.Proofs.Ytnncomhgclffaaa.BI
