/- The list at ints with the block of its map told, and its 'All' as an iterator whose rounds may turn the list. -/
import Derived.Test.YtnncomhgclffaaaXRange
import Derived.Test.YtnncomhgclffaaaLListIA
import Derived.Shelf.Abstract
import Derived.WalkKit
import Derived.OwnWalkIn
import Derived.TacticsInMore
import Derived.LoopNIn
import Derived.LoopIn
namespace Go.Proofs.Ytnncomhgclffaaa.LA
open Go.RowKit Go.Shelf Go.Proofs.YtnncomhgclffaaaW.PrintWords Go.Proofs.YtnncomhgclffaaaL Go.Proofs.YtnncomhgclffaaaL.Row Go.Proofs.Ytnncomhgclffaaa.LL Go.Proofs.Ytnncomhgclffaaa.LI

attribute [local go_sem] Oper.semAt_some

/-- The list: its blocks lie from b0 on, its map is block mb. -/
def LM (w : World) (b0 lb mb : Nat) (row vals : List Int) : Prop :=
  ∃ lk L, LIs enc 132 135 w lb mb lk L vals.length (row.length + 1) ∧ Rep L row vals ∧ ∀ b, foot lb mb lk L b → b0 ≤ b
/-- The blocks that it may turn. -/
def Mine (w : World) (b0 mb b : Nat) : Prop := b0 ≤ b ∧ (b = mb ∨ ∃ cs t, w.heap[b]? = some (.cells cs t (0, 0)) ∧ (t = 132 ∨ t = 135))

section
variable {w W W1 W2 : World} {b0 lb mb : Nat} {row vals : List Int}

theorem mine_of_foot {lk : Int → Nat} {L : Int → Option (Int × Int × Int)} {n : Int} {m : Nat} (h : LIs enc 132 135 w lb mb lk L n m) (h0 : ∀ b, foot lb mb lk L b → b0 ≤ b) : ∀ b, foot lb mb lk L b → Mine w b0 mb b := fun b hb => by
  refine ⟨h0 b hb, ?_⟩
  rcases hb with rfl | rfl | ⟨y, hy, rfl⟩
  · exact .inr ⟨_, _, h.head, .inr rfl⟩
  · exact .inl rfl
  · obtain ⟨⟨x, nx, pv⟩, e⟩ := Option.isSome_iff_exists.1 hy
    exact .inr ⟨_, _, h.link y x nx pv e, .inl rfl⟩
theorem LM.lst (h : LM w b0 lb mb row vals) : Lst w lb (Mine w b0 mb) row vals := by
  obtain ⟨lk, L, h1, h2, h3⟩ := h
  exact ⟨mb, lk, L, h1, h2, mine_of_foot h1 h3⟩
theorem LM.move (h : LM w b0 lb mb row vals) (hk : ∀ b, Mine w b0 mb b → b < w.heap.size → W.heap[b]? = w.heap[b]?) : LM W b0 lb mb row vals := by
  obtain ⟨lk, L, h1, h2, h3⟩ := h
  exact ⟨lk, L, h1.move (fun b hb => hk b (mine_of_foot h1 h3 b hb) (h1.foot_lt hb)), h2, h3⟩
theorem LM.below (h : LM w b0 lb mb row vals) (hb : Below w.heap.size w W) : LM W b0 lb mb row vals := h.move fun b _ hl => hb.block b hl
theorem LM.map_obj (h : LM w b0 lb mb row vals) : (∃ es c, w.heap[mb]? = some (.map es c)) ∧ mb < w.heap.size ∧ b0 ≤ w.heap.size := by
  obtain ⟨lk, L, h1, h2, h3⟩ := h
  obtain ⟨es, c, hb, _⟩ := h1.map
  have := h1.foot_lt (.inr (.inl rfl))
  have := h3 mb (.inr (.inl rfl))
  exact ⟨⟨es, c, hb⟩, by omega, by omega⟩
/-- A cell of another type is not of the list. -/
theorem LM.not_mine (h : LM w b0 lb mb row vals) {b : Nat} {cs : Array Value} {t : TypeId} (hb : w.heap[b]? = some (.cells cs t (0, 0))) (h1 : t ≠ 132) (h2 : t ≠ 135) : ¬ Mine w b0 mb b := fun ⟨_, h⟩ => by
  rcases h with rfl | ⟨cs', t', e, q⟩
  · obtain ⟨⟨es, c, e⟩, _⟩ := LM.map_obj ‹_›
    rw [e] at hb; cases hb
  · rw [hb] at e
    cases e
    rcases q with q | q
    · exact h1 q
    · exact h2 q
theorem LM.set (h : LM w b0 lb mb row vals) {b : Nat} {cs : Array Value} {t : TypeId} (hb : w.heap[b]? = some (.cells cs t (0, 0))) (h1 : t ≠ 132) (h2 : t ≠ 135) (o : Nat) (u : Value) : LM (w.setCell ⟨b, o, none⟩ u) b0 lb mb row vals :=
  h.move fun c hc _ => Below.heap_setCell _ _ _ _ fun e => h.not_mine hb h1 h2 (by have e2 : c = b := e; rwa [← e2])
theorem mine_back (hc : Ch w W (Mine w b0 mb)) {b : Nat} (hb : b < w.heap.size) (hm : Mine W b0 mb b) : Mine w b0 mb b := by
  by_cases h : Mine w b0 mb b
  · exact h
  · obtain ⟨h0, hm⟩ := hm
    refine ⟨h0, hm.imp id ?_⟩
    rintro ⟨cs, t, e, q⟩
    exact ⟨cs, t, (hc.block b hb h).symm.trans e, q⟩

theorem push_m (v : Int) (h : LM w b0 lb mb row vals) (hl : vals.length < 100000) :
    Calls Try.prog 30 #[.pointer (some ⟨lb, 0, none⟩), .int .i64 v] w fun e W => e = .returned (.int .i64 ((vals.length : Int) + 1)) ∧ LM W b0 lb mb (row ++ [(vals.length : Int) + 1]) (vals ++ [v]) ∧ Ch w W (Mine w b0 mb) := by
  obtain ⟨lk, L, hL, R, hF⟩ := h
  obtain ⟨p, hp⟩ := getLast_some row
  obtain ⟨x, hx⟩ := rep_link R (h := 0) (.inl rfl)
  have R' : Rep L (row ++ []) vals := by simpa using R
  obtain ⟨hpr, R2⟩ := R'.put v (t := 0) rfl hp
  obtain ⟨i1, i2, i3⟩ := rep_prev_in R' hp
  rw [hpr] at hx
  have hb0 : b0 ≤ w.heap.size := by have := hF lb (.inl rfl); have := hL.foot_lt (.inl rfl); omega
  refine (push_walk v hL (by omega) (by omega) x _ p hx i1 (rep_last R) (wf_small (by omega) (by omega))).mono ?_
  rintro e w' ⟨rfl, h1, h2⟩
  refine ⟨rfl, ⟨updN lk ((vals.length : Int) + 1) w.heap.size, _, ?_, R2, fun b hb => ?_⟩, h2.mono (mine_of_foot hL hF)⟩
  · have e1 : ((vals ++ [v]).length : Int) = (vals.length : Int) + 1 := by simp
    rw [e1]
    simpa using h1
  · rcases foot_put hb with h3 | h3
    · exact hF b h3
    · omega

theorem rem_m {a b : List Int} {h : Int} (hr : LM w b0 lb mb (a ++ h :: b) vals) (hl : vals.length < 100000) :
    Calls Try.prog 56 #[.pointer (some ⟨lb, 0, none⟩), .int .i64 h] w fun e W => (∃ u, e = .returned u) ∧ LM W b0 lb mb (a ++ b) vals ∧ Ch w W (Mine w b0 mb) := by
  obtain ⟨lk, L, hL, R, hF⟩ := hr
  obtain ⟨h0, ⟨v, hv⟩, hn, hp, hne1, hne2, R2⟩ := R.remove
  have hb := R.bd h (by simp)
  have bdn : ∀ y, (L y).isSome → 0 ≤ y ∧ y ≤ vals.length := fun y hy => by
    rcases (R.dom y).1 hy with rfl | hm
    · omega
    · have := R.bd y hm; omega
  have b1 := bdn _ hn
  have b2 := bdn _ hp
  refine (remove_walk h hL h0 v _ _ hv hp hn hne2 hne1 (wf_small (by omega) (by omega)) (wf_small (by omega) (by omega)) (wf_small (by omega) (by omega))).mono ?_
  rintro e w' ⟨rfl, h1, h2⟩
  refine ⟨⟨_, rfl⟩, ⟨lk, _, ?_, R2, fun b hb => hF b (foot_remove hb)⟩, h2.mono (mine_of_foot hL hF)⟩
  have e1 : (a ++ h :: b).length + 1 - 1 = (a ++ b).length + 1 := by simp; omega
  rw [e1] at h1
  exact h1
theorem rem_m_none {h : Int} (hr : LM w b0 lb mb row vals) (hm : h ∉ row) (hwh : (Lit.int .i64 h).wf = true) :
    Calls Try.prog 56 #[.pointer (some ⟨lb, 0, none⟩), .int .i64 h] w fun e W => (∃ u, e = .returned u) ∧ LM W b0 lb mb row vals ∧ Ch w W (Mine w b0 mb) :=
  (remove_lst_none hr.lst hm hwh).mono fun e W' ⟨h1, h2⟩ => ⟨⟨_, h1⟩, by rw [← h2]; exact hr, by rw [← h2]; exact Ch.refl _ _⟩
theorem new_m (w : World) : Calls Try.prog 28 #[] w fun e W => ∃ lb mb, e = .returned (.pointer (some ⟨lb, 0, none⟩)) ∧ LM W w.heap.size lb mb [] [] ∧ Below w.heap.size w W := by
  refine (new_walk w).mono ?_
  rintro e w' ⟨rfl, h1, h2⟩
  refine ⟨_, _, rfl, ⟨_, _, h1, Rep.new _, fun b hb => ?_⟩, h2⟩
  rcases hb with rfl | rfl | ⟨y, _, rfl⟩
  · omega
  · exact Nat.le_refl _
  · exact Nat.le_add_right _ _

theorem nextR_mem (row : List Int) (h : Int) : nextR row h = 0 ∨ nextR row h ∈ row := by
  unfold nextR
  split
  · cases e : row[0]? with
    | none => exact .inl rfl
    | some y => exact .inr (List.mem_of_getElem? e)
  · split
    · cases e : row[row.idxOf h + 1]? with
      | none => exact .inl rfl
      | some y => exact .inr (List.mem_of_getElem? e)
    · exact .inl rfl
end

/-- The handle that was told last. -/
def lastH (pre : List (Int × Int)) : Int := ((pre.getLast?).map (·.1)).getD 0
theorem lastH_snoc (pre : List (Int × Int)) (x : Int × Int) : lastH (pre ++ [x]) = x.1 := by simp [lastH]
/-- The handle that is told next, or 0. -/
def pend (rowF : List (Int × Int) → List Int) (pre : List (Int × Int)) : Int := nextR (rowF pre) (lastH pre)
/-- What holds ahead of each round. -/
def LoopAt (M : Nat) (Bn b0 lb mb : Nat) (rowF valsF : List (Int × Int) → List Int) (pre : List (Int × Int)) (W : World) : Prop :=
  LM W b0 lb mb (rowF pre) (valsF pre) ∧ Boxed W Bn 42 (.pointer (some ⟨lb, 0, none⟩)) ∧ (valsF pre).length < 100000 ∧ (pend rowF pre = 0 ∨ (lastH pre < pend rowF pre ∧ pend rowF pre ≤ M))

def meas (M : Nat) (p : Value) : Nat := if RowKit.intOf p = 0 then 0 else ((M : Int) + 1 - RowKit.intOf p).toNat
theorem meas_less {M : Nat} {q q2 : Int} (h2 : ¬ q = 0) (h3 : q = 0 ∨ q ≤ M) (h1 : q2 = 0 ∨ (q < q2 ∧ q2 ≤ M)) : meas M (.int .i64 q2) < meas M (.int .i64 q) := by
  unfold meas
  rw [show RowKit.intOf (.int .i64 q) = q from rfl, show RowKit.intOf (.int .i64 q2) = q2 from rfl]
  split <;> omega

set_option maxRecDepth 100000 in
set_option maxHeartbeats 2000000 in
theorem all_iter (n : Nat) (hn : 1 ≤ n) (M : Nat) (Bn b0 lb mb : Nat) (rowF valsF : List (Int × Int) → List Int) (w : World) :
    XRange.Iter Fence.wide n Try.prog 96 #[.pointer (some ⟨Bn, 0, none⟩)] (fun x : Int × Int => #[.int .i64 x.1, .int .i64 x.2])
      (fun pre x => x.1 = pend rowF pre ∧ pend rowF pre ≠ 0 ∧ x.1 ∈ rowF pre ∧ x.2 = getV (rowF pre) (valsF pre) x.1) (fun xs => pend rowF xs = 0) (LoopAt M Bn b0 lb mb rowF valsF) w := by
  intro l J Jx W hW _ hJL hY h0
  have hA := hJL _ _ h0
  obtain ⟨hL, hBn, hv, _⟩ := hA
  have hc0 := hBn.cell
  have hnx := Aside0.mk (next_lst (h := 0) hL.lst (by decide))
  have e0 : nextR (rowF []) 0 = pend rowF [] := rfl
  rw [e0] at hnx
  replace h0 := Aside0.mk h0
  clear e0 hL hBn hv
  replace hJL := Aside0.mk hJL
  replace hY := Aside0.mk hY
  refine callsIn_of_wp Try.func96 rfl trivial ?_ rfl
  simp only [Try.ntmps96, List.size_toArray, List.length_cons, List.length_nil, Nat.reduceAdd, Nat.reduceSub, Array.replicate_succ, Array.replicate_zero, List.push_toArray, List.append_toArray, List.nil_append, List.cons_append]
  gi_wp2_with (refine ⟨trivial, ?_⟩; gi_at_call 57; refine (callsIn_wide.2 hnx.out).mono ?_; rintro e w' ⟨rfl, rfl⟩)
  gi_loopw [3] (fun p wr => ∃ pre, p = .int .i64 (pend rowF pre) ∧ J pre wr) (fun p _ => meas M p)
  case atStart => exact ⟨[], rfl, h0.out⟩
  case round =>
    clear h0 hc0 hnx
    obtain ⟨pre, rfl, hJ⟩ := hrel
    obtain ⟨hL, hBn, hv, hp⟩ := hJL.out _ _ hJ
    have hc0 := hBn.cell
    by_cases hz : pend rowF pre = 0
    · have hz' : (pend rowF pre != 0) = false := by simp [hz]
      replace hz := Aside0.mk hz
      replace hJ := Aside0.mk hJ
      clear hL hBn hp
      generalize pend rowF pre = q at hz'
      gi_wp2
      go_end0
      exact ⟨⟨_, rfl⟩, .inl ⟨pre, hz.out, hJ.out⟩⟩
    · have hz' : (pend rowF pre != 0) = true := by simp [hz]
      have hm : pend rowF pre ∈ rowF pre := (nextR_mem _ _).resolve_left hz
      have hb := hL.lst.facts.2 _ hm
      have hwf := Aside0.mk (wf_small (x := pend rowF pre) (by omega) (by omega))
      obtain ⟨fn, tmps, assign, body, hy, hR⟩ := hY.out pre (pend rowF pre, getV (rowF pre) (valsF pre) (pend rowF pre)) wr hJ ⟨rfl, hz, hm, rfl⟩
      dsimp only at hy
      have HG := Aside0.mk (get_lst (h := pend rowF pre) hL.lst hwf.out)
      rw [show decide (pend rowF pre ∈ rowF pre) = true from decide_eq_true hm] at HG
      replace hp := Aside0.mk hp
      replace hz := Aside0.mk hz
      clear hJ hL hBn hm
      generalize hq : pend rowF pre = q at hy hR HG hwf hz' hp hz hb
      replace hq := Aside0.mk hq
      generalize hu : getV (rowF pre) (valsF pre) q = u at hy hR HG
      replace hu := Aside0.mk hu
      gi_wp2_with (refine ⟨trivial, ?_⟩; gi_at_call 32; refine (callsIn_wide.2 HG.out).mono ?_; rintro e w' ⟨rfl, rfl⟩)
      refine hR.mono ?_
      rintro e W3 (⟨rfl, hJ3⟩ | ⟨rfl, hJx3⟩)
      · obtain ⟨hL3, hB3, hv3, hp3⟩ := hJL.out _ _ hJ3
        have hc3 := hB3.cell
        have HN := Aside0.mk (next_lst (h := q) hL3.lst hwf.out)
        rw [show nextR (rowF (pre ++ [(q, u)])) q = pend rowF (pre ++ [(q, u)]) from by unfold pend; rw [lastH_snoc]] at HN
        rw [lastH_snoc] at hp3
        replace hJ3 := Aside0.mk hJ3
        replace hp3 := Aside0.mk hp3
        clear hy hR hc0 hL3 hB3
        gi_wp2_with (refine ⟨trivial, ?_⟩; gi_at_call 57; refine (callsIn_wide.2 HN.out).mono ?_; rintro e w' ⟨rfl, rfl⟩)
        go_roundw
        case rel => exact ⟨_, rfl, hJ3.out⟩
        case measure =>
          exact meas_less hz.out (hp.out.imp id (·.2)) hp3.out
      · gi_wp2
        refine bodyPost_ret (results_none rfl _ _ _) rfl ?_
        exact ⟨⟨_, rfl⟩, .inr ⟨_, hJx3⟩⟩
end Go.Proofs.Ytnncomhgclffaaa.LA
