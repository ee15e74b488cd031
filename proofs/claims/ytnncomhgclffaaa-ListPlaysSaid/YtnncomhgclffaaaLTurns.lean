/- The walk of the law ListTurns: it answers true whatever calls come. -/
import Derived.Test.YtnncomhgclffaaaLAwake09
import Derived.Outline
import Derived.OwnWalk
import Derived.LoopTactic
import Derived.Laws.AppendOwn
import Derived.Maps.AppendAt
import Derived.Deep.LoopGhost
namespace Go.Proofs.Ytnncomhgclffaaa.LS
open Go.RowKit Go.Proofs.YtnncomhgclffaaaW.PrintWords Go.Proofs.YtnncomhgclffaaaL Go.Proofs.YtnncomhgclffaaaL.Row Go.Proofs.Ytnncomhgclffaaa.LL

/-- A call of the law, as it lies in memory. -/
def opR (x : Int × Int × ByteArray) (cs : List Value) : Prop := cs = [.int .i64 x.1, .int .i64 x.2.1, .string x.2.2] ∧ (Lit.int .i64 x.2.1).wf = true

theorem op_cells {w : World} {A : Option Addr} {len : Nat} {xs : List (Int × Int × ByteArray)} (hr : ReadsRow opR 3 w A len xs) {k : Nat} (hk : k < len) :
    ∃ (b off : Nat) (kd h : Int) (v : ByteArray), A = some ⟨b, off, none⟩ ∧ b < w.heap.size ∧ (Lit.int .i64 h).wf = true ∧ w.cell? ⟨b, off + k * 3, none⟩ = some (.int .i64 kd) ∧ w.cell? ⟨b, off + k * 3 + 1, none⟩ = some (.int .i64 h) ∧ w.cell? ⟨b, off + k * 3 + 2, none⟩ = some (.string v) := by
  obtain ⟨hl, _, hread⟩ := hr
  obtain ⟨ad, rfl, hc⟩ := hread (by omega)
  obtain ⟨c0, _, ⟨rfl, _⟩, h0⟩ := hc 0 xs[0] (List.getElem?_eq_getElem (by omega))
  obtain ⟨c, _, ⟨rfl, hw⟩, h⟩ := hc k xs[k] (List.getElem?_eq_getElem (by omega))
  have hs : ad.spot = none := by
    have := h0 0 _ rfl
    simp only [Nat.zero_mul, Nat.add_zero, Addr.add, if_true, World.cell?] at this
    split at this
    · split at this
      · cases this
      · rename_i hn
        simpa using hn
    · cases this
  obtain ⟨b, off, sp⟩ := ad
  dsimp only at hs
  subst hs
  have ha : ∀ n, (⟨b, off, none⟩ : Addr).add n = ⟨b, off + n, none⟩ := fun n => by
    unfold Addr.add
    split
    · rename_i e; subst e; rfl
    · rfl
  have e0 := h 0 _ rfl
  have e1 := h 1 _ rfl
  have e2 := h 2 _ rfl
  rw [ha] at e0 e1 e2
  exact ⟨b, off, _, _, _, rfl, World.block_lt_of_cell? w _ e0, hw, e0, e1, e2⟩

def Loop1 (w : World) (lb : Nat) (k : Nat) (wr : World) : Prop :=
  ∃ row vals, Lst wr lb (fun b => w.heap.size ≤ b) row vals ∧ Below w.heap.size w wr ∧ vals.length ≤ k ∧ row.length ≤ k

theorem Loop1.step {w W w' : World} {lb k : Nat} {row' : List Int} {vals' : List ByteArray} {r : Value} {e : Ending} (hB : Below w.heap.size w W)
    (hP : LPost W (fun b => w.heap.size ≤ b) lb r row' vals' e w') (hv : vals'.length ≤ k) (hr : row'.length ≤ k) : Loop1 w lb k w' :=
  ⟨row', vals', hP.2.1.mono (fun b hb => by have := hB.size; rcases hb with h | h <;> omega), hP.below hB (fun _ h => h), hv, hr⟩

/-- A call of the loop, whatever it is. -/
def Did (w : World) (lb k : Nat) (P : Value → Prop) (e : Ending) (w' : World) : Prop := (∃ r, P r ∧ e = .returned r) ∧ Loop1 w lb k w'

section
variable {w W : World} {lb k : Nat} {row : List Int} {vals : List ByteArray}
theorem push_did (v : ByteArray) (h : Lst W lb (fun b => w.heap.size ≤ b) row vals) (hB : Below w.heap.size w W) (hv : vals.length ≤ k) (hr : row.length ≤ k) (hk : k < 1000) :
    Calls Try.prog 44 #[.pointer (some ⟨lb, 0, none⟩), .string v] W (Did w lb (k + 1) (fun r => ∃ n, r = .int .i64 n)) :=
  (push_lst v h (by omega)).mono fun e w' hP => ⟨⟨_, ⟨_, rfl⟩, hP.1⟩, Loop1.step hB hP (by simp; omega) (by simp; omega)⟩
theorem before_did (v : ByteArray) (x : Int) (hwx : (Lit.int .i64 x).wf = true) (h : Lst W lb (fun b => w.heap.size ≤ b) row vals) (hB : Below w.heap.size w W) (hv : vals.length ≤ k) (hr : row.length ≤ k) (hk : k < 1000) :
    Calls Try.prog 46 #[.pointer (some ⟨lb, 0, none⟩), .int .i64 x, .string v] W (Did w lb (k + 1) (fun r => ∃ n, r = .int .i64 n)) := by
  by_cases hm : x ∈ row
  · obtain ⟨a, b, rfl⟩ := List.append_of_mem hm
    exact (before_lst v h (by omega)).mono fun e w' hP => ⟨⟨_, ⟨_, rfl⟩, hP.1⟩, Loop1.step hB hP (by simp; omega) (by simp at hr ⊢; omega)⟩
  · refine (before_lst_none v h hm hwx).mono ?_
    rintro e w' ⟨rfl, rfl⟩
    exact ⟨⟨_, ⟨_, rfl⟩, rfl⟩, row, vals, h, hB, by omega, by omega⟩
theorem remove_did (x : Int) (hwx : (Lit.int .i64 x).wf = true) (h : Lst W lb (fun b => w.heap.size ≤ b) row vals) (hB : Below w.heap.size w W) (hv : vals.length ≤ k) (hr : row.length ≤ k) (hk : k < 1000) :
    Calls Try.prog 49 #[.pointer (some ⟨lb, 0, none⟩), .int .i64 x] W (Did w lb (k + 1) (fun r => ∃ s b, r = .tuple #[.string s, .bool b])) := by
  by_cases hm : x ∈ row
  · obtain ⟨a, b, rfl⟩ := List.append_of_mem hm
    exact (remove_lst h (by omega)).mono fun e w' hP => ⟨⟨_, ⟨_, _, rfl⟩, hP.1⟩, Loop1.step hB hP (by omega) (by simp at hr ⊢; omega)⟩
  · refine (remove_lst_none h hm hwx).mono ?_
    rintro e w' ⟨rfl, rfl⟩
    exact ⟨⟨_, ⟨_, _, rfl⟩, rfl⟩, row, vals, h, hB, by omega, by omega⟩
end

theorem Try.info3 : (Try.prog.info? 3).map (fun i => (i.zero, i.size, i.bytes)) = some (some (.int .i64 0), 1, 8) := by kernel_rfl

theorem next_at' {row : List Int} {j : Nat} (hn : row.Nodup) (hb : ∀ x ∈ row, 1 ≤ x) (hj : j < row.length) : nextR row row[j] = (row[j + 1]?).getD 0 := by
  have hm : row[j] ∈ row := List.getElem_mem hj
  have h0 : row[j] ≠ 0 := by have := hb _ hm; omega
  unfold nextR
  rw [if_neg h0, if_pos hm, List.Nodup.idxOf_getElem hn]
theorem prev_at' {row : List Int} {j : Nat} (hn : row.Nodup) (hb : ∀ x ∈ row, 1 ≤ x) (hj : j < row.length) : prevR row row[j] = if j = 0 then 0 else (row[j - 1]?).getD 0 := by
  have hm : row[j] ∈ row := List.getElem_mem hj
  have h0 : row[j] ≠ 0 := by have := hb _ hm; omega
  unfold prevR
  rw [if_neg h0, if_pos hm, List.Nodup.idxOf_getElem hn]

set_option maxHeartbeats 4000000 in
set_option maxRecDepth 100000 in
theorem turns_walk (A : Option Addr) (len cap : Nat) (xs : List (Int × Int × ByteArray)) (w : World) (hr : ReadsRow opR 3 w A len xs) :
    Calls Try.prog 10 #[.slice A len cap] w fun e w' => e = .returned (.bool true) ∧ Below w.heap.size w w' := by
  have HR := Aside0.mk hr
  have hlen : len ≤ 9223372036854775807 := hr.2.1
  clear hr
  by_cases hbig : 60 < len
  · go_enter Try.func10, Try.ntmps10
    go_wp2_with (first | (go_at_call 42; refine (new_lst _).mono ?_; rintro e w1 ⟨rfl, h1, b1⟩; replace b1 := Aside0.mk b1; clear h1) | (go_at_call 27; refine (awake_walk _).mono ?_; rintro e w2 ⟨rfl, b2⟩; replace b2 := Aside0.mk b2))
    go_ret
    exact ⟨rfl, b1.out.trans (b2.out.mono b1.out.size)⟩
  · go_enter Try.func10, Try.ntmps10
    go_wp2_with (go_at_call 42; refine (new_lst _).mono ?_; rintro e w1 ⟨rfl, h1, b1⟩; replace h1 := Aside0.mk h1; replace b1 := Aside0.mk b1)
    obtain ⟨B, hB⟩ : ∃ B, B = w.heap.size := ⟨_, rfl⟩
    have HB := Aside0.mk hB
    clear hB
    go_loopw [25] (fun i wr => ∃ k : Nat, i = .int .i64 k ∧ k ≤ len ∧ Loop1 w (w.heap.size + 2) k wr) (fun i _ => len - (intOf i).toNat)
    case atStart => exact ⟨0, rfl, Nat.zero_le _, [], [], h1.out, b1.out, Nat.le_refl _, Nat.le_refl _⟩
    case round =>
      obtain ⟨k, rfl, hk, hL⟩ := hrel
      replace hL := Aside0.mk hL
      by_cases hlt : k < len
      · obtain ⟨b, off, kd, h, v, rfl, hbl, hwh, q0, q1, q2⟩ := op_cells HR.out hlt
        obtain ⟨row, vals, hLst, hBel, hv, hrw⟩ := hL.out
        clear hL
        have f0 : wr.cell? ⟨b, off + k * 3, none⟩ = some (.int .i64 kd) := (hBel.cell (p := ⟨b, off + k * 3, none⟩) hbl).trans q0
        have f1 : wr.cell? ⟨b, off + k * 3 + 1, none⟩ = some (.int .i64 h) := (hBel.cell (p := ⟨b, off + k * 3 + 1, none⟩) hbl).trans q1
        have f2 : wr.cell? ⟨b, off + k * 3 + 2, none⟩ = some (.string v) := (hBel.cell (p := ⟨b, off + k * 3 + 2, none⟩) hbl).trans q2
        clear q0 q1 q2
        have hk6 : k < 1000 := by omega
        have hA := Aside0.mk (hLst.below ((Below.refl _ _).alloc (Nat.le_refl _) (.cells #[.int .i64 kd, .int .i64 h, .string v] 74)))
        have hAB := Aside0.mk (hBel.alloc hBel.size (.cells #[.int .i64 kd, .int .i64 h, .string v] 74))
        clear hLst hBel
        go_wp2_with (first | (go_at_call 44; refine (push_did (w := w) v hA.out hAB.out hv hrw hk6).mono ?_; rintro e w2 ⟨⟨r, ⟨n, rfl⟩, rfl⟩, hD⟩; replace hD := Aside0.mk hD) | (go_at_call 46; refine (before_did (w := w) v h hwh hA.out hAB.out hv hrw hk6).mono ?_; rintro e w2 ⟨⟨r, ⟨n, rfl⟩, rfl⟩, hD⟩; replace hD := Aside0.mk hD) | (go_at_call 49; refine (remove_did (w := w) h hwh hA.out hAB.out hv hrw hk6).mono ?_; rintro e w2 ⟨⟨r, ⟨s, q, rfl⟩, rfl⟩, hD⟩; replace hD := Aside0.mk hD))
        all_goals go_roundw
        case rel => exact ⟨k + 1, by go_num, by omega, hD.out⟩
        case measure => simp [intOf]; omega
        case rel => exact ⟨k + 1, by go_num, by omega, hD.out⟩
        case measure => simp [intOf]; omega
        case rel => exact ⟨k + 1, by go_num, by omega, hD.out⟩
        case measure => simp [intOf]; omega
        case rel => exact ⟨k + 1, by go_num, by omega, row, vals, hA.out, hAB.out, by omega, by omega⟩
        case measure => simp [intOf]; omega
      · obtain rfl : k = len := by omega
        obtain ⟨row, vals, hLst, hBel, hv, hrw⟩ := hL.out
        clear hL
        obtain ⟨hnd, hbd⟩ := hLst.facts
        have hpos : ∀ x ∈ row, 1 ≤ x := fun x hx => (hbd x hx).1
        replace hpos := Aside0.mk hpos
        replace hnd := Aside0.mk hnd
        have hLst := Aside0.mk hLst.bound
        replace hBel := Aside0.mk hBel
        have hwf : ∀ x ∈ row, (Lit.int .i64 x).wf = true := fun x hx => wf_small (by have := (hbd x hx).1; omega) (by have := (hbd x hx).2; omega)
        replace hwf := Aside0.mk hwf
        clear hbd
        obtain ⟨i0, hi, hz0, hz1, hz2⟩ := info_parts Try.info3
        replace hi := Aside0.mk hi
        replace hz0 := Aside0.mk hz0
        replace hz1 := Aside0.mk hz1
        replace hz2 := Aside0.mk hz2
        go_wp2_with (go_at_call 51; refine (next_lst hLst.out (by decide)).mono ?_; rintro e w2 ⟨rfl, rfl⟩)
        rw [show nextR row 0 = (row[0]?).getD 0 from rfl]
        obtain ⟨W1, rfl⟩ : ∃ W1 : World, W1 = wr := ⟨_, rfl⟩
        go_loopg [6, 7] row.length (fun g v h W2 => ∃ j : Nat, j ≤ row.length ∧ g = row.length - j ∧ h = .int .i64 ((row[j]?).getD 0) ∧ W2.ownsRow W1.heap.size 3 1 v j ((row.take j).map (Value.int .i64)) ∧ Below W1.heap.size W1 W2)
        case atStart => exact ⟨0, Nat.zero_le _, rfl, rfl, World.ownsRow_nil _ _ _ _, Below.refl _ _⟩
        case round =>
          obtain ⟨j, hj, hg, rfl, hown, hb2⟩ := hrel
          replace hg := Aside0.mk hg
          have hm60 : row.length ≤ 60 := by omega
          have hsz2 := hb2.size
          obtain ⟨a2, cap2, rfl⟩ := owns_form hown
          replace hb2 := Aside0.mk hb2
          by_cases hjl : j < row.length
          · obtain ⟨x, hx⟩ : ∃ x, row[j] = x := ⟨_, rfl⟩
            have hxm : x ∈ row := hx ▸ List.getElem_mem hjl
            have hx1 : 1 ≤ x := hpos.out x hxm
            have hwx := hwf.out x hxm
            have hnx : nextR row x = (row[j + 1]?).getD 0 := hx ▸ next_at' hnd.out hpos.out hjl
            have htk : (row.take j).map (Value.int .i64) ++ [Value.int .i64 x] = (row.take (j + 1)).map (Value.int .i64) := by
              rw [List.take_succ_eq_append_getElem hjl, hx, List.map_append]; rfl
            rw [List.getElem?_eq_getElem hjl, hx]
            simp only [Option.getD_some]
            have hxn : (x != 0) = true := by rw [bne_iff_ne]; omega
            replace hnx := Aside0.mk hnx
            replace htk := Aside0.mk htk
            replace hown := Aside0.mk hown
            clear hx hxm
            go_wp2_with (first | (at_builtin; refine wpList_append_own _ rfl _ _ 40 rfl W1.heap.size 3 i0 (.int .i64 0) 1 8 Try.underlying40 hi.out hz0.out hz1.out hz2.out rfl (by decide) _ _ _ rfl (hown.out.alloc _) ⟨wr.heap.size, 0, none⟩ 1 1 [.int .i64 x] rfl rfl (cell_one_new _ _ _) (by simp [Value.oneCell']) (by unfold maxLen; omega) (by omega) (by simp; omega) ?_; intro v1 w1 hown1 hgr1 _; replace hown1 := Aside0.mk hown1; replace hgr1 := Aside0.mk hgr1) | fail)
            have hb3 := (hb2.out.alloc hb2.out.size (.cells #[.int .i64 x] 3)).grown hgr1.out (by simp; omega) (fun q e => own_base hown.out q e)
            have hL3 := Aside0.mk (hLst.out.below (hb3.mono (Nat.le_refl _)))
            replace hb3 := Aside0.mk hb3
            refine (next_lst hL3.out hwx).mono ?_
            rintro e w2 ⟨rfl, rfl⟩
            rw [hnx.out]
            go_wp2_with fail
            go_roundg (row.length - (j + 1))
            case measure => rw [hg.out]; omega
            case rel => exact ⟨j + 1, by omega, rfl, rfl, by have := hown1.out; rw [htk.out] at this; exact this, hb3.out⟩
          · obtain rfl : j = row.length := by omega
            rw [List.getElem?_eq_none (Nat.le_refl _)]
            simp only [Option.getD_none]
            rw [List.take_of_length_le (Nat.le_refl _)] at hown
            clear hg hjl
            have hL3 := Aside0.mk (hLst.out.below hb2.out)
            replace hown := Aside0.mk hown
            go_wp2_with fail
            obtain ⟨m, hmr⟩ : ∃ m, m = row.length := ⟨_, rfl⟩
            have HM := Aside0.mk hmr
            rw [← hmr] at hown ⊢
            rw [← hmr] at hm60
            clear hmr hj
            go_loop [8, 70] (fun h i => ∃ j : Nat, j ≤ m ∧ i = .int .i64 j ∧ h = .int .i64 (if j = 0 then 0 else (row[m - j]?).getD 0)) (fun _ i => m - (intOf i).toNat)
            case atStart => exact ⟨0, Nat.zero_le _, rfl, rfl⟩
            case round =>
              obtain ⟨j, hj, rfl, rfl⟩ := hrel
              by_cases hjl : j < m
              · have hji : m - 1 - j < row.length := by rw [← HM.out]; omega
                obtain ⟨x, hx⟩ : ∃ x, row[m - 1 - j] = x := ⟨_, rfl⟩
                obtain ⟨h, hh⟩ : ∃ h, (if j = 0 then (0 : Int) else (row[m - j]?).getD 0) = h := ⟨_, rfl⟩
                have hwh : (Lit.int .i64 h).wf = true ∧ prevR row h = x := by
                  by_cases hj0 : j = 0
                  · subst hj0
                    rw [if_pos rfl] at hh
                    subst hh
                    refine ⟨by decide, ?_⟩
                    unfold prevR
                    rw [if_pos rfl, List.getLast?_eq_getElem?, ← HM.out, ← hx]
                    simp only [Nat.sub_zero] at hji ⊢
                    rw [List.getElem?_eq_getElem hji]; rfl
                  · rw [if_neg hj0] at hh
                    have hi2 : m - j < row.length := by rw [← HM.out]; omega
                    rw [List.getElem?_eq_getElem hi2] at hh
                    simp only [Option.getD_some] at hh
                    refine ⟨hh ▸ hwf.out _ (List.getElem_mem hi2), ?_⟩
                    rw [← hh, prev_at' hnd.out hpos.out hi2, if_neg (by omega)]
                    have e : m - j - 1 = m - 1 - j := by omega
                    rw [e, List.getElem?_eq_getElem hji, hx]; rfl
                obtain ⟨g, cap3, hv, _, _⟩ := owns_form1 hown.out (by omega)
                obtain ⟨rfl, rfl⟩ : a2 = some ⟨g, 0, none⟩ ∧ cap2 = cap3 := by injection hv with h1 _ h2; exact ⟨h1, h2⟩
                have hc : wr.cell? ⟨g, m - 1 - j, none⟩ = some (.int .i64 x) := by
                  rw [hown.out.cellAt _ (by omega), List.getElem?_map, List.getElem?_eq_getElem hji, hx]; rfl
                have hnext : (if j + 1 = 0 then (0 : Int) else (row[m - (j + 1)]?).getD 0) = x := by
                  rw [if_neg (by omega), show m - (j + 1) = m - 1 - j from by omega, List.getElem?_eq_getElem hji, hx]; rfl
                rw [hh]
                replace hwh := Aside0.mk hwh
                replace hnext := Aside0.mk hnext
                clear hx hh hv
                have hi1 : (0 : Int) ≤ (m : Int) - 1 - j := by omega
                have hi2 : (m : Int) - 1 - j < m := by omega
                go_wp2_with (go_at_call 53; refine (prev_lst hL3.out hwh.out.1).mono ?_; rintro e w2 ⟨rfl, rfl⟩; rw [hwh.out.2])
                go_round
                case rel => exact ⟨j + 1, by omega, by go_num, by rw [hnext.out]⟩
                case measure => simp [intOf]; omega
              · obtain rfl : j = m := by omega
                have hend : (if j = 0 then (0 : Int) else (row[j - j]?).getD 0) = if j = 0 then 0 else (row[0]?).getD 0 := by rw [Nat.sub_self]
                rw [hend]
                clear hend hjl hj
                have hlen2 : row.length < 100000 := by rw [← HM.out]; omega
                replace hlen2 := Aside0.mk hlen2
                by_cases hj0 : j = 0
                · subst hj0
                  have hL := len_lst hL3.out hlen2.out
                  rw [← HM.out] at hL
                  replace hL := Aside0.mk hL
                  simp only [if_true]
                  go_wp2_with (first | (go_at_call 54; refine hL.out.mono ?_; rintro e w2 ⟨rfl, rfl⟩) | (go_at_call 27; refine (awake_walk _).mono ?_; rintro e w2 ⟨rfl, b2⟩; replace b2 := Aside0.mk b2))
                  go_ret
                  exact ⟨rfl, hBel.out.trans ((hb2.out.mono hBel.out.size).trans (b2.out.mono (Nat.le_trans hBel.out.size hb2.out.size)))⟩
                · have hL := len_lst hL3.out hlen2.out
                  rw [← HM.out] at hL
                  replace hL := Aside0.mk hL
                  have h0 : 0 < row.length := by rw [← HM.out]; omega
                  rw [if_neg hj0, List.getElem?_eq_getElem h0]
                  simp only [Option.getD_some]
                  have hp := prev_lst hL3.out (hwf.out _ (List.getElem_mem h0))
                  rw [prev_at' hnd.out hpos.out h0, if_pos rfl] at hp
                  generalize row[0] = x0 at hp ⊢
                  replace hp := Aside0.mk hp
                  have hjb : ((j : Int) == 0) = false := by rw [beq_eq_false_iff_ne]; omega
                  clear hj0 h0
                  go_wp2_with (first | (go_at_call 53; refine hp.out.mono ?_; rintro e w2 ⟨rfl, rfl⟩) | (go_at_call 54; refine hL.out.mono ?_; rintro e w2 ⟨rfl, rfl⟩) | (go_at_call 27; refine (awake_walk _).mono ?_; rintro e w2 ⟨rfl, b2⟩; replace b2 := Aside0.mk b2))
                  go_ret
                  exact ⟨rfl, hBel.out.trans ((hb2.out.mono hBel.out.size).trans (b2.out.mono (Nat.le_trans hBel.out.size hb2.out.size)))⟩
end Go.Proofs.Ytnncomhgclffaaa.LS
