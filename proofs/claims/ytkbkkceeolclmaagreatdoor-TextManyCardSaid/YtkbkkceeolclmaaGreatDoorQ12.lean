/- The document's terms. Rows of conditions that a call has made. -/
import Derived.Laws.OwnMore
import Derived.Test.YtkbkkceeolclmaaGreatDoorQ11
import Derived.Test.YtkbkkceeolclmaaGreatDoorQLMap
import Derived.Test.YtkbkkceeolclmaaGreatDoorQYReg
set_option linter.unusedVariables false
set_option linter.unusedSimpArgs false
namespace Go.Proofs.YtkbkkceeolclmaaGreatDoor.X
open Go.RowKit Go.TX Go.Proofs.YtkbkkceeolclmaaGreatDoorW.PrintWords
theorem ix0 (p q r : Bool) (x y z : Int) (w : World) : (Instr.index 70 (.agg #[.bool p, .int .i64 x, .bool q, .int .i64 y, .bool r, .int .i64 z]) (.int .i64 0)).run Tryz.prog w = .ok (.agg #[.bool p, .int .i64 x]) w := by kernel_rfl
theorem ix1 (p q r : Bool) (x y z : Int) (w : World) : (Instr.index 70 (.agg #[.bool p, .int .i64 x, .bool q, .int .i64 y, .bool r, .int .i64 z]) (.int .i64 1)).run Tryz.prog w = .ok (.agg #[.bool q, .int .i64 y]) w := by kernel_rfl
theorem ix2 (p q r : Bool) (x y z : Int) (w : World) : (Instr.index 70 (.agg #[.bool p, .int .i64 x, .bool q, .int .i64 y, .bool r, .int .i64 z]) (.int .i64 2)).run Tryz.prog w = .ok (.agg #[.bool r, .int .i64 z]) w := by kernel_rfl
attribute [local go_sem high] ix0 ix1 ix2
abbrev o79 (a b c d e f : Int) : Obj := .cells #[.int .i64 a, .int .i64 b, .int .i64 c, .int .i64 d, .int .i64 e, .int .i64 f] 79
abbrev T3A (a b c : Tm) : Value := .agg #[.bool a.1, .int .i64 a.2, .bool b.1, .int .i64 b.2, .bool c.1, .int .i64 c.2]
abbrev T3R (a b c : Tm) : Value := .agg #[evR a.1, .int .i64 a.2, evR b.1, .int .i64 b.2, evR c.1, .int .i64 c.2]
set_option maxRecDepth 100000 in
set_option maxHeartbeats 1000000 in
theorem ref59 (a b c : Tm) (w : World) : Calls Tryz.prog 59 #[T3A a b c] w fun e W => e = .returned (T3R a b c) ∧ Below w.heap.size w W := by
  have hB0 := Aside0.mk ((((Below.refl w.heap.size w).alloc (Nat.le_refl _) (.cells #[.bool a.1, .int .i64 a.2, .bool b.1, .int .i64 b.2, .bool c.1, .int .i64 c.2] 70)).alloc (by simp) (o79 0 0 0 0 0 0)).alloc (by simp; omega) (o79 0 0 0 0 0 0))
  have hr0 := blk_alloc (blk_new (w.alloc (.cells #[.bool a.1, .int .i64 a.2, .bool b.1, .int .i64 b.2, .bool c.1, .int .i64 c.2] 70)) (o79 0 0 0 0 0 0)) (o79 0 0 0 0 0 0)
  have ho0 := blk_new ((w.alloc (.cells #[.bool a.1, .int .i64 a.2, .bool b.1, .int .i64 b.2, .bool c.1, .int .i64 c.2] 70)).alloc (o79 0 0 0 0 0 0)) (o79 0 0 0 0 0 0)
  simp only [World.size_alloc] at hr0 ho0
  replace hr0 := Aside0.mk hr0
  replace ho0 := Aside0.mk ho0
  go_enter Tryz.func59, Tryz.ntmps59
  go_wp2
  go_loopw [7] (fun i wr => ∃ q : Nat, i = .int .i64 q ∧ q ≤ 3 ∧ Below w.heap.size w wr ∧ wr.heap[w.heap.size + 1]? = some (o79 0 0 0 0 0 0) ∧ wr.heap[w.heap.size + 1 + 1]? = some (o79 (if 0 < q then evI a.1 else 0) (if 0 < q then a.2 else 0) (if 1 < q then evI b.1 else 0) (if 1 < q then b.2 else 0) (if 2 < q then evI c.1 else 0) (if 2 < q then c.2 else 0))) (fun i _ => 3 - (intOf i).toNat)
  case atStart => exact ⟨0, rfl, by omega, hB0.out, hr0.out, ho0.out⟩
  case round =>
    obtain ⟨q, rfl, hq, hBw, hrw, how⟩ := hrel
    clear hB0 hr0 ho0
    obtain ⟨a1, a2⟩ := a
    obtain ⟨b1, b2⟩ := b
    obtain ⟨c1, c2⟩ := c
    replace hBw := Aside0.mk hBw
    rcases (show q = 0 ∨ q = 1 ∨ q = 2 ∨ q = 3 by omega) with rfl | rfl | rfl | rfl
    · have ho := Aside0.mk (show wr.heap[w.heap.size + 1 + 1]? = some (o79 (0) (0) (0) (0) (0) (0)) from how)
      have p0 := (blk_cell ho.out 0).trans (show _ = some (Value.int .i64 0) from rfl)
      have p1 := (blk_cell ho.out 1).trans (show _ = some (Value.int .i64 0) from rfl)
      have f0 := blk_frozen ho.out 0
      have f1 := blk_frozen ho.out 1
      have n0 : w.heap.size + 1 + 1 < wr.heap.size := blk_lt ho.out
      have n1 : wr.heap.size ≠ w.heap.size + 1 + 1 := by omega
      replace hrw := Aside0.mk hrw
      clear how
      cases a1
      · go_wp2
        go_roundw
        case rel => exact ⟨1, rfl, by omega, (hBw.out.setCell (p := ⟨w.heap.size + 1 + 1, 1, none⟩) (by show w.heap.size ≤ w.heap.size + 1 + 1; omega) _).alloc (by have := hBw.out.size; simp [World.setCell]; omega) _, blk_alloc (blk_far hrw.out (p := ⟨w.heap.size + 1 + 1, 1, none⟩) (by show w.heap.size + 1 ≠ w.heap.size + 1 + 1; omega) _) _, blk_alloc (blk_put ho.out 1 _ rfl) _⟩
        case measure => simp [intOf]
      · go_wp2
        go_roundw
        case rel => exact ⟨1, rfl, by omega, ((hBw.out.setCell (p := ⟨w.heap.size + 1 + 1, 1, none⟩) (by show w.heap.size ≤ w.heap.size + 1 + 1; omega) _).setCell (p := ⟨w.heap.size + 1 + 1, 0, none⟩) (by show w.heap.size ≤ w.heap.size + 1 + 1; omega) _).alloc (by have := hBw.out.size; simp [World.setCell]; omega) _, blk_alloc (blk_far (blk_far hrw.out (p := ⟨w.heap.size + 1 + 1, 1, none⟩) (by show w.heap.size + 1 ≠ w.heap.size + 1 + 1; omega) _) (p := ⟨w.heap.size + 1 + 1, 0, none⟩) (by show w.heap.size + 1 ≠ w.heap.size + 1 + 1; omega) _) _, blk_alloc (blk_put (blk_put ho.out 1 _ rfl) 0 _ rfl) _⟩
        case measure => simp [intOf]
    · have ho := Aside0.mk (show wr.heap[w.heap.size + 1 + 1]? = some (o79 (evI a1) (a2) (0) (0) (0) (0)) from how)
      have p0 := (blk_cell ho.out 2).trans (show _ = some (Value.int .i64 0) from rfl)
      have p1 := (blk_cell ho.out 3).trans (show _ = some (Value.int .i64 0) from rfl)
      have f0 := blk_frozen ho.out 2
      have f1 := blk_frozen ho.out 3
      have n0 : w.heap.size + 1 + 1 < wr.heap.size := blk_lt ho.out
      have n1 : wr.heap.size ≠ w.heap.size + 1 + 1 := by omega
      replace hrw := Aside0.mk hrw
      clear how
      cases b1
      · go_wp2
        go_roundw
        case rel => exact ⟨2, rfl, by omega, (hBw.out.setCell (p := ⟨w.heap.size + 1 + 1, 3, none⟩) (by show w.heap.size ≤ w.heap.size + 1 + 1; omega) _).alloc (by have := hBw.out.size; simp [World.setCell]; omega) _, blk_alloc (blk_far hrw.out (p := ⟨w.heap.size + 1 + 1, 3, none⟩) (by show w.heap.size + 1 ≠ w.heap.size + 1 + 1; omega) _) _, blk_alloc (blk_put ho.out 3 _ rfl) _⟩
        case measure => simp [intOf]
      · go_wp2
        go_roundw
        case rel => exact ⟨2, rfl, by omega, ((hBw.out.setCell (p := ⟨w.heap.size + 1 + 1, 3, none⟩) (by show w.heap.size ≤ w.heap.size + 1 + 1; omega) _).setCell (p := ⟨w.heap.size + 1 + 1, 2, none⟩) (by show w.heap.size ≤ w.heap.size + 1 + 1; omega) _).alloc (by have := hBw.out.size; simp [World.setCell]; omega) _, blk_alloc (blk_far (blk_far hrw.out (p := ⟨w.heap.size + 1 + 1, 3, none⟩) (by show w.heap.size + 1 ≠ w.heap.size + 1 + 1; omega) _) (p := ⟨w.heap.size + 1 + 1, 2, none⟩) (by show w.heap.size + 1 ≠ w.heap.size + 1 + 1; omega) _) _, blk_alloc (blk_put (blk_put ho.out 3 _ rfl) 2 _ rfl) _⟩
        case measure => simp [intOf]
    · have ho := Aside0.mk (show wr.heap[w.heap.size + 1 + 1]? = some (o79 (evI a1) (a2) (evI b1) (b2) (0) (0)) from how)
      have p0 := (blk_cell ho.out 4).trans (show _ = some (Value.int .i64 0) from rfl)
      have p1 := (blk_cell ho.out 5).trans (show _ = some (Value.int .i64 0) from rfl)
      have f0 := blk_frozen ho.out 4
      have f1 := blk_frozen ho.out 5
      have n0 : w.heap.size + 1 + 1 < wr.heap.size := blk_lt ho.out
      have n1 : wr.heap.size ≠ w.heap.size + 1 + 1 := by omega
      replace hrw := Aside0.mk hrw
      clear how
      cases c1
      · go_wp2
        go_roundw
        case rel => exact ⟨3, rfl, by omega, (hBw.out.setCell (p := ⟨w.heap.size + 1 + 1, 5, none⟩) (by show w.heap.size ≤ w.heap.size + 1 + 1; omega) _).alloc (by have := hBw.out.size; simp [World.setCell]; omega) _, blk_alloc (blk_far hrw.out (p := ⟨w.heap.size + 1 + 1, 5, none⟩) (by show w.heap.size + 1 ≠ w.heap.size + 1 + 1; omega) _) _, blk_alloc (blk_put ho.out 5 _ rfl) _⟩
        case measure => simp [intOf]
      · go_wp2
        go_roundw
        case rel => exact ⟨3, rfl, by omega, ((hBw.out.setCell (p := ⟨w.heap.size + 1 + 1, 5, none⟩) (by show w.heap.size ≤ w.heap.size + 1 + 1; omega) _).setCell (p := ⟨w.heap.size + 1 + 1, 4, none⟩) (by show w.heap.size ≤ w.heap.size + 1 + 1; omega) _).alloc (by have := hBw.out.size; simp [World.setCell]; omega) _, blk_alloc (blk_far (blk_far hrw.out (p := ⟨w.heap.size + 1 + 1, 5, none⟩) (by show w.heap.size + 1 ≠ w.heap.size + 1 + 1; omega) _) (p := ⟨w.heap.size + 1 + 1, 4, none⟩) (by show w.heap.size + 1 ≠ w.heap.size + 1 + 1; omega) _) _, blk_alloc (blk_put (blk_put ho.out 5 _ rfl) 4 _ rfl) _⟩
        case measure => simp [intOf]
    · have ho := Aside0.mk (show wr.heap[w.heap.size + 1 + 1]? = some (o79 (evI a1) a2 (evI b1) b2 (evI c1) c2) from how)
      have p0 := (blk_cell ho.out 0).trans (show _ = some (Value.int .i64 (evI a1)) from rfl)
      have p1 := (blk_cell ho.out 1).trans (show _ = some (Value.int .i64 a2) from rfl)
      have p2 := (blk_cell ho.out 2).trans (show _ = some (Value.int .i64 (evI b1)) from rfl)
      have p3 := (blk_cell ho.out 3).trans (show _ = some (Value.int .i64 b2) from rfl)
      have p4 := (blk_cell ho.out 4).trans (show _ = some (Value.int .i64 (evI c1)) from rfl)
      have p5 := (blk_cell ho.out 5).trans (show _ = some (Value.int .i64 c2) from rfl)
      have r0 := (blk_cell hrw 0).trans (show _ = some (Value.int .i64 0) from rfl)
      have f0 := blk_frozen hrw 0
      have r1 := (blk_cell hrw 1).trans (show _ = some (Value.int .i64 0) from rfl)
      have f1 := blk_frozen hrw 1
      have r2 := (blk_cell hrw 2).trans (show _ = some (Value.int .i64 0) from rfl)
      have f2 := blk_frozen hrw 2
      have r3 := (blk_cell hrw 3).trans (show _ = some (Value.int .i64 0) from rfl)
      have f3 := blk_frozen hrw 3
      have r4 := (blk_cell hrw 4).trans (show _ = some (Value.int .i64 0) from rfl)
      have f4 := blk_frozen hrw 4
      have r5 := (blk_cell hrw 5).trans (show _ = some (Value.int .i64 0) from rfl)
      have f5 := blk_frozen hrw 5
      replace hrw := Aside0.mk hrw
      clear how
      go_wp2
      have hr9 := blk_put (blk_put (blk_put (blk_put (blk_put (blk_put (hrw.out) 0 (.int .i64 (evI a1)) rfl) 1 (.int .i64 a2) rfl) 2 (.int .i64 (evI b1)) rfl) 3 (.int .i64 b2) rfl) 4 (.int .i64 (evI c1)) rfl) 5 (.int .i64 c2) rfl
      have z0 := (blk_cell hr9 0).trans (show _ = some (Value.int .i64 (evI a1)) from rfl)
      have z1 := (blk_cell hr9 1).trans (show _ = some (Value.int .i64 a2) from rfl)
      have z2 := (blk_cell hr9 2).trans (show _ = some (Value.int .i64 (evI b1)) from rfl)
      have z3 := (blk_cell hr9 3).trans (show _ = some (Value.int .i64 b2) from rfl)
      have z4 := (blk_cell hr9 4).trans (show _ = some (Value.int .i64 (evI c1)) from rfl)
      have z5 := (blk_cell hr9 5).trans (show _ = some (Value.int .i64 c2) from rfl)
      have hB9 := ((((((hBw.out).setCell (p := ⟨w.heap.size + 1, 0, none⟩) (Nat.le_succ _) (.int .i64 (evI a1))).setCell (p := ⟨w.heap.size + 1, 1, none⟩) (Nat.le_succ _) (.int .i64 a2)).setCell (p := ⟨w.heap.size + 1, 2, none⟩) (Nat.le_succ _) (.int .i64 (evI b1))).setCell (p := ⟨w.heap.size + 1, 3, none⟩) (Nat.le_succ _) (.int .i64 b2)).setCell (p := ⟨w.heap.size + 1, 4, none⟩) (Nat.le_succ _) (.int .i64 (evI c1))).setCell (p := ⟨w.heap.size + 1, 5, none⟩) (Nat.le_succ _) (.int .i64 c2)
      refine bodyPost_ret (v := T3R (a1, a2) (b1, b2) (c1, c2)) (by simp [results, Tryz.results59, go_sem, z0, z1, z2, z3, z4, z5]) rfl ⟨rfl, hB9⟩
end Go.Proofs.YtkbkkceeolclmaaGreatDoor.X
namespace Go.Proofs.YtkbkkceeolclmaaGreatDoor.X
open Go.RowKit Go.TX Go.Proofs.YtkbkkceeolclmaaGreatDoorW.PrintWords Go.Proofs.YtkbkkceeolclmaaGreatDoorL
/-- Conditions in a row of the call's own, made since block n. -/
def BR (n : Nat) (W : World) (v : Value) (l : List Cd) : Prop :=
  ∃ css : List (List Value), css.length = l.length ∧ W.ownsRow n 81 8 v l.length css.flatten ∧ ∀ i (h : i < l.length), ∃ cs, css[i]? = some cs ∧ cs.length = 8 ∧ Rep evR W (fun b => n ≤ b ∧ v.ownBlock ≠ some b) l[i] cs
theorem flat_at {css : List (List Value)} (h8 : ∀ cs ∈ css, cs.length = 8) : ∀ (i : Nat) (cs : List Value), css[i]? = some cs → ∀ q u, cs[q]? = some u → css.flatten[i * 8 + q]? = some u := by
  induction css with
  | nil => intro i cs h; simp at h
  | cons c css ih =>
    intro i cs h q u hu
    have hc := h8 c (by simp)
    cases i with
    | zero =>
      simp at h
      subst h
      rw [List.flatten_cons, Nat.zero_mul, Nat.zero_add, List.getElem?_append_left (by rw [hc]; have := (List.getElem?_eq_some_iff.1 hu).1; omega)]
      exact hu
    | succ i =>
      simp at h
      rw [List.flatten_cons, List.getElem?_append_right (by omega), hc]
      rw [show (i + 1) * 8 + q - 8 = i * 8 + q by omega]
      exact ih (fun x hx => h8 x (by simp [hx])) i cs h q u hu
theorem BR.nil (n : Nat) (W : World) : BR n W (.slice none 0 0) [] := ⟨[], rfl, World.ownsRow_nil _ _ _ _, fun _ h => absurd h (Nat.not_lt_zero _)⟩
/-- They are there to be read. -/
theorem BR.reads {n : Nat} {W : World} {v : Value} {l : List Cd} (h : BR n W v l) : ∃ A cap, v = .slice A l.length cap ∧ RepL evR W (fun b => n ≤ b) l A 0 := by
  obtain ⟨css, hl, ho, hr⟩ := h
  have h8 : ∀ cs ∈ css, cs.length = 8 := fun cs hc => by
    obtain ⟨i, hi, e⟩ := List.getElem_of_mem hc
    obtain ⟨cs', h1, h2, _⟩ := hr i (by omega)
    rw [List.getElem?_eq_getElem hi, e] at h1
    cases h1
    exact h2
  by_cases h0 : 0 < l.length
  · obtain ⟨g, cap, rfl, hg, hgl⟩ := owns_form1 ho h0
    refine ⟨_, cap, rfl, ?_⟩
    suffices hs : ∀ (m : List Cd) (j : Nat), j + m.length = l.length → (∀ i (h : i < m.length), l[j + i]? = some m[i]) → RepL evR W (fun b => n ≤ b) m (some ⟨g, 0, none⟩) j from hs l 0 (by simp) (fun i h => by simp)
    intro m
    induction m with
    | nil => intro j _ _; unfold RepL; trivial
    | cons x m ih =>
      intro j hj hm
      unfold RepL
      have hjl : j < l.length := by simp at hj; omega
      have hx := hm 0 (by simp)
      simp only [Nat.add_zero, List.getElem_cons_zero] at hx
      obtain ⟨cs, h1, h2, h3⟩ := hr j hjl
      have hlx : l[j] = x := by rw [List.getElem?_eq_getElem hjl] at hx; exact Option.some.inj hx
      rw [hlx] at h3
      refine ⟨⟨g, 0, cs, rfl, hg, hgl, Rep.mono (fun b hb => hb.1) x cs h3, fun q u hu => ?_⟩, ih (j + 1) (by simp at hj; omega) (fun i hi => ?_)⟩
      · have hf := flat_at h8 j cs h1 q u hu
        have hlt := (List.getElem?_eq_some_iff.1 hf).1
        rw [Nat.zero_add, ho.cellAt (j * 8 + q) (by
          have : css.flatten.length = l.length * 8 := by
            clear hf hlt hr h1
            rw [← hl]
            clear hl ho
            induction css with
            | nil => rfl
            | cons c css ihc => rw [List.flatten_cons, List.length_append, h8 c (by simp), ihc (fun x hx => h8 x (by simp [hx])), List.length_cons]; omega
          omega)]
        exact hf
      · have := hm (i + 1) (by simpa using hi)
        rw [show j + 1 + i = j + (i + 1) by omega]
        simpa using this
  · have hnil : l = [] := List.length_eq_zero_iff.1 (by omega)
    subst hnil
    obtain ⟨a, cap, rfl⟩ := owns_form ho
    exact ⟨a, cap, rfl, by unfold RepL; trivial⟩
section
variable {P : Program} {w : World}
/-- An append to a row of the call's own: the block is the elder one, or a new one. -/
theorem run_append_own2 (base : Nat) (t ty e : TypeId) (i : TypeInfo) (z : Value) (size bytes : Nat) (ht : P.underlying t = some (.slice e)) (hi : P.info? e = some i) (hz : i.zero = some z)
    (hsize : i.size = size) (hby : i.bytes = bytes) (hzs : z.cells.size = size) (hsz : 0 < size)
    (v : Value) (n : Nat) (xs : List Value) (hown : w.ownsRow base e size v n xs)
    (a : Addr) (m c : Nat) (news : List Value) (hm0 : 0 < m) (hl : news.length = m * size) (hnews : ∀ j u, news[j]? = some u → w.cell? (a.add j) = some u) (h1 : ∀ u ∈ news, u.oneCell' = true)
    (h63 : n + m ≤ maxLen) (hbytes : (n + m) * bytes ≤ 140737488355328) (hbase : base ≤ w.heap.size) :
    ∃ v' w', (Builtin.append_ #[t, t] ty #[v, .slice (some a) m c]).run P w = .ok v' w' ∧ w'.ownsRow base e size v' (n + m) (xs ++ news) ∧ w.grownBy w' v.ownBlock ∧
      ∀ x, v'.ownBlock = some x → v.ownBlock = some x ∨ w.heap.size ≤ x := by
  obtain ⟨v', w', hr, h2, h3, _⟩ := run_append_own (P := P) (w := w) base t ty e i z size bytes ht hi hz hsize hby hzs hsz v n xs hown a m c news hl hnews h1 h63 hbytes hbase
  refine ⟨v', w', hr, h2, h3, fun x hx => ?_⟩
  subst hsize
  subst hby
  have hmx : n + m ≤ 9223372036854775807 := by unfold maxLen at h63; omega
  have hmb : m * i.bytes ≤ (n + m) * i.bytes := Nat.mul_le_mul_right _ (by omega)
  rcases hown.2 with ⟨rfl, rfl⟩ | ⟨g, cap, cur, rfl, hbg, hg, hnc, hcm, hcs, htake⟩
  · have hr2 := run_append_nil (P := P) (w := w) t ty e i z ht hi hz a m c news hl hnews hm0 (by omega) (by omega)
    rw [hr] at hr2
    cases hr2
    simp only [Value.ownBlock, Option.some.injEq] at hx
    exact .inr (by omega)
  · by_cases hroom : n + m ≤ cap
    · have hfit : n * i.size + news.length ≤ cur.size := by rw [hl, hcs, ← Nat.add_mul]; exact Nat.mul_le_mul_right _ hroom
      have hr2 := run_append_room (P := P) (w := w) t ty e i ht hi g n cap cur hg a m c news hl hnews h1 hroom hfit
      rw [hr] at hr2
      cases hr2
      exact .inl hx
    · have holds : ∀ j u, xs[j]? = some u → w.cell? ((⟨g, 0, none⟩ : Addr).add j) = some u := hown.cells (g := g) rfl
      have hr2 := run_append_grow (P := P) (w := w) t ty e i z ht hi hz ⟨g, 0, none⟩ n cap xs hown.1 holds a m c news hl hnews (by omega) (by omega) (growslice_fits (by omega) hbytes)
      rw [hr] at hr2
      cases hr2
      simp only [Value.ownBlock, Option.some.injEq] at hx
      exact .inr (by omega)
theorem wpList_append_own2 {ops : Array Oper} {rest : List Oper} {o : Oper} {a : Act} {Q : Exit → Act → World → Prop} (hgd : o.guard = none) (s x : Operand) (t : TypeId)
    (ho : o.op = .call { callee := .builtin .append, args := #[s, x], argTypes := #[t, t] })
    (base : Nat) (e : TypeId) (i : TypeInfo) (z : Value) (size bytes : Nat) (ht : P.underlying t = some (.slice e)) (hi : P.info? e = some i) (hz : i.zero = some z)
    (hsize : i.size = size) (hby : i.bytes = bytes) (hzs : z.cells.size = size) (hsz : 0 < size)
    (v : Value) (n : Nat) (xs : List Value) (hs : a.eval s = v) (hown : w.ownsRow base e size v n xs)
    (ad : Addr) (m c : Nat) (news : List Value) (hx : a.eval x = .slice (some ad) m c) (hm0 : 0 < m) (hl : news.length = m * size) (hnews : ∀ j u, news[j]? = some u → w.cell? (ad.add j) = some u) (h1 : ∀ u ∈ news, u.oneCell' = true)
    (h63 : n + m ≤ maxLen) (hbytes : (n + m) * bytes ≤ 140737488355328) (hbase : base ≤ w.heap.size)
    (h : ∀ v' w', w'.ownsRow base e size v' (n + m) (xs ++ news) → w.grownBy w' v.ownBlock → (∀ x, v'.ownBlock = some x → v.ownBlock = some x ∨ w.heap.size ≤ x) → wpList P ops Q rest (a.put o.dst v') w') : wpList P ops Q (o :: rest) a w :=
  wpList_plain hgd fun _ hK => by
    obtain ⟨v', w', hr, h2, h3, h4⟩ := run_append_own2 (P := P) (w := w) base t o.type e i z size bytes ht hi hz hsize hby hzs hsz v n xs hown ad m c news hm0 hl hnews h1 h63 hbytes hbase
    unfold Oper.wp execOp
    simp only [ho, resolve, invoke, builtin, Sem.run_bind, Sem.run_pure, Result.andThen_ok, List.map_toArray, List.map_cons, List.map_nil, hs, hx, hr]
    exact hK _ _ (h v' w' h2 h3 h4)
end
theorem BR.below {n : Nat} {W W' : World} {v : Value} {l : List Cd} (h : BR n W v l) (hb : Below W.heap.size W W') : BR n W' v l := by
  obtain ⟨css, hl, ho, hr⟩ := h
  refine ⟨css, hl, owns_below ho hb, fun i hi => ?_⟩
  obtain ⟨cs, h1, h2, h3⟩ := hr i hi
  exact ⟨cs, h1, h2, h3.below hb⟩
theorem BR.base {n m : Nat} {W : World} {v : Value} {l : List Cd} (h : BR n W v l) (hm : m ≤ n) : BR m W v l := by
  obtain ⟨css, hl, ho, hr⟩ := h
  refine ⟨css, hl, ⟨ho.1, ho.2.imp id (fun ⟨g, cap, cur, e, hb, q⟩ => ⟨g, cap, cur, e, Nat.le_trans hm hb, q⟩)⟩, fun i hi => ?_⟩
  obtain ⟨cs, h1, h2, h3⟩ := hr i hi
  exact ⟨cs, h1, h2, Rep.mono (fun b hb => ⟨Nat.le_trans hm hb.1, hb.2⟩) _ cs h3⟩
/-- One more. -/
theorem BR.snoc {n m : Nat} {W W' : World} {v v' : Value} {l : List Cd} {css : List (List Value)} (hl : css.length = l.length) (ho : W.ownsRow n 81 8 v l.length css.flatten)
    (hr : ∀ i (h : i < l.length), ∃ cs, css[i]? = some cs ∧ cs.length = 8 ∧ Rep evR W (fun b => n ≤ b ∧ v.ownBlock ≠ some b) l[i] cs) {x : Cd} {cs : List Value} (h8 : cs.length = 8)
    (hx : Rep evR W (fun b => m ≤ b) x cs) (hm : n ≤ m) (hv : ∀ b, v.ownBlock = some b → b < m)
    (ho' : W'.ownsRow n 81 8 v' (l.length + 1) (css.flatten ++ cs)) (hg : W.grownBy W' v.ownBlock) (hf : ∀ b, v'.ownBlock = some b → v.ownBlock = some b ∨ W.heap.size ≤ b) : BR n W' v' (l ++ [x]) := by
  have far : ∀ (y : Cd) (c : List Value), Rep evR W (fun b => n ≤ b ∧ v.ownBlock ≠ some b) y c → Rep evR W' (fun b => n ≤ b ∧ v'.ownBlock ≠ some b) y c := fun y c h =>
    Rep.mono (fun b hb => ⟨hb.1.1, fun e => by
      rcases hf b e with q | q
      · exact hb.1.2 q
      · have := hb.2; omega⟩) y c (Rep.move y c (Rep.bound y c h) fun b hb hlt => hg.block b hlt (fun e => hb.1.2 e.symm))
  refine ⟨css ++ [cs], by simp [hl], by rw [List.flatten_append]; simpa using ho', fun i hi => ?_⟩
  by_cases hil : i < l.length
  · obtain ⟨c, h1, h2, h3⟩ := hr i hil
    refine ⟨c, by rw [List.getElem?_append_left (by omega)]; exact h1, h2, ?_⟩
    rw [List.getElem_append_left hil]
    exact far _ _ h3
  · have e : i = l.length := by simp at hi; omega
    subst e
    refine ⟨cs, by rw [List.getElem?_append_right (by omega), hl]; simp, h8, ?_⟩
    rw [List.getElem_append_right (by omega)]
    simp only [Nat.sub_self, List.getElem_cons_zero]
    exact far _ _ (Rep.mono (fun b hb => ⟨Nat.le_trans hm hb, fun e => by have := hv b e; omega⟩) x cs hx)
end Go.Proofs.YtkbkkceeolclmaaGreatDoor.X
