/- The functions of package list at triples of ints: what each answers and what it leaves. -/
import Derived.Test.YtnncomhgclffaaaLList
import Derived.RegionTactic
import Derived.BigRegion
import Derived.Outline
namespace Go.Proofs.Ytnncomhgclffaaa.LT
open Go.RowKit Go.Proofs.YtnncomhgclffaaaW.PrintWords Go.Proofs.YtnncomhgclffaaaL Go.Proofs.YtnncomhgclffaaaL.Row Go.Proofs.Ytnncomhgclffaaa.LL

abbrev P2 := Int × Int × Int
abbrev z2 : P2 := (0, 0, 0)
abbrev enc (s : P2) : List Value := [.int .i64 s.1, .int .i64 s.2.1, .int .i64 s.2.2]
theorem enc_len (s : P2) : (enc s).length = 3 := rfl

section
variable {w : World} {lb mb : Nat} {lk : Int → Nat} {L : Int → Option (P2 × Int × Int)} {last : Int} {n : Nat}

theorem zeroP (w : World) : (zeroValue 182).run Try.prog w = .ok (.pointer none) w := by kernel_rfl


def PutPost (w : World) (lb mb : Nat) (lk : Int → Nat) (L : Int → Option (P2 × Int × Int)) (last : Int) (n : Nat) (h ph : Int) (v : P2) (e : Ending) (w' : World) : Prop :=
  e = .returned (.int .i64 (last + 1)) ∧ (∃ s, w.heap.size ≤ s ∧ LIs enc 184 187 w' lb mb (updN lk (last + 1) s) (putL L last h ph v) (last + 1) (n + 1)) ∧ Ch w w' (foot lb mb lk L)

set_option maxHeartbeats 2000000 in
set_option maxRecDepth 100000 in
theorem put_walk (h : Int) (v : P2) (hL : LIs enc 184 187 w lb mb lk L last n) (hl0 : 0 ≤ last) (hl1 : last < 1000000)
    (xh : P2) (nh ph : Int) (hh : L h = some (xh, nh, ph)) (hp : (L ph).isSome) (hno : L (last + 1) = none) (hwh : (Lit.int .i64 h).wf = true) (hwp : (Lit.int .i64 ph).wf = true) :
    Calls Try.prog 107 #[.pointer (some ⟨lb, 0, none⟩), .int .i64 h, .agg #[.int .i64 v.1, .int .i64 v.2.1, .int .i64 v.2.2]] w (PutPost w lb mb lk L last n h ph v) := by
  obtain ⟨v1, v2, v3⟩ := v
  have hqf := Aside0.mk (show ∀ b, foot lb mb lk L b → b ≠ w.heap.size from fun b hb => Nat.ne_of_lt (hL.foot_lt hb))
  have hL' := Aside0.mk (hL.move (W := w.alloc (.cells #[.int .i64 v1, .int .i64 v2, .int .i64 v3] 60)) (fun b hb => Below.heap_alloc _ _ _ (hL.foot_lt hb)))
  have hC0 := Aside0.mk ((Ch.refl w (foot lb mb lk L)).alloc (.cells #[.int .i64 v1, .int .i64 v2, .int .i64 v3] 60))
  have hQ := Aside0.mk (blk_new w (.cells #[.int .i64 v1, .int .i64 v2, .int .i64 v3] 60))
  have hs0 := Aside0.mk (show w.heap.size ≤ (w.alloc (.cells #[.int .i64 v1, .int .i64 v2, .int .i64 v3] 60)).heap.size by rw [World.size_alloc]; omega)
  have HH := Aside0.mk hh
  have HP := Aside0.mk hp
  have HN := Aside0.mk hno
  clear hL hh hp hno
  go_enter Try.func107, Try.ntmps107
  go_upto_region 1 with fail
  have hne0 := hqf.out lb (.inl rfl)
  generalize hqb : w.heap.size = qb at hQ hqf hs0 hne0 ⊢
  replace hqb := Aside0.mk hqb
  generalize w.alloc (.cells #[.int .i64 v1, .int .i64 v2, .int .i64 v3] 60) = w0 at hL' hC0 hQ hs0 ⊢
  have hL := hL'.out
  have hc0 : w0.cell? ⟨lb, 0, none⟩ = some (.map (some mb)) := (blk_cell hL.head 0).trans rfl
  have hc1 : w0.cell? ⟨lb, 1, none⟩ = some (.int .i64 last) := (blk_cell hL.head 1).trans rfl
  have hf1 : w0.frozen? ⟨lb, 1, none⟩ = false := blk_frozen hL.head 1
  have HL := Aside0.mk hL
  have e1 := hL.setLast (by decide) (last + 1)
  have hC1 := Aside0.mk (hC0.out.setCell ⟨lb, 1, none⟩ (fun _ => .inl rfl) (.int .i64 (last + 1)))
  have hlk : (Instr.lookup 185 (.map (some mb)) (.int .i64 h) false).run Try.prog (w0.setCell ⟨lb, 1, none⟩ (.int .i64 (last + 1))) = .ok (.pointer (some ⟨lk h, 0, none⟩)) (w0.setCell ⟨lb, 1, none⟩ (.int .i64 (last + 1))) := by
    have := e1.map.look Try.underlying185 (zeroP _) (x := h) hwh false
    rw [HH.out] at this
    exact this
  have hs1 := Aside0.mk (show (w0.setCell ⟨lb, 1, none⟩ (.int .i64 (last + 1))).heap.size = w0.heap.size by simp [World.setCell])
  have E1 := Aside0.mk e1
  have hQ1 := Aside0.mk (blk_far hQ.out (p := ⟨lb, 1, none⟩) (by intro e; exact hne0 e.symm) (.int .i64 (last + 1)))
  clear hL hL' e1
  go_wp2_with fail
  clear hc0 hc1 hf1 hlk
  generalize (w0.setCell ⟨lb, 1, none⟩ (.int .i64 (last + 1))) = W1 at E1 hC1 hs1 hQ1 ⊢
  have g0 : W1.cell? ⟨lb, 0, none⟩ = some (.map (some mb)) := (blk_cell E1.out.head 0).trans rfl
  have g1 : W1.cell? ⟨lb, 1, none⟩ = some (.int .i64 (last + 1)) := (blk_cell E1.out.head 1).trans rfl
  have g2 : W1.cell? ⟨lk h, 4, none⟩ = some (.int .i64 ph) := (blk_cell (E1.out.link h xh nh ph HH.out) 4).trans rfl
  have b0 : W1.cell? ⟨qb, 0, none⟩ = some (.int .i64 v1) := (blk_cell hQ1.out 0).trans rfl
  have b1 : W1.cell? ⟨qb, 1, none⟩ = some (.int .i64 v2) := (blk_cell hQ1.out 1).trans rfl
  have b2 : W1.cell? ⟨qb, 2, none⟩ = some (.int .i64 v3) := (blk_cell hQ1.out 2).trans rfl
  have nq : qb < W1.heap.size := blk_lt hQ1.out
  have n0 : lb < W1.heap.size := blk_lt E1.out.head
  have n1 : lk h < W1.heap.size := blk_lt (E1.out.link h xh nh ph HH.out)
  have hmm : MapIs intCode (W1.alloc (.cells #[.int .i64 v1, .int .i64 v2, .int .i64 v3, .int .i64 h, .int .i64 ph] 184)).drew mb _ n := E1.out.map.of_heap (Below.heap_alloc _ _ _ E1.out.map.lt)
  obtain ⟨W2, hrun, hmap2, hgr2, _⟩ := hmm.store Try.underlying185 (x := last + 1) (WalkArith.wf_i64 (by omega)) (.pointer (some ⟨W1.heap.size, 0, none⟩))
  simp only [intCode] at hrun
  rw [HN.out] at hmap2
  have e2 := E1.out.ins (W := W2) HN.out (v1, v2, v3) h ph hmap2 ((hgr2.block _ (by simp) (by have := E1.out.map.lt; intro e; cases e; omega)).trans (blk_new _ _)) (fun b hb hne => (hgr2.block b (by simp; omega) (by intro e; exact hne (Option.some.inj e))).trans (Below.heap_alloc _ _ _ hb))
  rw [hs1.out] at e2
  have hC2 := Aside0.mk ((hC1.out.alloc (.cells #[.int .i64 v1, .int .i64 v2, .int .i64 v3, .int .i64 h, .int .i64 ph] 184)).drew.grown hgr2 (fun k e _ => by cases e; exact .inr (.inl rfl)))
  have E2 := Aside0.mk e2
  clear hmm hmap2 hgr2 e2
  go_region
  go_wp2_with fail
  clear g0 g1 g2 b0 b1 b2 nq n0 n1 hrun
  have hne : h ≠ last + 1 := fun e => by have := HH.out; rw [e, HN.out] at this; cases this
  have hnp : ph ≠ last + 1 := fun e => by have := HP.out; rw [e, HN.out] at this; cases this
  have l2 : updN lk (last + 1) w0.heap.size ph = lk ph := by simp [updN, hnp]
  have l2h : updN lk (last + 1) w0.heap.size h = lk h := by simp [updN, hne]
  have p2 : (Row.ins L (last + 1) (some ((v1, v2, v3), h, ph)) ph).isSome := by simp only [Row.ins, if_neg hnp]; exact HP.out
  have h2 : Row.ins L (last + 1) (some ((v1, v2, v3), h, ph)) h = some (xh, nh, ph) := by simp only [Row.ins, if_neg hne]; exact HH.out
  have e3 := E2.out.setNext (by decide) enc_len p2 (last + 1)
  rw [l2] at e3
  have g0 : W2.cell? ⟨lb, 0, none⟩ = some (.map (some mb)) := (blk_cell E2.out.head 0).trans rfl
  have g1 : W2.cell? ⟨lb, 1, none⟩ = some (.int .i64 (last + 1)) := (blk_cell E2.out.head 1).trans rfl
  have bh := E2.out.link h xh nh ph h2
  rw [l2h] at bh
  have g2 : W2.cell? ⟨lk h, 4, none⟩ = some (.int .i64 ph) := (blk_cell bh 4).trans rfl
  obtain ⟨⟨xp, np, pp⟩, hpe⟩ := Option.isSome_iff_exists.1 p2
  have bp := E2.out.link ph xp np pp hpe
  rw [l2] at bp
  have g3 : W2.cell? ⟨lk ph, 3, none⟩ = some (.int .i64 np) := (blk_cell bp 3).trans rfl
  have g4 : W2.frozen? ⟨lk ph, 3, none⟩ = false := blk_frozen bp 3
  have hrun : (Instr.lookup 185 (.map (some mb)) (.int .i64 ph) false).run Try.prog W2.drew = .ok (.pointer (some ⟨lk ph, 0, none⟩)) W2.drew := by
    have := (show MapIs intCode W2.drew mb _ (n + 1) from E2.out.map).look Try.underlying185 (zeroP _) (x := ph) hwp false
    rw [hpe, l2] at this
    exact this
  have hC3 := Aside0.mk ((hC2.out.setCell ⟨lk ph, 3, none⟩ (fun _ => .inr (.inr ⟨ph, HP.out, rfl⟩)) (.int .i64 (last + 1))).drew)
  have E3 := Aside0.mk (e3.move (W := (W2.setCell ⟨lk ph, 3, none⟩ (.int .i64 (last + 1))).drew) (fun _ _ => rfl))
  clear e3 bh bp l2 hnp hne p2 hpe
  have h3 := Aside0.mk (show ∃ q, setNext (Row.ins L (last + 1) (some ((v1, v2, v3), h, ph))) ph (last + 1) h = some (xh, q, ph) by
    unfold Row.setNext; rw [h2]; split; exact ⟨_, rfl⟩; exact ⟨_, rfl⟩)
  clear h2
  replace l2h := Aside0.mk l2h
  go_region
  clear g0 g1 g2 g3 g4 hrun
  generalize (W2.setCell ⟨lk ph, 3, none⟩ (.int .i64 (last + 1))).drew = W3 at E3 hC3 ⊢
  obtain ⟨q, h3⟩ := h3.out
  have bh := E3.out.link h xh q ph h3
  rw [l2h.out] at bh
  have g0 : W3.cell? ⟨lb, 0, none⟩ = some (.map (some mb)) := (blk_cell E3.out.head 0).trans rfl
  have g1 : W3.cell? ⟨lb, 1, none⟩ = some (.int .i64 (last + 1)) := (blk_cell E3.out.head 1).trans rfl
  have g2 : W3.cell? ⟨lk h, 4, none⟩ = some (.int .i64 ph) := (blk_cell bh 4).trans rfl
  have g3 : W3.frozen? ⟨lk h, 4, none⟩ = false := blk_frozen bh 4
  have e4 := E3.out.setPrev (by decide) enc_len (y := h) (by rw [h3]; rfl) (last + 1)
  rw [l2h.out] at e4
  have hC4 := Aside0.mk ((hC3.out.setCell ⟨lk h, 4, none⟩ (fun _ => .inr (.inr ⟨h, by rw [HH.out]; rfl, rfl⟩)) (.int .i64 (last + 1))))
  have g4 : (W3.setCell ⟨lk h, 4, none⟩ (.int .i64 (last + 1))).cell? ⟨lb, 1, none⟩ = some (.int .i64 (last + 1)) := (blk_cell e4.head 1).trans rfl
  have E4 := Aside0.mk e4
  clear h3 bh e4
  go_wp2_with fail
  go_ret
  exact ⟨rfl, ⟨w0.heap.size, by rw [hqb.out]; exact hs0.out, E4.out⟩, hC4.out⟩


theorem look_some (hL : LIs enc 184 187 w lb mb lk L last n) {h : Int} (hwh : (Lit.int .i64 h).wf = true) (hh : (L h).isSome) :
    (Instr.lookup 185 (.map (some mb)) (.int .i64 h) false).run Try.prog w = .ok (.pointer (some ⟨lk h, 0, none⟩)) w := by
  have := hL.map.look Try.underlying185 (zeroP _) (x := h) hwh false
  obtain ⟨x, e⟩ := Option.isSome_iff_exists.1 hh
  rw [e] at this
  exact this
theorem look_none (hL : LIs enc 184 187 w lb mb lk L last n) {h : Int} (hwh : (Lit.int .i64 h).wf = true) (hh : L h = none) :
    (Instr.lookup 185 (.map (some mb)) (.int .i64 h) false).run Try.prog w = .ok (.pointer none) w := by
  have := hL.map.look Try.underlying185 (zeroP _) (x := h) hwh false
  rw [hh] at this
  exact this

abbrev zbox : Obj := .cells #[.int .i64 0, .int .i64 0, .int .i64 0] 60
set_option maxRecDepth 100000 in
theorem get_walk (h : Int) (x : P2) (nx pv : Int) (hL : LIs enc 184 187 w lb mb lk L last n) (h0 : h ≠ 0) (hh : L h = some (x, nx, pv)) (hwh : (Lit.int .i64 h).wf = true) :
    Calls Try.prog 110 #[.pointer (some ⟨lb, 0, none⟩), .int .i64 h] w fun e w' => e = .returned (.tuple #[.agg #[.int .i64 x.1, .int .i64 x.2.1, .int .i64 x.2.2], .bool true]) ∧ Below w.heap.size w w' := by
  obtain ⟨x1, x2, x3⟩ := x
  have hb : (h == 0) = false := beq_eq_false_iff_ne.2 h0
  have hL0 := hL.move (W := w.alloc zbox) (fun b hb => Below.heap_alloc _ _ _ (hL.foot_lt hb))
  have hr := look_some hL0 hwh (by rw [hh]; rfl)
  have hc0 : (w.alloc zbox).cell? ⟨lb, 0, none⟩ = some (.map (some mb)) := (blk_cell hL0.head 0).trans rfl
  have g0 : (w.alloc zbox).cell? ⟨lk h, 0, none⟩ = some (.int .i64 x1) := (blk_cell (hL0.link h (x1, x2, x3) nx pv hh) 0).trans rfl
  have g1 : (w.alloc zbox).cell? ⟨lk h, 1, none⟩ = some (.int .i64 x2) := (blk_cell (hL0.link h (x1, x2, x3) nx pv hh) 1).trans rfl
  have g2 : (w.alloc zbox).cell? ⟨lk h, 2, none⟩ = some (.int .i64 x3) := (blk_cell (hL0.link h (x1, x2, x3) nx pv hh) 2).trans rfl
  clear hL hh hL0 h0
  go_enter Try.func110, Try.ntmps110
  go_wp2_with fail
  refine bodyPost_ret (v := .tuple #[.agg #[.int .i64 x1, .int .i64 x2, .int .i64 x3], .bool true]) (by simp [results, Try.results110, go_sem]) rfl ⟨rfl, ?_⟩
  exact (Below.refl _ _).alloc (Nat.le_refl _) _

set_option maxRecDepth 100000 in
theorem next_walk (h : Int) (hL : LIs enc 184 187 w lb mb lk L last n) (hwh : (Lit.int .i64 h).wf = true) :
    Calls Try.prog 109 #[.pointer (some ⟨lb, 0, none⟩), .int .i64 h] w fun e w' => e = .returned (.int .i64 (nextOf L h)) ∧ w = w' := by
  have hc0 : w.cell? ⟨lb, 0, none⟩ = some (.map (some mb)) := (blk_cell hL.head 0).trans rfl
  cases hh : L h with
  | none =>
    have hr := look_none hL hwh hh
    have ev : nextOf L h = 0 := by simp [nextOf, hh]
    rw [ev]
    clear hL hh ev
    go_enter Try.func109, Try.ntmps109
    go_wp2_with fail
    go_ret
    exact ⟨rfl, rfl⟩
  | some x =>
    obtain ⟨x, nx, pv⟩ := x
    have hr := look_some hL hwh (by rw [hh]; rfl)
    have ev : nextOf L h = nx := by simp [nextOf, hh]
    have g0 : w.cell? ⟨lk h, 3, none⟩ = some (.int .i64 nx) := (blk_cell (hL.link h x nx pv hh) 3).trans rfl
    rw [ev]
    clear hL hh ev
    go_enter Try.func109, Try.ntmps109
    go_wp2_with fail
    go_ret
    exact ⟨rfl, rfl⟩

theorem LIs.drew {w : World} (h : LIs enc 184 187 w lb mb lk L last n) : LIs enc 184 187 w.drew lb mb lk L last n := h.move (fun _ _ => rfl)

set_option maxHeartbeats 2000000 in
set_option maxRecDepth 100000 in
theorem push_walk (v : P2) (hL : LIs enc 184 187 w lb mb lk L last n) (hl0 : 0 ≤ last) (hl1 : last < 1000000)
    (xh : P2) (nh ph : Int) (hh : L 0 = some (xh, nh, ph)) (hp : (L ph).isSome) (hno : L (last + 1) = none) (hwp : (Lit.int .i64 ph).wf = true) :
    Calls Try.prog 103 #[.pointer (some ⟨lb, 0, none⟩), .agg #[.int .i64 v.1, .int .i64 v.2.1, .int .i64 v.2.2]] w (PutPost w lb mb lk L last n 0 ph v) := by
  obtain ⟨v1, v2, v3⟩ := v
  have HC := Aside0.mk (put_walk (w := w.alloc (.cells #[.int .i64 v1, .int .i64 v2, .int .i64 v3] 60)) 0 (v1, v2, v3) (hL.move (fun b hb => Below.heap_alloc _ _ _ (hL.foot_lt hb))) hl0 hl1 xh nh ph hh hp hno (by decide) hwp)
  have hC0 := Aside0.mk ((Ch.refl w (foot lb mb lk L)).alloc (.cells #[.int .i64 v1, .int .i64 v2, .int .i64 v3] 60))
  clear hL hh hp hno
  go_enter Try.func103, Try.ntmps103
  go_wp2_with (go_at_call 107; refine HC.out.mono ?_; rintro e w1 ⟨rfl, h1, h2⟩; replace h1 := Aside0.mk h1; replace h2 := Aside0.mk h2)
  go_ret
  obtain ⟨s, hs, h1⟩ := h1.out
  exact ⟨rfl, ⟨s, by rw [World.size_alloc] at hs; omega, h1⟩, hC0.out.then h2.out (fun b _ hb => hb)⟩

def NewPost (w : World) (e : Ending) (w' : World) : Prop :=
  e = .returned (.pointer (some ⟨w.heap.size + 2, 0, none⟩)) ∧ LIs enc 184 187 w' (w.heap.size + 2) w.heap.size (fun _ => w.heap.size + 1) (newL z2) 0 1 ∧ Below w.heap.size w w'

end

theorem new_walk (w : World) : Calls Try.prog 101 #[] w (NewPost w) := by
  have hmm := @run_makeMap Try.prog
  have m0 : MapIs intCode ((w.alloc (.map #[] 0)).alloc (.cells #[.int .i64 0, .int .i64 0, .int .i64 0, .int .i64 0, .int .i64 0] 184)) w.heap.size (fun _ => none) 0 := (MapIs.made intCode w).of_heap (Below.heap_alloc _ _ _ (by simp))
  obtain ⟨W, hrun, hm, hg, hz⟩ := m0.store Try.underlying185 (x := 0) (show (Lit.int .i64 0).wf = true by decide) (.pointer (some ⟨w.heap.size + 1, 0, none⟩))
  simp only [intCode] at hrun
  have hz : W.heap.size = w.heap.size + 2 := by simpa using hz
  clear m0
  go_enter Try.func101, Try.ntmps101
  go_wp2_with fail
  go_ret
  have hb : W.heap[w.heap.size + 1]? = some (.cells #[.int .i64 0, .int .i64 0, .int .i64 0, .int .i64 0, .int .i64 0] 184 (0, 0)) := by
    refine (hg.block _ (by simp) (by simp)).trans ?_
    have := blk_new (w.alloc (.map #[] 0)) (.cells #[.int .i64 0, .int .i64 0, .int .i64 0, .int .i64 0, .int .i64 0] 184)
    simpa using this
  refine ⟨rfl, ⟨?_, ?_, ?_, ?_⟩, ?_⟩
  · have := blk_new W (.cells #[.map (some w.heap.size), .int .i64 0] 187)
    rw [hz] at this
    exact this
  · refine MapIs.congr (MapIs.of_heap hm (Below.heap_alloc _ _ _ (by omega))) (fun x => ?_)
    by_cases hx : x = 0
    · subst hx; rw [mset_same]; simp [newL]
    · rw [mset_other _ hx]; simp [newL, hx]
  · intro h x nx pv e
    unfold newL at e
    split at e
    · cases e
      exact (Below.heap_alloc _ _ _ (by omega)).trans hb
    · cases e
  · intro h h' a b _
    have z : ∀ y, (newL z2 y).isSome → y = 0 := fun y hy => by
      unfold newL at hy
      split at hy
      · assumption
      · cases hy
    rw [z h a, z h' b]
  · exact ((((Below.refl _ w).alloc (Nat.le_refl _) _).alloc (by simp) _).grown hg (by simp; omega) (fun k e => by cases e; exact Nat.le_refl _)).alloc (by omega) _

end Go.Proofs.Ytnncomhgclffaaa.LT
