/- The functions of package list at pairs of strings: what each answers and what it leaves. -/
import Derived.Test.YtnncomhgclffaaaLList
import Derived.RegionTactic
import Derived.BigRegion
import Derived.Outline
namespace Go.Proofs.Ytnncomhgclffaaa.LP
open Go.RowKit Go.Proofs.YtnncomhgclffaaaW.PrintWords Go.Proofs.YtnncomhgclffaaaL Go.Proofs.YtnncomhgclffaaaL.Row Go.Proofs.Ytnncomhgclffaaa.LL

abbrev P2 := ByteArray × ByteArray
abbrev z2 : P2 := (⟨#[]⟩, ⟨#[]⟩)
abbrev enc (s : P2) : List Value := [.string s.1, .string s.2]
theorem enc_len (s : P2) : (enc s).length = 2 := rfl

section
variable {w : World} {lb mb : Nat} {lk : Int → Nat} {L : Int → Option (P2 × Int × Int)} {last : Int} {n : Nat}

theorem zeroP (w : World) : (zeroValue 136).run Try.prog w = .ok (.pointer none) w := by kernel_rfl


def PutPost (w : World) (lb mb : Nat) (lk : Int → Nat) (L : Int → Option (P2 × Int × Int)) (last : Int) (n : Nat) (h ph : Int) (v : P2) (e : Ending) (w' : World) : Prop :=
  e = .returned (.int .i64 (last + 1)) ∧ (∃ s, w.heap.size ≤ s ∧ LIs enc 138 141 w' lb mb (updN lk (last + 1) s) (putL L last h ph v) (last + 1) (n + 1)) ∧ Ch w w' (foot lb mb lk L)

set_option maxHeartbeats 2000000 in
set_option maxRecDepth 100000 in
theorem put_walk (h : Int) (v : P2) (hL : LIs enc 138 141 w lb mb lk L last n) (hl0 : 0 ≤ last) (hl1 : last < 1000000)
    (xh : P2) (nh ph : Int) (hh : L h = some (xh, nh, ph)) (hp : (L ph).isSome) (hno : L (last + 1) = none) (hwh : (Lit.int .i64 h).wf = true) (hwp : (Lit.int .i64 ph).wf = true) :
    Calls Try.prog 89 #[.pointer (some ⟨lb, 0, none⟩), .int .i64 h, .agg #[.string v.1, .string v.2]] w (PutPost w lb mb lk L last n h ph v) := by
  obtain ⟨v1, v2⟩ := v
  have hqf := Aside0.mk (show ∀ b, foot lb mb lk L b → b ≠ w.heap.size from fun b hb => Nat.ne_of_lt (hL.foot_lt hb))
  have hL' := Aside0.mk (hL.move (W := w.alloc (.cells #[.string v1, .string v2] 46)) (fun b hb => Below.heap_alloc _ _ _ (hL.foot_lt hb)))
  have hC0 := Aside0.mk ((Ch.refl w (foot lb mb lk L)).alloc (.cells #[.string v1, .string v2] 46))
  have hQ := Aside0.mk (blk_new w (.cells #[.string v1, .string v2] 46))
  have hs0 := Aside0.mk (show w.heap.size ≤ (w.alloc (.cells #[.string v1, .string v2] 46)).heap.size by rw [World.size_alloc]; omega)
  have HH := Aside0.mk hh
  have HP := Aside0.mk hp
  have HN := Aside0.mk hno
  clear hL hh hp hno
  go_enter Try.func89, Try.ntmps89
  go_upto_region 1 with fail
  have hne0 := hqf.out lb (.inl rfl)
  generalize hqb : w.heap.size = qb at hQ hqf hs0 hne0 ⊢
  replace hqb := Aside0.mk hqb
  generalize w.alloc (.cells #[.string v1, .string v2] 46) = w0 at hL' hC0 hQ hs0 ⊢
  have hL := hL'.out
  have hc0 : w0.cell? ⟨lb, 0, none⟩ = some (.map (some mb)) := (blk_cell hL.head 0).trans rfl
  have hc1 : w0.cell? ⟨lb, 1, none⟩ = some (.int .i64 last) := (blk_cell hL.head 1).trans rfl
  have hf1 : w0.frozen? ⟨lb, 1, none⟩ = false := blk_frozen hL.head 1
  have HL := Aside0.mk hL
  have e1 := hL.setLast (by decide) (last + 1)
  have hC1 := Aside0.mk (hC0.out.setCell ⟨lb, 1, none⟩ (fun _ => .inl rfl) (.int .i64 (last + 1)))
  have hlk : (Instr.lookup 139 (.map (some mb)) (.int .i64 h) false).run Try.prog (w0.setCell ⟨lb, 1, none⟩ (.int .i64 (last + 1))) = .ok (.pointer (some ⟨lk h, 0, none⟩)) (w0.setCell ⟨lb, 1, none⟩ (.int .i64 (last + 1))) := by
    have := e1.map.look Try.underlying139 (zeroP _) (x := h) hwh false
    rw [HH.out] at this
    exact this
  have hs1 := Aside0.mk (show (w0.setCell ⟨lb, 1, none⟩ (.int .i64 (last + 1))).heap.size = w0.heap.size by simp [World.setCell])
  have E1 := Aside0.mk e1
  have hQ1 := Aside0.mk (blk_far hQ.out (p := ⟨lb, 1, none⟩) (by intro e; exact hne0 e.symm) (.int .i64 (last + 1)))
  clear hL hL' e1
  go_wp2_with fail
  clear hc0 hc1 hf1 hlk
  generalize (w0.setCell ⟨lb, 1, none⟩ (.int .i64 (last + 1))) = W1 at E1 hC1 hs1 hQ1 ⊢
  have g0 : W1.cell? ⟨lb, 0, none⟩ = some (.map (some mb)) := (blk_cell E1.out.head 0).trans rfl
  have g1 : W1.cell? ⟨lb, 1, none⟩ = some (.int .i64 (last + 1)) := (blk_cell E1.out.head 1).trans rfl
  have g2 : W1.cell? ⟨lk h, 3, none⟩ = some (.int .i64 ph) := (blk_cell (E1.out.link h xh nh ph HH.out) 3).trans rfl
  have b0 : W1.cell? ⟨qb, 0, none⟩ = some (.string v1) := (blk_cell hQ1.out 0).trans rfl
  have b1 : W1.cell? ⟨qb, 1, none⟩ = some (.string v2) := (blk_cell hQ1.out 1).trans rfl
  have nq : qb < W1.heap.size := blk_lt hQ1.out
  have n0 : lb < W1.heap.size := blk_lt E1.out.head
  have n1 : lk h < W1.heap.size := blk_lt (E1.out.link h xh nh ph HH.out)
  have hmm : MapIs intCode (W1.alloc (.cells #[.string v1, .string v2, .int .i64 h, .int .i64 ph] 138)).drew mb _ n := E1.out.map.of_heap (Below.heap_alloc _ _ _ E1.out.map.lt)
  obtain ⟨W2, hrun, hmap2, hgr2, _⟩ := hmm.store Try.underlying139 (x := last + 1) (WalkArith.wf_i64 (by omega)) (.pointer (some ⟨W1.heap.size, 0, none⟩))
  simp only [intCode] at hrun
  rw [HN.out] at hmap2
  have e2 := E1.out.ins (W := W2) HN.out (v1, v2) h ph hmap2 ((hgr2.block _ (by simp) (by have := E1.out.map.lt; intro e; cases e; omega)).trans (blk_new _ _)) (fun b hb hne => (hgr2.block b (by simp; omega) (by intro e; exact hne (Option.some.inj e))).trans (Below.heap_alloc _ _ _ hb))
  rw [hs1.out] at e2
  have hC2 := Aside0.mk ((hC1.out.alloc (.cells #[.string v1, .string v2, .int .i64 h, .int .i64 ph] 138)).drew.grown hgr2 (fun k e _ => by cases e; exact .inr (.inl rfl)))
  have E2 := Aside0.mk e2
  clear hmm hmap2 hgr2 e2
  go_region
  go_wp2_with fail
  clear g0 g1 g2 b0 b1 nq n0 n1 hrun
  have hne : h ≠ last + 1 := fun e => by have := HH.out; rw [e, HN.out] at this; cases this
  have hnp : ph ≠ last + 1 := fun e => by have := HP.out; rw [e, HN.out] at this; cases this
  have l2 : updN lk (last + 1) w0.heap.size ph = lk ph := by simp [updN, hnp]
  have l2h : updN lk (last + 1) w0.heap.size h = lk h := by simp [updN, hne]
  have p2 : (Row.ins L (last + 1) (some ((v1, v2), h, ph)) ph).isSome := by simp only [Row.ins, if_neg hnp]; exact HP.out
  have h2 : Row.ins L (last + 1) (some ((v1, v2), h, ph)) h = some (xh, nh, ph) := by simp only [Row.ins, if_neg hne]; exact HH.out
  have e3 := E2.out.setNext (by decide) enc_len p2 (last + 1)
  rw [l2] at e3
  have g0 : W2.cell? ⟨lb, 0, none⟩ = some (.map (some mb)) := (blk_cell E2.out.head 0).trans rfl
  have g1 : W2.cell? ⟨lb, 1, none⟩ = some (.int .i64 (last + 1)) := (blk_cell E2.out.head 1).trans rfl
  have bh := E2.out.link h xh nh ph h2
  rw [l2h] at bh
  have g2 : W2.cell? ⟨lk h, 3, none⟩ = some (.int .i64 ph) := (blk_cell bh 3).trans rfl
  obtain ⟨⟨xp, np, pp⟩, hpe⟩ := Option.isSome_iff_exists.1 p2
  have bp := E2.out.link ph xp np pp hpe
  rw [l2] at bp
  have g3 : W2.cell? ⟨lk ph, 2, none⟩ = some (.int .i64 np) := (blk_cell bp 2).trans rfl
  have g4 : W2.frozen? ⟨lk ph, 2, none⟩ = false := blk_frozen bp 2
  have hrun : (Instr.lookup 139 (.map (some mb)) (.int .i64 ph) false).run Try.prog W2.drew = .ok (.pointer (some ⟨lk ph, 0, none⟩)) W2.drew := by
    have := (show MapIs intCode W2.drew mb _ (n + 1) from E2.out.map).look Try.underlying139 (zeroP _) (x := ph) hwp false
    rw [hpe, l2] at this
    exact this
  have hC3 := Aside0.mk ((hC2.out.setCell ⟨lk ph, 2, none⟩ (fun _ => .inr (.inr ⟨ph, HP.out, rfl⟩)) (.int .i64 (last + 1))).drew)
  have E3 := Aside0.mk (e3.move (W := (W2.setCell ⟨lk ph, 2, none⟩ (.int .i64 (last + 1))).drew) (fun _ _ => rfl))
  clear e3 bh bp l2 hnp hne p2 hpe
  have h3 := Aside0.mk (show ∃ q, setNext (Row.ins L (last + 1) (some ((v1, v2), h, ph))) ph (last + 1) h = some (xh, q, ph) by
    unfold Row.setNext; rw [h2]; split; exact ⟨_, rfl⟩; exact ⟨_, rfl⟩)
  clear h2
  replace l2h := Aside0.mk l2h
  go_region
  clear g0 g1 g2 g3 g4 hrun
  generalize (W2.setCell ⟨lk ph, 2, none⟩ (.int .i64 (last + 1))).drew = W3 at E3 hC3 ⊢
  obtain ⟨q, h3⟩ := h3.out
  have bh := E3.out.link h xh q ph h3
  rw [l2h.out] at bh
  have g0 : W3.cell? ⟨lb, 0, none⟩ = some (.map (some mb)) := (blk_cell E3.out.head 0).trans rfl
  have g1 : W3.cell? ⟨lb, 1, none⟩ = some (.int .i64 (last + 1)) := (blk_cell E3.out.head 1).trans rfl
  have g2 : W3.cell? ⟨lk h, 3, none⟩ = some (.int .i64 ph) := (blk_cell bh 3).trans rfl
  have g3 : W3.frozen? ⟨lk h, 3, none⟩ = false := blk_frozen bh 3
  have e4 := E3.out.setPrev (by decide) enc_len (y := h) (by rw [h3]; rfl) (last + 1)
  rw [l2h.out] at e4
  have hC4 := Aside0.mk ((hC3.out.setCell ⟨lk h, 3, none⟩ (fun _ => .inr (.inr ⟨h, by rw [HH.out]; rfl, rfl⟩)) (.int .i64 (last + 1))))
  have g4 : (W3.setCell ⟨lk h, 3, none⟩ (.int .i64 (last + 1))).cell? ⟨lb, 1, none⟩ = some (.int .i64 (last + 1)) := (blk_cell e4.head 1).trans rfl
  have E4 := Aside0.mk e4
  clear h3 bh e4
  go_wp2_with fail
  go_ret
  exact ⟨rfl, ⟨w0.heap.size, by rw [hqb.out]; exact hs0.out, E4.out⟩, hC4.out⟩


theorem look_some (hL : LIs enc 138 141 w lb mb lk L last n) {h : Int} (hwh : (Lit.int .i64 h).wf = true) (hh : (L h).isSome) :
    (Instr.lookup 139 (.map (some mb)) (.int .i64 h) false).run Try.prog w = .ok (.pointer (some ⟨lk h, 0, none⟩)) w := by
  have := hL.map.look Try.underlying139 (zeroP _) (x := h) hwh false
  obtain ⟨x, e⟩ := Option.isSome_iff_exists.1 hh
  rw [e] at this
  exact this
theorem look_none (hL : LIs enc 138 141 w lb mb lk L last n) {h : Int} (hwh : (Lit.int .i64 h).wf = true) (hh : L h = none) :
    (Instr.lookup 139 (.map (some mb)) (.int .i64 h) false).run Try.prog w = .ok (.pointer none) w := by
  have := hL.map.look Try.underlying139 (zeroP _) (x := h) hwh false
  rw [hh] at this
  exact this

abbrev zbox : Obj := .cells #[.string ⟨#[]⟩, .string ⟨#[]⟩] 46
set_option maxRecDepth 100000 in
theorem get_walk (h : Int) (x : P2) (nx pv : Int) (hL : LIs enc 138 141 w lb mb lk L last n) (h0 : h ≠ 0) (hh : L h = some (x, nx, pv)) (hwh : (Lit.int .i64 h).wf = true) :
    Calls Try.prog 90 #[.pointer (some ⟨lb, 0, none⟩), .int .i64 h] w fun e w' => e = .returned (.tuple #[.agg #[.string x.1, .string x.2], .bool true]) ∧ Below w.heap.size w w' := by
  obtain ⟨x1, x2⟩ := x
  have hb : (h == 0) = false := beq_eq_false_iff_ne.2 h0
  have hL0 := hL.move (W := w.alloc zbox) (fun b hb => Below.heap_alloc _ _ _ (hL.foot_lt hb))
  have hr := look_some hL0 hwh (by rw [hh]; rfl)
  have hc0 : (w.alloc zbox).cell? ⟨lb, 0, none⟩ = some (.map (some mb)) := (blk_cell hL0.head 0).trans rfl
  have g0 : (w.alloc zbox).cell? ⟨lk h, 0, none⟩ = some (.string x1) := (blk_cell (hL0.link h (x1, x2) nx pv hh) 0).trans rfl
  have g1 : (w.alloc zbox).cell? ⟨lk h, 1, none⟩ = some (.string x2) := (blk_cell (hL0.link h (x1, x2) nx pv hh) 1).trans rfl
  clear hL hh hL0 h0
  go_enter Try.func90, Try.ntmps90
  go_wp2_with fail
  refine bodyPost_ret (v := .tuple #[.agg #[.string x1, .string x2], .bool true]) (by simp [results, Try.results90, go_sem]) rfl ⟨rfl, ?_⟩
  exact (Below.refl _ _).alloc (Nat.le_refl _) _

set_option maxRecDepth 100000 in
theorem next_walk (h : Int) (hL : LIs enc 138 141 w lb mb lk L last n) (hwh : (Lit.int .i64 h).wf = true) :
    Calls Try.prog 36 #[.pointer (some ⟨lb, 0, none⟩), .int .i64 h] w fun e w' => e = .returned (.int .i64 (nextOf L h)) ∧ w = w' := by
  have hc0 : w.cell? ⟨lb, 0, none⟩ = some (.map (some mb)) := (blk_cell hL.head 0).trans rfl
  cases hh : L h with
  | none =>
    have hr := look_none hL hwh hh
    have ev : nextOf L h = 0 := by simp [nextOf, hh]
    rw [ev]
    clear hL hh ev
    go_enter Try.func36, Try.ntmps36
    go_wp2_with fail
    go_ret
    exact ⟨rfl, rfl⟩
  | some x =>
    obtain ⟨x, nx, pv⟩ := x
    have hr := look_some hL hwh (by rw [hh]; rfl)
    have ev : nextOf L h = nx := by simp [nextOf, hh]
    have g0 : w.cell? ⟨lk h, 2, none⟩ = some (.int .i64 nx) := (blk_cell (hL.link h x nx pv hh) 2).trans rfl
    rw [ev]
    clear hL hh ev
    go_enter Try.func36, Try.ntmps36
    go_wp2_with fail
    go_ret
    exact ⟨rfl, rfl⟩

set_option maxRecDepth 100000 in
theorem len_walk (hL : LIs enc 138 141 w lb mb lk L last n) (hn : n < 1000000) :
    Calls Try.prog 35 #[.pointer (some ⟨lb, 0, none⟩)] w fun e w' => e = .returned (.int .i64 ((n : Int) - 1)) ∧ w = w' := by
  have hc0 : w.cell? ⟨lb, 0, none⟩ = some (.map (some mb)) := (blk_cell hL.head 0).trans rfl
  have HM := Aside0.mk hL.map
  clear hL
  go_enter Try.func35, Try.ntmps35
  go_wp2_with (at_len; refine len_at HM.out rfl _ 139 rfl Try.underlying139 rfl ?_)
  go_ret
  exact ⟨rfl, rfl⟩

theorem LIs.drew {w : World} (h : LIs enc 138 141 w lb mb lk L last n) : LIs enc 138 141 w.drew lb mb lk L last n := h.move (fun _ _ => rfl)

set_option maxHeartbeats 2000000 in
set_option maxRecDepth 100000 in
theorem push_walk (v : P2) (hL : LIs enc 138 141 w lb mb lk L last n) (hl0 : 0 ≤ last) (hl1 : last < 1000000)
    (xh : P2) (nh ph : Int) (hh : L 0 = some (xh, nh, ph)) (hp : (L ph).isSome) (hno : L (last + 1) = none) (hwp : (Lit.int .i64 ph).wf = true) :
    Calls Try.prog 31 #[.pointer (some ⟨lb, 0, none⟩), .agg #[.string v.1, .string v.2]] w (PutPost w lb mb lk L last n 0 ph v) := by
  obtain ⟨v1, v2⟩ := v
  have HC := Aside0.mk (put_walk (w := w.alloc (.cells #[.string v1, .string v2] 46)) 0 (v1, v2) (hL.move (fun b hb => Below.heap_alloc _ _ _ (hL.foot_lt hb))) hl0 hl1 xh nh ph hh hp hno (by decide) hwp)
  have hC0 := Aside0.mk ((Ch.refl w (foot lb mb lk L)).alloc (.cells #[.string v1, .string v2] 46))
  clear hL hh hp hno
  go_enter Try.func31, Try.ntmps31
  go_wp2_with (go_at_call 89; refine HC.out.mono ?_; rintro e w1 ⟨rfl, h1, h2⟩; replace h1 := Aside0.mk h1; replace h2 := Aside0.mk h2)
  go_ret
  obtain ⟨s, hs, h1⟩ := h1.out
  exact ⟨rfl, ⟨s, by rw [World.size_alloc] at hs; omega, h1⟩, hC0.out.then h2.out (fun b _ hb => hb)⟩

def RemPost (w : World) (lb mb : Nat) (lk : Int → Nat) (L : Int → Option (P2 × Int × Int)) (last : Int) (n : Nat) (h nx pv : Int) (v : P2) (e : Ending) (w' : World) : Prop :=
  e = .returned (.tuple #[.agg #[.string v.1, .string v.2], .bool true]) ∧ LIs enc 138 141 w' lb mb lk (removeL L h nx pv) last (n - 1) ∧ Ch w w' (foot lb mb lk L)

theorem foot_sub {h nx pv : Int} {b : Nat} (hb : foot lb mb lk (removeL L h nx pv) b) : foot lb mb lk L b := by
  rcases hb with rfl | rfl | ⟨y, hy, rfl⟩
  · exact .inl rfl
  · exact .inr (.inl rfl)
  · refine .inr (.inr ⟨y, ?_, rfl⟩)
    unfold removeL Row.ins Row.setPrev Row.setNext at hy
    split at hy
    · cases hy
    · split at hy
      · rw [map_isSome] at hy
        split at hy
        · rwa [map_isSome] at hy
        · exact hy
      · split at hy
        · rwa [map_isSome] at hy
        · exact hy

theorem box46 {W : World} {q : Nat} {c d : Value} (h : W.heap[q]? = some (.cells #[c, d] 46 (0, 0))) (a b : Value) : ((W.setCell ⟨q, 0, none⟩ a).setCell ⟨q, 1, none⟩ b).heap[q]? = some (.cells #[a, b] 46 (0, 0)) :=
  blk_put (blk_put h 0 a rfl) 1 b rfl

set_option maxHeartbeats 2000000 in
set_option maxRecDepth 100000 in
theorem remove_walk (h : Int) (hL : LIs enc 138 141 w lb mb lk L last n) (hh0 : h ≠ 0)
    (v : P2) (nx pv : Int) (hh : L h = some (v, nx, pv)) (hp : (L pv).isSome) (hn : (L nx).isSome) (hpv : h ≠ pv) (hnx : h ≠ nx) (hwh : (Lit.int .i64 h).wf = true) (hwp : (Lit.int .i64 pv).wf = true) (hwn : (Lit.int .i64 nx).wf = true) :
    Calls Try.prog 33 #[.pointer (some ⟨lb, 0, none⟩), .int .i64 h] w (RemPost w lb mb lk L last n h nx pv v) := by
  obtain ⟨v1, v2⟩ := v
  have hLA := hL.move (W := w.alloc zbox) (fun b hb => Below.heap_alloc _ _ _ (hL.foot_lt hb))
  have HC := Aside0.mk (get_walk (w := w.alloc zbox) h (v1, v2) nx pv hLA hh0 hh hwh)
  have HLA := Aside0.mk hLA
  have hfoot := Aside0.mk (show ∀ b, foot lb mb lk L b → b < w.heap.size from fun b hb => hL.foot_lt hb)
  have hCA := Aside0.mk ((Ch.refl w (foot lb mb lk L)).alloc zbox)
  have hQA := Aside0.mk (blk_new w zbox)
  have HH := Aside0.mk hh
  have HP := Aside0.mk hp
  have HN := Aside0.mk hn
  have hNe := Aside0.mk (And.intro hpv hnx)
  clear hL hh hp hn hpv hnx hLA hh0
  go_enter Try.func33, Try.ntmps33
  go_upto_region 3 with (go_at_call 90; refine HC.out.mono ?_; rintro e W0 ⟨rfl, hb0⟩; replace hb0 := Aside0.mk hb0)
  have hszA : (w.alloc zbox).heap.size = w.heap.size + 1 := World.size_alloc _ _
  have hs0 := hb0.out.size
  have hL0 := (HLA.out.below hb0.out).move (W := W0.alloc (.cells #[.string v1, .string v2] 46)) (fun b hb => Below.heap_alloc _ _ _ (by have := hfoot.out b hb; omega))
  have hC0 := (hCA.out.then (Ch.of_below hb0.out (foot lb mb lk L)) (fun b _ hb => hb)).alloc (.cells #[.string v1, .string v2] 46)
  have hQa := blk_alloc (blk_below hQA.out hb0.out) (.cells #[.string v1, .string v2] 46)
  have hQc := blk_new W0 (.cells #[.string v1, .string v2] 46)
  have ha0 : ∀ b, foot lb mb lk L b → b ≠ w.heap.size := fun b hb => by have := hfoot.out b hb; omega
  have hc0 : ∀ b, foot lb mb lk L b → b ≠ W0.heap.size := fun b hb => by have := hfoot.out b hb; omega
  have hac : W0.heap.size ≠ w.heap.size := by omega
  have hale : w.heap.size ≤ w.heap.size := Nat.le_refl _
  replace hL0 := Aside0.mk hL0
  replace hC0 := Aside0.mk hC0
  replace hQa := Aside0.mk hQa
  replace hQc := Aside0.mk hQc
  replace ha0 := Aside0.mk ha0
  replace hc0 := Aside0.mk hc0
  clear hb0 HLA hCA hQA HC hszA hs0
  generalize W0.alloc (.cells #[.string v1, .string v2] 46) = V at hL0 hC0 hQa hQc ⊢
  generalize W0.heap.size = qc at hQc hc0 hac ⊢
  generalize hqa : w.heap.size = qa at hQa ha0 hac hale ⊢
  replace hale := Aside0.mk (show w.heap.size ≤ qa by omega)
  clear hqa hfoot
  have hL := hL0.out
  have hc0' : V.cell? ⟨lb, 0, none⟩ = some (.map (some mb)) := (blk_cell hL.head 0).trans rfl
  have hr := look_some hL hwh (by rw [HH.out]; rfl)
  have E0 := Aside0.mk (LIs.drew hL)
  have e1 := hL.setNext (by decide) enc_len HP.out nx
  have bh := hL.link h (v1, v2) nx pv HH.out
  have g1 : V.cell? ⟨lk h, 2, none⟩ = some (.int .i64 nx) := (blk_cell bh 2).trans rfl
  have g2 : V.cell? ⟨lk h, 3, none⟩ = some (.int .i64 pv) := (blk_cell bh 3).trans rfl
  obtain ⟨⟨xp, np, pp⟩, hpe⟩ := Option.isSome_iff_exists.1 HP.out
  have bp := hL.link pv xp np pp hpe
  have g3 : V.cell? ⟨lk pv, 2, none⟩ = some (.int .i64 np) := (blk_cell bp 2).trans rfl
  have g4 : V.frozen? ⟨lk pv, 2, none⟩ = false := blk_frozen bp 2
  have hrp : (Instr.lookup 139 (.map (some mb)) (.int .i64 pv) false).run Try.prog V.drew = .ok (.pointer (some ⟨lk pv, 0, none⟩)) V.drew := look_some (LIs.drew hL) hwp HP.out
  have E1 := Aside0.mk (LIs.drew e1)
  have hC1 := Aside0.mk ((hC0.out.setCell ⟨lk pv, 2, none⟩ (fun _ => .inr (.inr ⟨pv, HP.out, rfl⟩)) (.int .i64 nx)).drew)
  have fpv : foot lb mb lk L (lk pv) := .inr (.inr ⟨pv, HP.out, rfl⟩)
  have fnx : foot lb mb lk L (lk nx) := .inr (.inr ⟨nx, HN.out, rfl⟩)
  have fmb : foot lb mb lk L mb := .inr (.inl rfl)
  have hQa1 := Aside0.mk (blk_drew (blk_far hQa.out (p := ⟨lk pv, 2, none⟩) (fun e => ha0.out _ fpv e.symm) (.int .i64 nx)))
  have hQc1 := Aside0.mk (blk_drew (blk_far hQc.out (p := ⟨lk pv, 2, none⟩) (fun e => hc0.out _ fpv e.symm) (.int .i64 nx)))
  have hm1 := Aside0.mk (ha0.out mb fmb)
  have hm2 := Aside0.mk (hc0.out mb fmb)
  have hn1 := Aside0.mk (ha0.out _ fnx)
  have hn2 := Aside0.mk (hc0.out _ fnx)
  clear hL e1 bh hpe bp hC0 hL0 hQa hQc fpv fnx fmb
  go_wp2_with fail
  go_region
  clear hc0' hr g1 g2 g3 g4 hrp
  generalize (V.setCell ⟨lk pv, 2, none⟩ (.int .i64 nx)).drew = W1 at E1 hC1 hQa1 hQc1 ⊢
  have h1 : setNext L pv nx h = some ((v1, v2), nx, pv) := by unfold Row.setNext; rw [if_neg hNe.out.1]; exact HH.out
  have n1 : (setNext L pv nx nx).isSome := by unfold Row.setNext; split <;> simp [HN.out]
  have e2 := E1.out.setPrev (by decide) enc_len n1 pv
  have hc0' : W1.cell? ⟨lb, 0, none⟩ = some (.map (some mb)) := (blk_cell E1.out.head 0).trans rfl
  have bh := E1.out.link h (v1, v2) nx pv h1
  have g1 : W1.cell? ⟨lk h, 2, none⟩ = some (.int .i64 nx) := (blk_cell bh 2).trans rfl
  have g2 : W1.cell? ⟨lk h, 3, none⟩ = some (.int .i64 pv) := (blk_cell bh 3).trans rfl
  obtain ⟨⟨xp, np, pp⟩, hpe⟩ := Option.isSome_iff_exists.1 n1
  have bp := E1.out.link nx xp np pp hpe
  have g3 : W1.cell? ⟨lk nx, 3, none⟩ = some (.int .i64 pp) := (blk_cell bp 3).trans rfl
  have g4 : W1.frozen? ⟨lk nx, 3, none⟩ = false := blk_frozen bp 3
  have hrp : (Instr.lookup 139 (.map (some mb)) (.int .i64 nx) false).run Try.prog W1.drew = .ok (.pointer (some ⟨lk nx, 0, none⟩)) W1.drew := look_some (LIs.drew E1.out) hwn n1
  have E2 := Aside0.mk (LIs.drew e2)
  have hC2 := Aside0.mk ((hC1.out.setCell ⟨lk nx, 3, none⟩ (fun _ => .inr (.inr ⟨nx, HN.out, rfl⟩)) (.int .i64 pv)).drew)
  have hQa2 := Aside0.mk (blk_drew (blk_far hQa1.out (p := ⟨lk nx, 3, none⟩) (fun e => hn1.out e.symm) (.int .i64 pv)))
  have hQc2 := Aside0.mk (blk_drew (blk_far hQc1.out (p := ⟨lk nx, 3, none⟩) (fun e => hn2.out e.symm) (.int .i64 pv)))
  clear h1 n1 e2 bh hpe bp hQa1 hQc1
  go_wp2_with fail
  go_region
  clear hc0' g1 g2 g3 g4 hrp
  generalize (W1.setCell ⟨lk nx, 3, none⟩ (.int .i64 pv)).drew = W2 at E2 hC2 hQa2 hQc2 ⊢
  have hc0' : W2.cell? ⟨lb, 0, none⟩ = some (.map (some mb)) := (blk_cell E2.out.head 0).trans rfl
  go_wp2_with (at_delete; refine drop_at E2.out.map rfl _ _ 139 rfl Try.underlying139 rfl h rfl hwh ?_; intro W3 hm3 hg3 hz3; replace hm3 := Aside0.mk hm3; have hQa3 := blk_grown hQa2.out hg3 (by intro e; exact hm1.out (Option.some.inj e).symm); have hQc3 := blk_grown hQc2.out hg3 (by intro e; exact hm2.out (Option.some.inj e).symm); have y0 : W3.cell? ⟨qc, 0, none⟩ = some (.string v1) := (blk_cell hQc3 0).trans rfl; have y1 : W3.cell? ⟨qc, 1, none⟩ = some (.string v2) := (blk_cell hQc3 1).trans rfl; have z0 : W3.cell? ⟨qa, 0, none⟩ = some (.string ⟨#[]⟩) := (blk_cell hQa3 0).trans rfl; have z1 : W3.cell? ⟨qa, 1, none⟩ = some (.string ⟨#[]⟩) := (blk_cell hQa3 1).trans rfl; have u0 := blk_frozen hQa3 0; have u1 := blk_frozen hQa3 1; replace hQa3 := Aside0.mk hQa3; clear hQc3; replace hg3 := Aside0.mk hg3)
  have h2 : (setPrev (setNext L pv nx) nx pv h).isSome := by unfold Row.setPrev Row.setNext; rw [if_neg hNe.out.1, if_neg hNe.out.2, HH.out]; rfl
  have hm4 := hm3.out
  rw [if_pos (by obtain ⟨x, e⟩ := Option.isSome_iff_exists.1 h2; rw [e]; rfl)] at hm4
  have e3 := E2.out.del hm4 (fun b hb hne => hg3.out.block b hb (by intro e; exact hne (Option.some.inj e)))
  have hC3 := hC2.out.grown hg3.out (fun k e _ => by cases e; exact .inr (.inl rfl))
  have hfin := box46 hQa3.out (.string v1) (.string v2)
  have r0 := (blk_cell hfin 0).trans (show _ = some (.string v1) from rfl)
  have r1 := (blk_cell hfin 1).trans (show _ = some (.string v2) from rfl)
  have hC4 := (hC3.setCell ⟨qa, 0, none⟩ (fun hlt => absurd hlt (by have := hale.out; simp only; omega)) (.string v1)).setCell ⟨qa, 1, none⟩ (fun hlt => absurd hlt (by have := hale.out; simp only; omega)) (.string v2)
  have e4 := e3.move (W := (W3.setCell ⟨qa, 0, none⟩ (.string v1)).setCell ⟨qa, 1, none⟩ (.string v2)) (fun b hb => by
    have hb' : foot lb mb lk L b := foot_sub hb
    rw [Below.heap_setCell _ _ _ _ (ha0.out b hb'), Below.heap_setCell _ _ _ _ (ha0.out b hb')])
  refine bodyPost_ret (v := .tuple #[.agg #[.string v1, .string v2], .bool true]) (by simp [results, Try.results33, go_sem, r0, r1]) rfl ⟨rfl, e4, hC4⟩

def NewPost (w : World) (e : Ending) (w' : World) : Prop :=
  e = .returned (.pointer (some ⟨w.heap.size + 2, 0, none⟩)) ∧ LIs enc 138 141 w' (w.heap.size + 2) w.heap.size (fun _ => w.heap.size + 1) (newL z2) 0 1 ∧ Below w.heap.size w w'

end

theorem new_walk (w : World) : Calls Try.prog 29 #[] w (NewPost w) := by
  have hmm := @run_makeMap Try.prog
  have m0 : MapIs intCode ((w.alloc (.map #[] 0)).alloc (.cells #[.string ⟨#[]⟩, .string ⟨#[]⟩, .int .i64 0, .int .i64 0] 138)) w.heap.size (fun _ => none) 0 := (MapIs.made intCode w).of_heap (Below.heap_alloc _ _ _ (by simp))
  obtain ⟨W, hrun, hm, hg, hz⟩ := m0.store Try.underlying139 (x := 0) (show (Lit.int .i64 0).wf = true by decide) (.pointer (some ⟨w.heap.size + 1, 0, none⟩))
  simp only [intCode] at hrun
  have hz : W.heap.size = w.heap.size + 2 := by simpa using hz
  clear m0
  go_enter Try.func29, Try.ntmps29
  go_wp2_with fail
  go_ret
  have hb : W.heap[w.heap.size + 1]? = some (.cells #[.string ⟨#[]⟩, .string ⟨#[]⟩, .int .i64 0, .int .i64 0] 138 (0, 0)) := by
    refine (hg.block _ (by simp) (by simp)).trans ?_
    have := blk_new (w.alloc (.map #[] 0)) (.cells #[.string ⟨#[]⟩, .string ⟨#[]⟩, .int .i64 0, .int .i64 0] 138)
    simpa using this
  refine ⟨rfl, ⟨?_, ?_, ?_, ?_⟩, ?_⟩
  · have := blk_new W (.cells #[.map (some w.heap.size), .int .i64 0] 141)
    rw [hz] at this
    exact this
  · refine MapIs.congr (MapIs.of_heap hm (Below.heap_alloc _ _ _ (by omega))) (fun x => ?_)
    by_cases hx : x = 0
    · subst hx; rw [mset_same]; simp [newL]
    · rw [mset_other _ hx]; simp [newL, hx]
  · intro h x nx pv e
    unfold newL at e
    split at e
    · cases e
      exact (Below.heap_alloc _ _ _ (by omega)).trans hb
    · cases e
  · intro h h' a b _
    have z : ∀ y, (newL z2 y).isSome → y = 0 := fun y hy => by
      unfold newL at hy
      split at hy
      · assumption
      · cases hy
    rw [z h a, z h' b]
  · exact ((((Below.refl _ w).alloc (Nat.le_refl _) _).alloc (by simp) _).grown hg (by simp; omega) (fun k e => by cases e; exact Nat.le_refl _)).alloc (by omega) _

end Go.Proofs.Ytnncomhgclffaaa.LP
