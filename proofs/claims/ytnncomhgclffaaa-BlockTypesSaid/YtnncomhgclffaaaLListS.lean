/- The functions of package list at strings: what each answers and what it leaves. -/
import Derived.Test.YtnncomhgclffaaaLList
import Derived.RegionTactic
import Derived.BigRegion
import Derived.Outline
namespace Go.Proofs.Ytnncomhgclffaaa.LS
open Go.RowKit Go.Proofs.YtnncomhgclffaaaW.PrintWords Go.Proofs.YtnncomhgclffaaaL Go.Proofs.YtnncomhgclffaaaL.Row Go.Proofs.Ytnncomhgclffaaa.LL

abbrev enc (s : ByteArray) : List Value := [.string s]
theorem enc_len (s : ByteArray) : (enc s).length = 1 := rfl

section
variable {w : World} {lb mb : Nat} {lk : Int → Nat} {L : Int → Option (ByteArray × Int × Int)} {last : Int} {n : Nat}

theorem zeroP (w : World) : (zeroValue 148).run Try.prog w = .ok (.pointer none) w := by kernel_rfl


def PutPost (w : World) (lb mb : Nat) (lk : Int → Nat) (L : Int → Option (ByteArray × Int × Int)) (last : Int) (n : Nat) (h ph : Int) (v : ByteArray) (e : Ending) (w' : World) : Prop :=
  e = .returned (.int .i64 (last + 1)) ∧ LIs enc 150 153 w' lb mb (updN lk (last + 1) w.heap.size) (putL L last h ph v) (last + 1) (n + 1) ∧ Ch w w' (foot lb mb lk L)

set_option maxHeartbeats 2000000 in
set_option maxRecDepth 100000 in
theorem put_walk (h : Int) (v : ByteArray) (hL : LIs enc 150 153 w lb mb lk L last n) (hl0 : 0 ≤ last) (hl1 : last < 1000000)
    (xh : ByteArray) (nh ph : Int) (hh : L h = some (xh, nh, ph)) (hp : (L ph).isSome) (hno : L (last + 1) = none) (hwh : (Lit.int .i64 h).wf = true) (hwp : (Lit.int .i64 ph).wf = true) :
    Calls Try.prog 94 #[.pointer (some ⟨lb, 0, none⟩), .int .i64 h, .string v] w (PutPost w lb mb lk L last n h ph v) := by
  have hc0 : w.cell? ⟨lb, 0, none⟩ = some (.map (some mb)) := (blk_cell hL.head 0).trans rfl
  have hc1 : w.cell? ⟨lb, 1, none⟩ = some (.int .i64 last) := (blk_cell hL.head 1).trans rfl
  have hf1 : w.frozen? ⟨lb, 1, none⟩ = false := blk_frozen hL.head 1
  have HL := Aside0.mk hL
  have HH := Aside0.mk hh
  have HP := Aside0.mk hp
  have HN := Aside0.mk hno
  have hC0 := Aside0.mk (Ch.refl w (foot lb mb lk L))
  have e1 := hL.setLast (by decide) (last + 1)
  have hC1 := Aside0.mk (hC0.out.setCell ⟨lb, 1, none⟩ (fun _ => .inl rfl) (.int .i64 (last + 1)))
  have hlk : (Instr.lookup 151 (.map (some mb)) (.int .i64 h) false).run Try.prog (w.setCell ⟨lb, 1, none⟩ (.int .i64 (last + 1))) = .ok (.pointer (some ⟨lk h, 0, none⟩)) (w.setCell ⟨lb, 1, none⟩ (.int .i64 (last + 1))) := by
    have := e1.map.look Try.underlying151 (zeroP _) (x := h) hwh false
    rw [hh] at this
    exact this
  have hs1 := Aside0.mk (show (w.setCell ⟨lb, 1, none⟩ (.int .i64 (last + 1))).heap.size = w.heap.size by simp [World.setCell])
  have E1 := Aside0.mk e1
  clear hL hh hp hno e1
  go_enter Try.func94, Try.ntmps94
  go_wp2_with fail
  clear hc0 hc1 hf1 hlk
  generalize (w.setCell ⟨lb, 1, none⟩ (.int .i64 (last + 1))) = W1 at E1 hC1 hs1 ⊢
  have g0 : W1.cell? ⟨lb, 0, none⟩ = some (.map (some mb)) := (blk_cell E1.out.head 0).trans rfl
  have g1 : W1.cell? ⟨lb, 1, none⟩ = some (.int .i64 (last + 1)) := (blk_cell E1.out.head 1).trans rfl
  have g2 : W1.cell? ⟨lk h, 2, none⟩ = some (.int .i64 ph) := (blk_cell (E1.out.link h xh nh ph HH.out) 2).trans rfl
  have n0 : lb < W1.heap.size := blk_lt E1.out.head
  have n1 : lk h < W1.heap.size := blk_lt (E1.out.link h xh nh ph HH.out)
  have hmm : MapIs intCode (W1.alloc (.cells #[.string v, .int .i64 h, .int .i64 ph] 150)).drew mb _ n := E1.out.map.of_heap (Below.heap_alloc _ _ _ E1.out.map.lt)
  obtain ⟨W2, hrun, hmap2, hgr2, _⟩ := hmm.store Try.underlying151 (x := last + 1) (WalkArith.wf_i64 (by omega)) (.pointer (some ⟨W1.heap.size, 0, none⟩))
  simp only [intCode] at hrun
  rw [HN.out] at hmap2
  have e2 := E1.out.ins (W := W2) HN.out v h ph hmap2 ((hgr2.block _ (by simp) (by have := E1.out.map.lt; intro e; cases e; omega)).trans (blk_new _ _)) (fun b hb hne => (hgr2.block b (by simp; omega) (by intro e; exact hne (Option.some.inj e))).trans (Below.heap_alloc _ _ _ hb))
  rw [hs1.out] at e2
  have hC2 := Aside0.mk ((hC1.out.alloc (.cells #[.string v, .int .i64 h, .int .i64 ph] 150)).drew.grown hgr2 (fun k e _ => by cases e; exact .inr (.inl rfl)))
  have E2 := Aside0.mk e2
  clear hmm hmap2 hgr2 e2
  go_region
  go_wp2_with fail
  clear g0 g1 g2 n0 n1 hrun
  have hne : h ≠ last + 1 := fun e => by have := HH.out; rw [e, HN.out] at this; cases this
  have hnp : ph ≠ last + 1 := fun e => by have := HP.out; rw [e, HN.out] at this; cases this
  have l2 : updN lk (last + 1) w.heap.size ph = lk ph := by simp [updN, hnp]
  have l2h : updN lk (last + 1) w.heap.size h = lk h := by simp [updN, hne]
  have p2 : (Row.ins L (last + 1) (some (v, h, ph)) ph).isSome := by simp only [Row.ins, if_neg hnp]; exact HP.out
  have h2 : Row.ins L (last + 1) (some (v, h, ph)) h = some (xh, nh, ph) := by simp only [Row.ins, if_neg hne]; exact HH.out
  have e3 := E2.out.setNext (by decide) enc_len p2 (last + 1)
  rw [l2] at e3
  have g0 : W2.cell? ⟨lb, 0, none⟩ = some (.map (some mb)) := (blk_cell E2.out.head 0).trans rfl
  have g1 : W2.cell? ⟨lb, 1, none⟩ = some (.int .i64 (last + 1)) := (blk_cell E2.out.head 1).trans rfl
  have bh := E2.out.link h xh nh ph h2
  rw [l2h] at bh
  have g2 : W2.cell? ⟨lk h, 2, none⟩ = some (.int .i64 ph) := (blk_cell bh 2).trans rfl
  obtain ⟨⟨xp, np, pp⟩, hpe⟩ := Option.isSome_iff_exists.1 p2
  have bp := E2.out.link ph xp np pp hpe
  rw [l2] at bp
  have g3 : W2.cell? ⟨lk ph, 1, none⟩ = some (.int .i64 np) := (blk_cell bp 1).trans rfl
  have g4 : W2.frozen? ⟨lk ph, 1, none⟩ = false := blk_frozen bp 1
  have hrun : (Instr.lookup 151 (.map (some mb)) (.int .i64 ph) false).run Try.prog W2.drew = .ok (.pointer (some ⟨lk ph, 0, none⟩)) W2.drew := by
    have := (show MapIs intCode W2.drew mb _ (n + 1) from E2.out.map).look Try.underlying151 (zeroP _) (x := ph) hwp false
    rw [hpe, l2] at this
    exact this
  have hC3 := Aside0.mk ((hC2.out.setCell ⟨lk ph, 1, none⟩ (fun _ => .inr (.inr ⟨ph, HP.out, rfl⟩)) (.int .i64 (last + 1))).drew)
  have E3 := Aside0.mk (e3.move (W := (W2.setCell ⟨lk ph, 1, none⟩ (.int .i64 (last + 1))).drew) (fun _ _ => rfl))
  clear e3 bh bp l2 hnp hne p2 hpe
  have h3 := Aside0.mk (show ∃ q, setNext (Row.ins L (last + 1) (some (v, h, ph))) ph (last + 1) h = some (xh, q, ph) by
    unfold Row.setNext; rw [h2]; split; exact ⟨_, rfl⟩; exact ⟨_, rfl⟩)
  clear h2
  replace l2h := Aside0.mk l2h
  go_region
  clear g0 g1 g2 g3 g4 hrun
  generalize (W2.setCell ⟨lk ph, 1, none⟩ (.int .i64 (last + 1))).drew = W3 at E3 hC3 ⊢
  obtain ⟨q, h3⟩ := h3.out
  have bh := E3.out.link h xh q ph h3
  rw [l2h.out] at bh
  have g0 : W3.cell? ⟨lb, 0, none⟩ = some (.map (some mb)) := (blk_cell E3.out.head 0).trans rfl
  have g1 : W3.cell? ⟨lb, 1, none⟩ = some (.int .i64 (last + 1)) := (blk_cell E3.out.head 1).trans rfl
  have g2 : W3.cell? ⟨lk h, 2, none⟩ = some (.int .i64 ph) := (blk_cell bh 2).trans rfl
  have g3 : W3.frozen? ⟨lk h, 2, none⟩ = false := blk_frozen bh 2
  have e4 := E3.out.setPrev (by decide) enc_len (y := h) (by rw [h3]; rfl) (last + 1)
  rw [l2h.out] at e4
  have hC4 := Aside0.mk ((hC3.out.setCell ⟨lk h, 2, none⟩ (fun _ => .inr (.inr ⟨h, by rw [HH.out]; rfl, rfl⟩)) (.int .i64 (last + 1))))
  have g4 : (W3.setCell ⟨lk h, 2, none⟩ (.int .i64 (last + 1))).cell? ⟨lb, 1, none⟩ = some (.int .i64 (last + 1)) := (blk_cell e4.head 1).trans rfl
  have E4 := Aside0.mk e4
  clear h3 bh e4
  go_wp2_with fail
  go_ret
  exact ⟨rfl, E4.out, hC4.out⟩


theorem look_some (hL : LIs enc 150 153 w lb mb lk L last n) {h : Int} (hwh : (Lit.int .i64 h).wf = true) (hh : (L h).isSome) :
    (Instr.lookup 151 (.map (some mb)) (.int .i64 h) false).run Try.prog w = .ok (.pointer (some ⟨lk h, 0, none⟩)) w := by
  have := hL.map.look Try.underlying151 (zeroP _) (x := h) hwh false
  obtain ⟨x, e⟩ := Option.isSome_iff_exists.1 hh
  rw [e] at this
  exact this
theorem look_none (hL : LIs enc 150 153 w lb mb lk L last n) {h : Int} (hwh : (Lit.int .i64 h).wf = true) (hh : L h = none) :
    (Instr.lookup 151 (.map (some mb)) (.int .i64 h) false).run Try.prog w = .ok (.pointer none) w := by
  have := hL.map.look Try.underlying151 (zeroP _) (x := h) hwh false
  rw [hh] at this
  exact this

set_option maxRecDepth 100000 in
theorem get_walk (h : Int) (hL : LIs enc 150 153 w lb mb lk L last n) (hwh : (Lit.int .i64 h).wf = true) :
    Calls Try.prog 50 #[.pointer (some ⟨lb, 0, none⟩), .int .i64 h] w fun e w' => e = .returned (.tuple #[.string (Row.valOf (⟨#[]⟩ : ByteArray) L h), .bool (isOf L h)]) ∧ w = w' := by
  have hc0 : w.cell? ⟨lb, 0, none⟩ = some (.map (some mb)) := (blk_cell hL.head 0).trans rfl
  by_cases h0 : h = 0
  · subst h0
    have ev : Row.valOf (⟨#[]⟩ : ByteArray) L 0 = ⟨#[]⟩ := by simp [Row.valOf]
    have ei : isOf L 0 = false := by simp [isOf]
    rw [ev, ei]
    cases hh : L 0 with
    | none =>
      have hr := look_none hL hwh hh
      clear hL hh ev ei
      go_enter Try.func50, Try.ntmps50
      go_wp2_with fail
      go_ret2
      exact ⟨rfl, rfl⟩
    | some x =>
      have hr := look_some hL hwh (by rw [hh]; rfl)
      clear hL hh ev ei
      go_enter Try.func50, Try.ntmps50
      go_wp2_with fail
      go_ret2
      exact ⟨rfl, rfl⟩
  · have hb : (h == 0) = false := beq_eq_false_iff_ne.2 h0
    cases hh : L h with
    | none =>
      have hr := look_none hL hwh hh
      have ev : Row.valOf (⟨#[]⟩ : ByteArray) L h = ⟨#[]⟩ := by simp [Row.valOf, hh]
      have ei : isOf L h = false := by simp [isOf, hh]
      rw [ev, ei]
      clear hL hh ev ei h0
      go_enter Try.func50, Try.ntmps50
      go_wp2_with fail
      go_ret2
      exact ⟨rfl, rfl⟩
    | some x =>
      obtain ⟨x, nx, pv⟩ := x
      have hr := look_some hL hwh (by rw [hh]; rfl)
      have ev : Row.valOf (⟨#[]⟩ : ByteArray) L h = x := by simp [Row.valOf, hh, h0]
      have ei : isOf L h = true := by simp [isOf, hh, h0]
      have g0 : w.cell? ⟨lk h, 0, none⟩ = some (.string x) := (blk_cell (hL.link h x nx pv hh) 0).trans rfl
      rw [ev, ei]
      clear hL hh ev ei h0
      go_enter Try.func50, Try.ntmps50
      go_wp2_with fail
      go_ret2
      exact ⟨rfl, rfl⟩

set_option maxRecDepth 100000 in
theorem next_walk (h : Int) (hL : LIs enc 150 153 w lb mb lk L last n) (hwh : (Lit.int .i64 h).wf = true) :
    Calls Try.prog 51 #[.pointer (some ⟨lb, 0, none⟩), .int .i64 h] w fun e w' => e = .returned (.int .i64 (nextOf L h)) ∧ w = w' := by
  have hc0 : w.cell? ⟨lb, 0, none⟩ = some (.map (some mb)) := (blk_cell hL.head 0).trans rfl
  cases hh : L h with
  | none =>
    have hr := look_none hL hwh hh
    have ev : nextOf L h = 0 := by simp [nextOf, hh]
    rw [ev]
    clear hL hh ev
    go_enter Try.func51, Try.ntmps51
    go_wp2_with fail
    go_ret
    exact ⟨rfl, rfl⟩
  | some x =>
    obtain ⟨x, nx, pv⟩ := x
    have hr := look_some hL hwh (by rw [hh]; rfl)
    have ev : nextOf L h = nx := by simp [nextOf, hh]
    have g0 : w.cell? ⟨lk h, 1, none⟩ = some (.int .i64 nx) := (blk_cell (hL.link h x nx pv hh) 1).trans rfl
    rw [ev]
    clear hL hh ev
    go_enter Try.func51, Try.ntmps51
    go_wp2_with fail
    go_ret
    exact ⟨rfl, rfl⟩

set_option maxRecDepth 100000 in
theorem prev_walk (h : Int) (hL : LIs enc 150 153 w lb mb lk L last n) (hwh : (Lit.int .i64 h).wf = true) :
    Calls Try.prog 53 #[.pointer (some ⟨lb, 0, none⟩), .int .i64 h] w fun e w' => e = .returned (.int .i64 (prevOf L h)) ∧ w = w' := by
  have hc0 : w.cell? ⟨lb, 0, none⟩ = some (.map (some mb)) := (blk_cell hL.head 0).trans rfl
  cases hh : L h with
  | none =>
    have hr := look_none hL hwh hh
    have ev : prevOf L h = 0 := by simp [prevOf, hh]
    rw [ev]
    clear hL hh ev
    go_enter Try.func53, Try.ntmps53
    go_wp2_with fail
    go_ret
    exact ⟨rfl, rfl⟩
  | some x =>
    obtain ⟨x, nx, pv⟩ := x
    have hr := look_some hL hwh (by rw [hh]; rfl)
    have ev : prevOf L h = pv := by simp [prevOf, hh]
    have g0 : w.cell? ⟨lk h, 2, none⟩ = some (.int .i64 pv) := (blk_cell (hL.link h x nx pv hh) 2).trans rfl
    rw [ev]
    clear hL hh ev
    go_enter Try.func53, Try.ntmps53
    go_wp2_with fail
    go_ret
    exact ⟨rfl, rfl⟩

set_option maxRecDepth 100000 in
theorem len_walk (hL : LIs enc 150 153 w lb mb lk L last n) (hn : n < 1000000) :
    Calls Try.prog 54 #[.pointer (some ⟨lb, 0, none⟩)] w fun e w' => e = .returned (.int .i64 ((n : Int) - 1)) ∧ w = w' := by
  have hc0 : w.cell? ⟨lb, 0, none⟩ = some (.map (some mb)) := (blk_cell hL.head 0).trans rfl
  have HM := Aside0.mk hL.map
  clear hL
  go_enter Try.func54, Try.ntmps54
  go_wp2_with (at_len; refine len_at HM.out rfl _ 151 rfl Try.underlying151 rfl ?_)
  go_ret
  exact ⟨rfl, rfl⟩

theorem LIs.drew {w : World} (h : LIs enc 150 153 w lb mb lk L last n) : LIs enc 150 153 w.drew lb mb lk L last n := h.move (fun _ _ => rfl)

set_option maxHeartbeats 2000000 in
set_option maxRecDepth 100000 in
theorem push_walk (v : ByteArray) (hL : LIs enc 150 153 w lb mb lk L last n) (hl0 : 0 ≤ last) (hl1 : last < 1000000)
    (xh : ByteArray) (nh ph : Int) (hh : L 0 = some (xh, nh, ph)) (hp : (L ph).isSome) (hno : L (last + 1) = none) (hwp : (Lit.int .i64 ph).wf = true) :
    Calls Try.prog 44 #[.pointer (some ⟨lb, 0, none⟩), .string v] w (PutPost w lb mb lk L last n 0 ph v) := by
  have HC := Aside0.mk (put_walk (w := w) 0 v hL hl0 hl1 xh nh ph hh hp hno (by decide) hwp)
  clear hL hh hp hno
  go_enter Try.func44, Try.ntmps44
  go_wp2_with (go_at_call 94; refine HC.out.mono ?_; rintro e w1 ⟨rfl, h1, h2⟩; replace h1 := Aside0.mk h1; replace h2 := Aside0.mk h2)
  go_ret
  exact ⟨rfl, h1.out, h2.out⟩


def RemPost (w : World) (lb mb : Nat) (lk : Int → Nat) (L : Int → Option (ByteArray × Int × Int)) (last : Int) (n : Nat) (h nx pv : Int) (v : ByteArray) (e : Ending) (w' : World) : Prop :=
  e = .returned (.tuple #[.string v, .bool true]) ∧ LIs enc 150 153 w' lb mb lk (removeL L h nx pv) last (n - 1) ∧ Ch w w' (foot lb mb lk L)

set_option maxHeartbeats 2000000 in
set_option maxRecDepth 100000 in
theorem remove_walk (h : Int) (hL : LIs enc 150 153 w lb mb lk L last n) (hh0 : h ≠ 0)
    (v : ByteArray) (nx pv : Int) (hh : L h = some (v, nx, pv)) (hp : (L pv).isSome) (hn : (L nx).isSome) (hpv : h ≠ pv) (hnx : h ≠ nx) (hwh : (Lit.int .i64 h).wf = true) (hwp : (Lit.int .i64 pv).wf = true) (hwn : (Lit.int .i64 nx).wf = true) :
    Calls Try.prog 49 #[.pointer (some ⟨lb, 0, none⟩), .int .i64 h] w (RemPost w lb mb lk L last n h nx pv v) := by
  have HC := Aside0.mk (get_walk (w := w) h hL hwh)
  have ev : Row.valOf (⟨#[]⟩ : ByteArray) L h = v := by simp [Row.valOf, hh, hh0]
  have ei : isOf L h = true := by simp [isOf, hh, hh0]
  rw [ev, ei] at HC
  clear ev ei hh0
  have hc0 : w.cell? ⟨lb, 0, none⟩ = some (.map (some mb)) := (blk_cell hL.head 0).trans rfl
  have hr := look_some hL hwh (by rw [hh]; rfl)
  have HH := Aside0.mk hh
  have HP := Aside0.mk hp
  have HN := Aside0.mk hn
  have E0 := Aside0.mk (LIs.drew hL)
  have hC0 := Aside0.mk (Ch.refl w (foot lb mb lk L))
  have e1 := hL.setNext (by decide) enc_len hp nx
  have bh := hL.link h v nx pv hh
  have g1 : w.cell? ⟨lk h, 1, none⟩ = some (.int .i64 nx) := (blk_cell bh 1).trans rfl
  have g2 : w.cell? ⟨lk h, 2, none⟩ = some (.int .i64 pv) := (blk_cell bh 2).trans rfl
  obtain ⟨⟨xp, np, pp⟩, hpe⟩ := Option.isSome_iff_exists.1 hp
  have bp := hL.link pv xp np pp hpe
  have g3 : w.cell? ⟨lk pv, 1, none⟩ = some (.int .i64 np) := (blk_cell bp 1).trans rfl
  have g4 : w.frozen? ⟨lk pv, 1, none⟩ = false := blk_frozen bp 1
  have hrp : (Instr.lookup 151 (.map (some mb)) (.int .i64 pv) false).run Try.prog w.drew = .ok (.pointer (some ⟨lk pv, 0, none⟩)) w.drew := look_some (LIs.drew hL) hwp hp
  have E1 := Aside0.mk (LIs.drew e1)
  have hC1 := Aside0.mk ((hC0.out.setCell ⟨lk pv, 1, none⟩ (fun _ => .inr (.inr ⟨pv, hp, rfl⟩)) (.int .i64 nx)).drew)
  have hNe := Aside0.mk (And.intro hpv hnx)
  clear hL hh hp hn e1 bh hpe bp hpv hnx hC0
  go_enter Try.func49, Try.ntmps49
  go_wp2_with (go_at_call 50; refine HC.out.mono ?_; rintro e w1 ⟨rfl, rfl⟩)
  go_region
  clear hc0 hr g1 g2 g3 g4 hrp HC
  generalize (w.setCell ⟨lk pv, 1, none⟩ (.int .i64 nx)).drew = W1 at E1 hC1 ⊢
  have h1 : setNext L pv nx h = some (v, nx, pv) := by unfold Row.setNext; rw [if_neg hNe.out.1]; exact HH.out
  have n1 : (setNext L pv nx nx).isSome := by unfold Row.setNext; split <;> simp [HN.out]
  have e2 := E1.out.setPrev (by decide) enc_len n1 pv
  have hc0 : W1.cell? ⟨lb, 0, none⟩ = some (.map (some mb)) := (blk_cell E1.out.head 0).trans rfl
  have bh := E1.out.link h v nx pv h1
  have g1 : W1.cell? ⟨lk h, 1, none⟩ = some (.int .i64 nx) := (blk_cell bh 1).trans rfl
  have g2 : W1.cell? ⟨lk h, 2, none⟩ = some (.int .i64 pv) := (blk_cell bh 2).trans rfl
  obtain ⟨⟨xp, np, pp⟩, hpe⟩ := Option.isSome_iff_exists.1 n1
  have bp := E1.out.link nx xp np pp hpe
  have g3 : W1.cell? ⟨lk nx, 2, none⟩ = some (.int .i64 pp) := (blk_cell bp 2).trans rfl
  have g4 : W1.frozen? ⟨lk nx, 2, none⟩ = false := blk_frozen bp 2
  have hrp : (Instr.lookup 151 (.map (some mb)) (.int .i64 nx) false).run Try.prog W1.drew = .ok (.pointer (some ⟨lk nx, 0, none⟩)) W1.drew := look_some (LIs.drew E1.out) hwn n1
  have E2 := Aside0.mk (LIs.drew e2)
  have hC2 := Aside0.mk ((hC1.out.setCell ⟨lk nx, 2, none⟩ (fun _ => .inr (.inr ⟨nx, HN.out, rfl⟩)) (.int .i64 pv)).drew)
  clear h1 n1 e2 bh hpe bp
  go_wp2_with fail
  go_region
  clear hc0 g1 g2 g3 g4 hrp
  generalize (W1.setCell ⟨lk nx, 2, none⟩ (.int .i64 pv)).drew = W2 at E2 hC2 ⊢
  have hc0 : W2.cell? ⟨lb, 0, none⟩ = some (.map (some mb)) := (blk_cell E2.out.head 0).trans rfl
  go_wp2_with (at_delete; refine drop_at E2.out.map rfl _ _ 151 rfl Try.underlying151 rfl h rfl hwh ?_; intro W3 hm3 hg3 hz3; replace hm3 := Aside0.mk hm3; replace hg3 := Aside0.mk hg3)
  have h2 : (setPrev (setNext L pv nx) nx pv h).isSome := by unfold Row.setPrev Row.setNext; rw [if_neg hNe.out.1, if_neg hNe.out.2, HH.out]; rfl
  have hm4 := hm3.out
  rw [if_pos (by obtain ⟨x, e⟩ := Option.isSome_iff_exists.1 h2; rw [e]; rfl)] at hm4
  have e3 := E2.out.del hm4 (fun b hb hne => hg3.out.block b hb (by intro e; exact hne (Option.some.inj e)))
  have hC3 := hC2.out.grown hg3.out (fun k e _ => by cases e; exact .inr (.inl rfl))
  go_ret2
  exact ⟨rfl, e3, hC3⟩

set_option maxRecDepth 100000 in
theorem remove_none (h : Int) (hL : LIs enc 150 153 w lb mb lk L last n) (hh : isOf L h = false) (hwh : (Lit.int .i64 h).wf = true) :
    Calls Try.prog 49 #[.pointer (some ⟨lb, 0, none⟩), .int .i64 h] w fun e w' => e = .returned (.tuple #[.string ⟨#[]⟩, .bool false]) ∧ w = w' := by
  have HC := Aside0.mk (get_walk (w := w) h hL hwh)
  have ev : Row.valOf (⟨#[]⟩ : ByteArray) L h = ⟨#[]⟩ := by
    unfold isOf at hh
    unfold Row.valOf
    split
    · rfl
    · rename_i h0
      rw [if_neg h0] at hh
      cases e : L h with
      | none => rfl
      | some x => rw [e] at hh; cases hh
  rw [ev, hh] at HC
  clear ev hL hh
  go_enter Try.func49, Try.ntmps49
  go_wp2_with (go_at_call 50; refine HC.out.mono ?_; rintro e w1 ⟨rfl, rfl⟩)
  go_ret2
  exact ⟨rfl, rfl⟩


def NewPost (w : World) (e : Ending) (w' : World) : Prop :=
  e = .returned (.pointer (some ⟨w.heap.size + 2, 0, none⟩)) ∧ LIs enc 150 153 w' (w.heap.size + 2) w.heap.size (fun _ => w.heap.size + 1) (newL ⟨#[]⟩) 0 1 ∧ Below w.heap.size w w'

end

theorem new_walk (w : World) : Calls Try.prog 42 #[] w (NewPost w) := by
  have hmm := @run_makeMap Try.prog
  have m0 : MapIs intCode ((w.alloc (.map #[] 0)).alloc (.cells #[.string ⟨#[]⟩, .int .i64 0, .int .i64 0] 150)) w.heap.size (fun _ => none) 0 := (MapIs.made intCode w).of_heap (Below.heap_alloc _ _ _ (by simp))
  obtain ⟨W, hrun, hm, hg, hz⟩ := m0.store Try.underlying151 (x := 0) (show (Lit.int .i64 0).wf = true by decide) (.pointer (some ⟨w.heap.size + 1, 0, none⟩))
  simp only [intCode] at hrun
  have hz : W.heap.size = w.heap.size + 2 := by simpa using hz
  clear m0
  go_enter Try.func42, Try.ntmps42
  go_wp2_with fail
  go_ret
  have hb : W.heap[w.heap.size + 1]? = some (.cells #[.string ⟨#[]⟩, .int .i64 0, .int .i64 0] 150 (0, 0)) := by
    refine (hg.block _ (by simp) (by simp)).trans ?_
    have := blk_new (w.alloc (.map #[] 0)) (.cells #[.string ⟨#[]⟩, .int .i64 0, .int .i64 0] 150)
    simpa using this
  refine ⟨rfl, ⟨?_, ?_, ?_, ?_⟩, ?_⟩
  · have := blk_new W (.cells #[.map (some w.heap.size), .int .i64 0] 153)
    rw [hz] at this
    exact this
  · refine MapIs.congr (MapIs.of_heap hm (Below.heap_alloc _ _ _ (by omega))) (fun x => ?_)
    by_cases hx : x = 0
    · subst hx; rw [mset_same]; simp [newL]
    · rw [mset_other _ hx]; simp [newL, hx]
  · intro h x nx pv e
    unfold newL at e
    split at e
    · cases e
      exact (Below.heap_alloc _ _ _ (by omega)).trans hb
    · cases e
  · intro h h' a b _
    have z : ∀ y, (newL (α := ByteArray) ⟨#[]⟩ y).isSome → y = 0 := fun y hy => by
      unfold newL at hy
      split at hy
      · assumption
      · cases hy
    rw [z h a, z h' b]
  · exact ((((Below.refl _ w).alloc (Nat.le_refl _) _).alloc (by simp) _).grown hg (by simp; omega) (fun k e => by cases e; exact Nat.le_refl _)).alloc (by omega) _

set_option maxHeartbeats 2000000 in
set_option maxRecDepth 100000 in
theorem before_walk {w : World} {lb mb : Nat} {lk : Int → Nat} {L : Int → Option (ByteArray × Int × Int)} {last : Int} {n : Nat} (h : Int) (v : ByteArray) (hL : LIs enc 150 153 w lb mb lk L last n) (hl0 : 0 ≤ last) (hl1 : last < 1000000) (hh0 : h ≠ 0)
    (xh : ByteArray) (nh ph : Int) (hh : L h = some (xh, nh, ph)) (hp : (L ph).isSome) (hno : L (last + 1) = none) (hwh : (Lit.int .i64 h).wf = true) (hwp : (Lit.int .i64 ph).wf = true) :
    Calls Try.prog 46 #[.pointer (some ⟨lb, 0, none⟩), .int .i64 h, .string v] w (PutPost w lb mb lk L last n h ph v) := by
  have HC := Aside0.mk (put_walk (w := w) h v hL hl0 hl1 xh nh ph hh hp hno hwh hwp)
  have hc0 : w.cell? ⟨lb, 0, none⟩ = some (.map (some mb)) := (blk_cell hL.head 0).trans rfl
  have hr := look_some hL hwh (by rw [hh]; rfl)
  have hb : (h == 0) = false := beq_eq_false_iff_ne.2 hh0
  clear hL hh hp hno hh0
  go_enter Try.func46, Try.ntmps46
  go_wp2_with (go_at_call 94; refine HC.out.mono ?_; rintro e w1 ⟨rfl, h1, h2⟩; replace h1 := Aside0.mk h1; replace h2 := Aside0.mk h2)
  go_ret
  exact ⟨rfl, h1.out, h2.out⟩

set_option maxRecDepth 100000 in
theorem before_none {w : World} {lb mb : Nat} {lk : Int → Nat} {L : Int → Option (ByteArray × Int × Int)} {last : Int} {n : Nat} (h : Int) (v : ByteArray) (hL : LIs enc 150 153 w lb mb lk L last n) (hh : isOf L h = false) (hwh : (Lit.int .i64 h).wf = true) :
    Calls Try.prog 46 #[.pointer (some ⟨lb, 0, none⟩), .int .i64 h, .string v] w fun e w' => e = .returned (.int .i64 0) ∧ w = w' := by
  have hc0 : w.cell? ⟨lb, 0, none⟩ = some (.map (some mb)) := (blk_cell hL.head 0).trans rfl
  by_cases h0 : h = 0
  · subst h0
    clear hL hh
    go_enter Try.func46, Try.ntmps46
    go_wp2_with fail
    go_ret
    exact ⟨rfl, rfl⟩
  · have hb : (h == 0) = false := beq_eq_false_iff_ne.2 h0
    have hr := look_none hL hwh (by unfold isOf at hh; rw [if_neg h0] at hh; simpa using hh)
    clear hL hh h0
    go_enter Try.func46, Try.ntmps46
    go_wp2_with fail
    go_ret
    exact ⟨rfl, rfl⟩
end Go.Proofs.Ytnncomhgclffaaa.LS
