/- The walks of layer 24: bytes decoded by the program and by the document. -/
import Derived.Test.YtnncomhgclffaaaProg
import Derived.Test.YtnncomhgclffaaaLMap
import Derived.Test.YtnncomhgclffaaaEPlain
import Derived.Test.YtnncomhgclffaaaWMore
import Derived.RegionTactic
import Derived.BigRegion
import Derived.Outline
import Derived.OwnWalk
import Derived.LoopTactic
import Derived.Maps.AppendAt
import Derived.Deep.LoopGhost
namespace Go.Proofs.Ytnncomhgclffaaa.EV
open Go.RowKit Go.Proofs.YtnncomhgclffaaaW.PrintWords Go.Proofs.YtnncomhgclffaaaL Go.Proofs.YtnncomhgclffaaaL.Ev

/-- A slice of bytes that reads as l, in a block below B. -/
def Rd (B : Nat) (w : World) (v : Value) (l : List Int) : Prop :=
  ∃ A cap, v = .slice A l.length cap ∧ l.length ≤ cap ∧ l.length ≤ 1000000 ∧ Bytes l ∧ (0 < l.length → ∃ b off, A = some ⟨b, off, none⟩ ∧ b < B ∧ ∀ i (h : i < l.length), w.cell? ⟨b, off + i, none⟩ = some (.int .u8 l[i]))

theorem Rd.move {B : Nat} {w W : World} {v : Value} {l : List Int} (h : Rd B w v l) (hk : ∀ b, b < B → W.heap[b]? = w.heap[b]?) : Rd B W v l := by
  obtain ⟨A, cap, e, h1, h2, h3, h4⟩ := h
  refine ⟨A, cap, e, h1, h2, h3, fun hp => ?_⟩
  obtain ⟨b, off, e2, hl, hc⟩ := h4 hp
  exact ⟨b, off, e2, hl, fun i hi => (World.cell?_of_block (w := w) (a := ⟨b, off + i, none⟩) (hk b hl)).trans (hc i hi)⟩
theorem Rd.below {B : Nat} {w W : World} {v : Value} {l : List Int} (h : Rd B w v l) (hb : Below B w W) : Rd B W v l := h.move hb.block

theorem Rd.form {B : Nat} {w : World} {v : Value} {l : List Int} (h : Rd B w v l) : ∃ A cap, v = .slice A l.length cap := by
  obtain ⟨A, cap, e, _⟩ := h
  exact ⟨A, cap, e⟩
theorem Rd.bytes {B : Nat} {w : World} {v : Value} {l : List Int} (h : Rd B w v l) : Bytes l := by
  obtain ⟨_, _, _, _, _, h3, _⟩ := h
  exact h3
theorem Rd.short {B : Nat} {w : World} {v : Value} {l : List Int} (h : Rd B w v l) : l.length ≤ 1000000 := by
  obtain ⟨_, _, _, _, h3, _⟩ := h
  exact h3

def TakePost (B : Nat) (w : World) (l : List Int) (e : Ending) (w' : World) : Prop :=
  ∃ v, e = .returned (.tuple #[.int .i64 (hd l), v]) ∧ Rd B w' v l.tail ∧ Below w.heap.size w w' ∧ w'.heap = w.heap

set_option maxRecDepth 100000 in
theorem take_walk (B : Nat) (w : World) (v : Value) (l : List Int) (h : Rd B w v l) : Calls Try.prog 91 #[v] w (TakePost B w l) := by
  obtain ⟨A, cap, rfl, h1, h2, h3, h4⟩ := h
  cases l with
  | nil =>
    clear h4
    go_enter Try.func91, Try.ntmps91
    go_wp2_with fail
    go_ret2
    exact ⟨_, rfl, ⟨none, 0, rfl, Nat.le_refl _, Nat.zero_le _, h3, fun h => absurd h (Nat.lt_irrefl 0)⟩, Below.refl _ _, rfl⟩
  | cons x r =>
    obtain ⟨b, off, rfl, hl, hc⟩ := h4 (by simp)
    have hx := h3 x (by simp)
    have c0 : w.cell? ⟨b, off, none⟩ = some (.int .u8 x) := hc 0 (by simp)
    have hc2 := Aside0.mk hc
    have h3' := Aside0.mk h3
    clear h3 hc
    have hlen : (x :: r).length = r.length + 1 := rfl
    rw [hlen] at h1 h2 ⊢
    clear hlen h4
    obtain ⟨n, hn⟩ : ∃ n, r.length = n := ⟨_, rfl⟩
    rw [hn] at h1 h2 ⊢
    have Hn := Aside0.mk hn
    clear hn
    have hb : (((n + 1 : Nat) : Int) == 0) = false := by rw [beq_eq_false_iff_ne]; omega
    go_enter Try.func91, Try.ntmps91
    go_wp2_with fail
    go_region
    all_goals go_wp2_with fail
    · obtain rfl : cap = 1 := by assumption
      obtain rfl : n = 0 := by omega
      go_ret2
      have hr : r = [] := List.eq_nil_of_length_eq_zero Hn.out
      subst hr
      exact ⟨_, rfl, ⟨_, 0, rfl, Nat.le_refl _, Nat.zero_le _, (fun y hy => by cases hy), fun h => absurd h (Nat.lt_irrefl 0)⟩, (Below.refl _ _).drew, rfl⟩
    · go_ret2
      have hr := Hn.out
      subst hr
      refine ⟨_, rfl, ⟨_, _, rfl, by simp; omega, by simp; omega, h3'.out.tail, fun _ => ⟨b, off + 1, rfl, hl, fun i hi => ?_⟩⟩, (Below.refl _ _).drew, rfl⟩
      have := hc2.out (i + 1) (by simp at hi ⊢; omega)
      have e : off + 1 + i = off + (i + 1) := by omega
      rw [e]
      exact this

def evCells (e : Ev) : List Value := [.int .i64 e.1, .int .i64 e.2.1.1, .int .i64 e.2.1.2.1, .int .i64 e.2.1.2.2, .int .i64 e.2.2]

theorem and7 (x : Int) (h : 0 ≤ x ∧ x < 256) : bits BinOp.and IntKind.i64 x 7 = x % 8 := by
  have : ∀ n : Fin 256, bits BinOp.and IntKind.i64 (n.val : Int) 7 = (n.val : Int) % 8 := by decide +kernel
  have h1 := this ⟨x.toNat, by omega⟩
  simp only at h1
  rwa [Int.toNat_of_nonneg h.1] at h1

theorem Try.info62 : (Try.prog.info? 62).map (fun i => (i.zero, i.size, i.bytes)) = some (some (.agg #[.int .i64 0, .int .i64 0, .int .i64 0, .int .i64 0, .int .i64 0]), 5, 40) := by kernel_rfl

theorem cells_new (w : World) (cs : List Value) (t : TypeId) {n : Nat} (hn : n = w.heap.size) : ∀ j u, cs[j]? = some u → (w.alloc (.cells cs.toArray t)).cell? ((⟨n, 0, none⟩ : Addr).add j) = some u := by
  intro j u hj
  subst hn
  have h := blk_cell (blk_new w (.cells cs.toArray t)) j
  have e : (⟨w.heap.size, 0, none⟩ : Addr).add j = ⟨w.heap.size, j, none⟩ := by
    unfold Addr.add
    split
    · rename_i e; subst e; rfl
    · simp
  rw [e, h]
  simpa using hj

/-- What the loop of Decode keeps. -/
def DecInv (w : World) (l : List Int) (g : Nat) (b out : Value) (wr : World) : Prop :=
  ∃ rest outs, Rd w.heap.size wr b rest ∧ wr.ownsRow w.heap.size 62 5 out outs.length (outs.flatMap evCells) ∧ dec l = outs ++ dec rest ∧ Below w.heap.size w wr ∧ outs.length + rest.length ≤ l.length ∧ g = rest.length

def DecPost (w : World) (l : List Int) (e : Ending) (w' : World) : Prop :=
  ∃ v, e = .returned v ∧ w'.ownsRow w.heap.size 62 5 v (dec l).length ((dec l).flatMap evCells) ∧ Below w.heap.size w w'

/-- The bytes that are left when n have been taken. -/
def dropT : Nat → List Int → List Int
  | 0, l => l
  | n + 1, l => dropT n l.tail
def tri (j : Nat) (r : List Int) (i : Nat) : Int := if i < j then hd (dropT i r) + 1 else 0
theorem dropT_tail : ∀ (n : Nat) (l : List Int), (dropT n l).tail = dropT (n + 1) l
  | 0, _ => rfl
  | n + 1, l => dropT_tail n l.tail
def triCells (j : Nat) (r : List Int) : List Value := [.int .i64 1, .int .i64 (tri j r 0), .int .i64 (tri j r 1), .int .i64 (tri j r 2), .int .i64 0]

/-- The inner loop of Decode, when j bytes have been taken. -/
def TriInv (B : Nat) (w2 : World) (r : List Int) (j : Nat) (b : Value) (wr : World) : Prop :=
  Rd B wr b (dropT j r) ∧ wr.heap[w2.heap.size]? = some (.cells (triCells j r).toArray 62 (0, 0)) ∧ Below w2.heap.size w2 wr ∧ wr.heap.size = w2.heap.size + 1

theorem TriInv.take {B : Nat} {w2 wr w3 : World} {r : List Int} {j : Nat} {b b' : Value} (h : TriInv B w2 r j b wr) (hB : B ≤ w2.heap.size) (hj : j < 3) (hr : Rd B w3 b' (dropT j r).tail) (hh : w3.heap = wr.heap) (hb : Below wr.heap.size wr w3) :
    TriInv B w2 r (j + 1) b' (w3.setCell ⟨w2.heap.size, 1 + j, none⟩ (.int .i64 (hd (dropT j r) + 1))) := by
  obtain ⟨h1, h2, h3, h4⟩ := h
  refine ⟨?_, ?_, ?_, ?_⟩
  · rw [← dropT_tail]
    exact hr.move (fun b hb => Below.heap_setCell _ _ _ _ (by simp; omega))
  · refine blk_put (cs := (triCells j r).toArray) (by rw [hh]; exact h2) (1 + j) _ ?_
    have hc : j = 0 ∨ j = 1 ∨ j = 2 := by omega
    rcases hc with rfl | rfl | rfl <;> simp [triCells, tri]
  · exact (h3.trans (hb.mono (by omega))).setCell (Nat.le_refl _) _
  · simp [World.setCell, hh, h4]

/-- One round more. -/
theorem DecInv.step {w W W' : World} {l r r' : List Int} {x : Int} {outs : List Ev} {ev : Ev} {b v : Value} (hrd : Rd w.heap.size W b r') (hr' : r' = eat x r) (hev : ev = evOf x r) (hbel : Below w.heap.size w W) (hst : Below w.heap.size W W')
    (hown : W'.ownsRow w.heap.size 62 5 v (outs.length + 1) (outs.flatMap evCells ++ evCells ev)) (hdec : dec l = outs ++ dec (x :: r)) (hsz : outs.length + (x :: r).length ≤ l.length) : DecInv w l r'.length b v W' := by
  subst hr' hev
  refine ⟨eat x r, outs ++ [evOf x r], hrd.below hst, ?_, ?_, hbel.trans hst, ?_, rfl⟩
  · simpa using hown
  · rw [hdec, dec]; simp
  · have := eat_le x r
    simp at hsz ⊢
    omega

set_option maxHeartbeats 4000000 in
set_option maxRecDepth 100000 in
theorem decode_walk (w : World) (v : Value) (l : List Int) (h : Rd w.heap.size w v l) : Calls Try.prog 38 #[v] w (DecPost w l) := by
  have H := Aside0.mk h
  clear h
  go_enter Try.func38, Try.ntmps38
  go_wp2_with fail
  go_loopg [0, 3] l.length (fun g b out wr => DecInv w l g b out wr)
  case atStart => exact ⟨l, [], H.out, World.ownsRow_nil _ _ _ _, rfl, Below.refl _ _, by simp, rfl⟩
  case round =>
    obtain ⟨rest, outs, hrd, hown, hdec, hbel, hsz, rfl⟩ := hrel
    replace hdec := Aside0.mk hdec
    replace hown := Aside0.mk hown
    replace hbel := Aside0.mk hbel
    cases rest with
    | nil =>
      have hdl : dec l = outs := by rw [hdec.out, dec, List.append_nil]
      replace hdl := Aside0.mk hdl
      obtain ⟨A, cap, rfl⟩ := hrd.form
      clear hrd
      go_wp2_with fail
      go_ret
      exact ⟨_, rfl, by rw [hdl.out]; exact hown.out, hbel.out⟩
    | cons x r =>
      have HT := Aside0.mk (take_walk _ wr _ _ hrd)
      have hx := hrd.bytes x (by simp)
      have hn9 := hrd.short
      obtain ⟨A, cap, rfl⟩ := hrd.form
      clear hrd
      have hl1 : (x :: r).length = r.length + 1 := rfl
      rw [hl1] at HT hn9 ⊢
      clear hl1
      go_wp2_with fail
      refine HT.out.mono ?_
      rintro e w2 ⟨v2, rfl, hrd2, hb2, hh2⟩
      clear HT
      rw [show hd (x :: r) = x from rfl]
      replace hrd2 := Aside0.mk hrd2
      replace hb2 := Aside0.mk hb2
      replace hh2 := Aside0.mk hh2
      obtain ⟨k, hk⟩ : ∃ k, bits BinOp.and IntKind.i64 x 7 = k := ⟨_, rfl⟩
      have hk2 : k = x % 8 := by rw [← hk]; exact and7 x hx
      obtain ⟨ao, capo, rfl⟩ := owns_form hown.out
      obtain ⟨i0, hi, hz0, hz1, hz2⟩ := info_parts Try.info62
      replace hi := Aside0.mk hi
      replace hz0 := Aside0.mk hz0
      replace hz1 := Aside0.mk hz1
      replace hz2 := Aside0.mk hz2
      have hown2 := Aside0.mk (owns_below hown.out hb2.out)
      have hbel2 := Aside0.mk (hbel.out.trans (hb2.out.mono hbel.out.size))
      have hs2 := hbel2.out.size
      have hos : outs.length ≤ 1000000 := by have := H.out.short; omega
      have hkr : 0 ≤ k ∧ k < 8 := by omega
      replace hk2 := Aside0.mk hk2
      have hkc : k = 0 ∨ k = 1 ∨ k = 2 ∨ k = 3 ∨ k = 4 ∨ k = 5 ∨ k = 6 ∨ k = 7 := by omega
      clear hkr
      rcases hkc with rfl | rfl | rfl | rfl | rfl | rfl | rfl | rfl
      rotate_left 3
      · have hb5 : Below w.heap.size w2 (w2.alloc (.cells #[.int .i64 2, .int .i64 0, .int .i64 0, .int .i64 0, .int .i64 (x / 8)] 62)) := (Below.refl _ _).alloc hs2 _
        have HT2 := Aside0.mk (take_walk _ (w2.alloc (.cells #[.int .i64 2, .int .i64 0, .int .i64 0, .int .i64 0, .int .i64 (x / 8)] 62)) _ _ (hrd2.out.below hb5))
        have hnb := Aside0.mk (blk_new w2 (.cells #[.int .i64 2, .int .i64 0, .int .i64 0, .int .i64 0, .int .i64 (x / 8)] 62))
        have hsz5 := Aside0.mk (show (w2.alloc (.cells #[.int .i64 2, .int .i64 0, .int .i64 0, .int .i64 0, .int .i64 (x / 8)] 62)).heap.size = w2.heap.size + 1 by simp)
        replace hb5 := Aside0.mk hb5
        go_wp2_with fail
        refine HT2.out.mono ?_
        rintro e w5 ⟨v4, rfl, hrd5, hbe5, hh5⟩
        clear HT2
        have hblk : w5.heap[w2.heap.size]? = some (.cells #[.int .i64 2, .int .i64 0, .int .i64 0, .int .i64 0, .int .i64 (x / 8)] 62 (0, 0)) := by rw [hh5]; exact hnb.out
        have c0 : w5.cell? ⟨w2.heap.size, 0, none⟩ = some (.int .i64 2) := (blk_cell hblk 0).trans rfl
        have c1 : w5.cell? ⟨w2.heap.size, 1, none⟩ = some (.int .i64 0) := (blk_cell hblk 1).trans rfl
        have c2 : w5.cell? ⟨w2.heap.size, 2, none⟩ = some (.int .i64 0) := (blk_cell hblk 2).trans rfl
        have c3 : w5.cell? ⟨w2.heap.size, 3, none⟩ = some (.int .i64 0) := (blk_cell hblk 3).trans rfl
        have c4 : w5.cell? ⟨w2.heap.size, 4, none⟩ = some (.int .i64 (x / 8)) := (blk_cell hblk 4).trans rfl
        have f4 : w5.frozen? ⟨w2.heap.size, 4, none⟩ = false := blk_frozen hblk 4
        have hs5 : w5.heap.size = w2.heap.size + 1 := by rw [hh5]; exact hsz5.out
        have hlt5 : w2.heap.size < w5.heap.size := by omega
        have hown6 : (w5.setCell ⟨w2.heap.size, 4, none⟩ (.int .i64 (hd r))).ownsRow w.heap.size 62 5 (.slice ao outs.length capo) outs.length (outs.flatMap evCells) :=
          owns_move hown2.out (fun b _ hl _ => (Below.heap_setCell _ _ _ _ (by simp; omega)).trans ((by rw [hh5]; exact Below.heap_alloc _ _ _ hl)))
        have hst5 : Below w.heap.size w2 (w5.setCell ⟨w2.heap.size, 4, none⟩ (.int .i64 (hd r))) := (hb5.out.trans (hbe5.mono (by rw [hsz5.out]; omega))).setCell (by simp; omega) _
        replace hown6 := Aside0.mk hown6
        replace hst5 := Aside0.mk hst5
        replace hrd5 := Aside0.mk hrd5
        replace hbe5 := Aside0.mk hbe5
        have hs6 : (w5.setCell ⟨w2.heap.size, 4, none⟩ (.int .i64 (hd r))).heap.size = w5.heap.size := by simp [World.setCell]
        replace hs6 := Aside0.mk hs6
        clear hh5 hblk hs5
        go_wp2_with (at_builtin; refine wpList_append_own _ rfl _ _ 55 rfl w.heap.size 62 i0 (.agg #[.int .i64 0, .int .i64 0, .int .i64 0, .int .i64 0, .int .i64 0]) 5 40 Try.underlying55 hi.out hz0.out hz1.out hz2.out rfl (by decide) _ _ _ rfl (hown6.out.alloc _) ⟨w5.heap.size, 0, none⟩ 1 1 (evCells (2, (0, 0, 0), hd r)) rfl rfl (cells_new _ _ _ (by simp)) (by simp [evCells, Value.oneCell']) (by unfold maxLen; omega) (by omega) (by simp [World.setCell]; omega) ?_; intro v3 w3 hown3 hgr3 _; replace hown3 := Aside0.mk hown3; replace hgr3 := Aside0.mk hgr3)
        have hst6 := Below.trans (((Below.refl w.heap.size (w5.setCell ⟨w2.heap.size, 4, none⟩ (.int .i64 (hd r)))).alloc (by rw [hs6.out]; omega) (.cells (evCells (2, (0, 0, 0), hd r)).toArray 62))) ((Below.refl w.heap.size _).grown hgr3.out (by rw [World.size_alloc, hs6.out]; omega) (fun q e => own_base hown6.out q e))
        go_roundg r.tail.length
        case measure => simp; omega
        case rel => exact DecInv.step (x := x) (r := r) (W := w5) hrd5.out (by unfold eat; rw [← hk2.out]; rfl) (by unfold evOf; rw [← hk2.out]; rfl) (hbel2.out.trans (hb5.out.trans (hbe5.out.mono (by rw [hsz5.out]; omega)))) (((Below.refl w.heap.size w5).setCell (by simp; omega) _).trans hst6) hown3.out hdec.out hsz
      · go_wp2_with (at_builtin; refine wpList_append_own _ rfl _ _ 55 rfl w.heap.size 62 i0 (.agg #[.int .i64 0, .int .i64 0, .int .i64 0, .int .i64 0, .int .i64 0]) 5 40 Try.underlying55 hi.out hz0.out hz1.out hz2.out rfl (by decide) _ _ _ rfl ((hown2.out.alloc _).alloc _) ⟨w2.heap.size + 1, 0, none⟩ 1 1 (evCells (3, (0, 0, 0), x / 8)) rfl rfl (cells_new _ _ _ (by simp)) (by simp [evCells, Value.oneCell']) (by unfold maxLen; omega) (by omega) (by simp; omega) ?_; intro v3 w3 hown3 hgr3 _; replace hown3 := Aside0.mk hown3; replace hgr3 := Aside0.mk hgr3)
        have hst := (((Below.refl w.heap.size w2).alloc hs2 (.cells (evCells (3, (0, 0, 0), x / 8)).toArray 62)).alloc (by simp; omega) (.cells (evCells (3, (0, 0, 0), x / 8)).toArray 62)).grown hgr3.out (by simp; omega) (fun q e => own_base hown2.out q e)
        go_roundg r.length
        case measure => simp
        case rel => exact DecInv.step (x := x) hrd2.out (by unfold eat; rw [← hk2.out]; rfl) (by unfold evOf; rw [← hk2.out]; rfl) hbel2.out hst hown3.out hdec.out hsz
      · go_wp2_with (at_builtin; refine wpList_append_own _ rfl _ _ 55 rfl w.heap.size 62 i0 (.agg #[.int .i64 0, .int .i64 0, .int .i64 0, .int .i64 0, .int .i64 0]) 5 40 Try.underlying55 hi.out hz0.out hz1.out hz2.out rfl (by decide) _ _ _ rfl ((hown2.out.alloc _).alloc _) ⟨w2.heap.size + 1, 0, none⟩ 1 1 (evCells (3, (0, 0, 0), x / 8)) rfl rfl (cells_new _ _ _ (by simp)) (by simp [evCells, Value.oneCell']) (by unfold maxLen; omega) (by omega) (by simp; omega) ?_; intro v3 w3 hown3 hgr3 _; replace hown3 := Aside0.mk hown3; replace hgr3 := Aside0.mk hgr3)
        have hst := (((Below.refl w.heap.size w2).alloc hs2 (.cells (evCells (3, (0, 0, 0), x / 8)).toArray 62)).alloc (by simp; omega) (.cells (evCells (3, (0, 0, 0), x / 8)).toArray 62)).grown hgr3.out (by simp; omega) (fun q e => own_base hown2.out q e)
        go_roundg r.length
        case measure => simp
        case rel => exact DecInv.step (x := x) hrd2.out (by unfold eat; rw [← hk2.out]; rfl) (by unfold evOf; rw [← hk2.out]; rfl) hbel2.out hst hown3.out hdec.out hsz
      · go_wp2_with (at_builtin; refine wpList_append_own _ rfl _ _ 55 rfl w.heap.size 62 i0 (.agg #[.int .i64 0, .int .i64 0, .int .i64 0, .int .i64 0, .int .i64 0]) 5 40 Try.underlying55 hi.out hz0.out hz1.out hz2.out rfl (by decide) _ _ _ rfl ((hown2.out.alloc _).alloc _) ⟨w2.heap.size + 1, 0, none⟩ 1 1 (evCells (4, (0, 0, 0), x / 8)) rfl rfl (cells_new _ _ _ (by simp)) (by simp [evCells, Value.oneCell']) (by unfold maxLen; omega) (by omega) (by simp; omega) ?_; intro v3 w3 hown3 hgr3 _; replace hown3 := Aside0.mk hown3; replace hgr3 := Aside0.mk hgr3)
        have hst := (((Below.refl w.heap.size w2).alloc hs2 (.cells (evCells (4, (0, 0, 0), x / 8)).toArray 62)).alloc (by simp; omega) (.cells (evCells (4, (0, 0, 0), x / 8)).toArray 62)).grown hgr3.out (by simp; omega) (fun q e => own_base hown2.out q e)
        go_roundg r.length
        case measure => simp
        case rel => exact DecInv.step (x := x) hrd2.out (by unfold eat; rw [← hk2.out]; rfl) (by unfold evOf; rw [← hk2.out]; rfl) hbel2.out hst hown3.out hdec.out hsz
      · go_wp2_with (at_builtin; refine wpList_append_own _ rfl _ _ 55 rfl w.heap.size 62 i0 (.agg #[.int .i64 0, .int .i64 0, .int .i64 0, .int .i64 0, .int .i64 0]) 5 40 Try.underlying55 hi.out hz0.out hz1.out hz2.out rfl (by decide) _ _ _ rfl ((hown2.out.alloc _).alloc _) ⟨w2.heap.size + 1, 0, none⟩ 1 1 (evCells (5, (0, 0, 0), 0)) rfl rfl (cells_new _ _ _ (by simp)) (by simp [evCells, Value.oneCell']) (by unfold maxLen; omega) (by omega) (by simp; omega) ?_; intro v3 w3 hown3 hgr3 _; replace hown3 := Aside0.mk hown3; replace hgr3 := Aside0.mk hgr3)
        have hst := (((Below.refl w.heap.size w2).alloc hs2 (.cells (evCells (5, (0, 0, 0), 0)).toArray 62)).alloc (by simp; omega) (.cells (evCells (5, (0, 0, 0), 0)).toArray 62)).grown hgr3.out (by simp; omega) (fun q e => own_base hown2.out q e)
        go_roundg r.length
        case measure => simp
        case rel => exact DecInv.step (x := x) hrd2.out (by unfold eat; rw [← hk2.out]; rfl) (by unfold evOf; rw [← hk2.out]; rfl) hbel2.out hst hown3.out hdec.out hsz
      all_goals
        have hT0 : TriInv w.heap.size w2 r 0 v2 (w2.alloc (.cells #[.int .i64 1, .int .i64 0, .int .i64 0, .int .i64 0, .int .i64 0] 62)) :=
          ⟨hrd2.out.below ((Below.refl _ _).alloc hs2 _), blk_new _ _, (Below.refl _ _).alloc (Nat.le_refl _) _, by simp⟩
        replace hT0 := Aside0.mk hT0
        go_wp2_with fail
        go_loopw [0, 25] (fun b i wr => ∃ j : Nat, j ≤ 3 ∧ i = .int .i64 j ∧ TriInv w.heap.size w2 r j b wr) (fun _ i _ => 3 - (intOf i).toNat)
        case atStart => exact ⟨0, by omega, rfl, hT0.out⟩
        case round =>
          obtain ⟨j, hj, rfl, hTj⟩ := hrel
          by_cases hj3 : j < 3
          · have HT2 := Aside0.mk (take_walk _ wr _ _ hTj.1)
            have hblk := hTj.2.1
            have HTj := Aside0.mk hTj
            have hbytes := hTj.1.bytes.hd
            have hjc : j = 0 ∨ j = 1 ∨ j = 2 := by omega
            have hszr := hTj.2.2.2
            clear hTj
            rcases hjc with rfl | rfl | rfl
            all_goals
              go_wp2_with fail
              refine HT2.out.mono ?_
              rintro e w5 ⟨v4, rfl, hrd5, hbe5, hh5⟩
              clear HT2
              have hblk5 := (show w5.heap[w2.heap.size]? = wr.heap[w2.heap.size]? by rw [hh5]).trans hblk
              obtain ⟨z1, c1⟩ : ∃ z, w5.cell? ⟨w2.heap.size, 1, none⟩ = some z := ⟨_, (blk_cell hblk5 1).trans rfl⟩
              obtain ⟨z2, c2⟩ : ∃ z, w5.cell? ⟨w2.heap.size, 2, none⟩ = some z := ⟨_, (blk_cell hblk5 2).trans rfl⟩
              obtain ⟨z3, c3⟩ : ∃ z, w5.cell? ⟨w2.heap.size, 3, none⟩ = some z := ⟨_, (blk_cell hblk5 3).trans rfl⟩
              have f1 : w5.frozen? ⟨w2.heap.size, 1, none⟩ = false := blk_frozen hblk5 1
              have f2 : w5.frozen? ⟨w2.heap.size, 2, none⟩ = false := blk_frozen hblk5 2
              have f3 : w5.frozen? ⟨w2.heap.size, 3, none⟩ = false := blk_frozen hblk5 3
              have hn5 := Aside0.mk (HTj.out.take hs2 (by omega) hrd5 hh5 hbe5)
              clear hh5 hblk5 hrd5 hbe5 hblk hszr
              go_wp2_with fail
              go_roundw
              case rel => refine ⟨_, ?_, ?_, hn5.out⟩ <;> first | omega | rfl | go_num
              case measure => simp [intOf]
          · obtain rfl : j = 3 := by omega
            have hblk := hTj.2.1
            have HTj := Aside0.mk hTj
            have c0 : wr.cell? ⟨w2.heap.size, 0, none⟩ = some (.int .i64 1) := (blk_cell hblk 0).trans rfl
            have c1 : wr.cell? ⟨w2.heap.size, 1, none⟩ = some (.int .i64 (hd r + 1)) := (blk_cell hblk 1).trans rfl
            have c2 : wr.cell? ⟨w2.heap.size, 2, none⟩ = some (.int .i64 (hd r.tail + 1)) := (blk_cell hblk 2).trans rfl
            have c3 : wr.cell? ⟨w2.heap.size, 3, none⟩ = some (.int .i64 (hd r.tail.tail + 1)) := (blk_cell hblk 3).trans rfl
            have c4 : wr.cell? ⟨w2.heap.size, 4, none⟩ = some (.int .i64 0) := (blk_cell hblk 4).trans rfl
            have hszr : w2.heap.size + 1 ≤ wr.heap.size := Nat.le_of_eq hTj.2.2.2.symm
            have hown6 := Aside0.mk (owns_below hown2.out hTj.2.2.1)
            clear hTj hblk
            go_wp2_with (at_builtin; refine wpList_append_own _ rfl _ _ 55 rfl w.heap.size 62 i0 (.agg #[.int .i64 0, .int .i64 0, .int .i64 0, .int .i64 0, .int .i64 0]) 5 40 Try.underlying55 hi.out hz0.out hz1.out hz2.out rfl (by decide) _ _ _ rfl (hown6.out.alloc _) ⟨wr.heap.size, 0, none⟩ 1 1 (evCells (1, (hd r + 1, hd r.tail + 1, hd r.tail.tail + 1), 0)) rfl rfl (cells_new _ _ _ (by simp)) (by simp [evCells, Value.oneCell']) (by unfold maxLen; omega) (by omega) (by simp; omega) ?_; intro v3 w3 hown3 hgr3 _; replace hown3 := Aside0.mk hown3; replace hgr3 := Aside0.mk hgr3)
            have hst0 : Below w.heap.size w2 wr := HTj.out.2.2.1.mono hs2
            have hst6 := hst0.trans (Below.trans (((Below.refl w.heap.size wr).alloc (by omega) (.cells (evCells (1, (hd r + 1, hd r.tail + 1, hd r.tail.tail + 1), 0)).toArray 62))) ((Below.refl w.heap.size _).grown hgr3.out (by rw [World.size_alloc]; omega) (fun q e => own_base hown6.out q e)))
            go_roundg (dropT 3 r).length
            case measure => simp [dropT]; omega
            case rel => exact DecInv.step (x := x) (r := r) (W := wr) HTj.out.1 (by unfold eat; rw [← hk2.out]; rfl) (by unfold evOf; rw [← hk2.out]; rfl) (hbel2.out.trans hst0) (Below.trans (((Below.refl w.heap.size wr).alloc (by omega) (.cells (evCells (1, (hd r + 1, hd r.tail + 1, hd r.tail.tail + 1), 0)).toArray 62))) ((Below.refl w.heap.size _).grown hgr3.out (by rw [World.size_alloc]; omega) (fun q e => own_base hown6.out q e))) hown3.out hdec.out hsz

end Go.Proofs.Ytnncomhgclffaaa.EV
